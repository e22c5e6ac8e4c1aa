/- Who is whose, as it lies in memory, and what is asked of it. -/
import Derived.Test.YtegaklgjcicnfaaGreatGB
set_option linter.unusedSimpArgs false
set_option linter.unusedVariables false
namespace Go.Proofs.YtegaklgjcicnfaaGreat
open Go Go.Proofs.YtegaklgjcicnfaaGreat.Abs
def shownAt (l : List Nd) (k : Nat) : Bool := match l[k]? with | some x => x.s.shown | none => false
def madeL (l : List Nd) (k : Nat) : Bool := (chain (par l) k).all fun a => shownAt l a.toNat
def posAt (l : List Nd) (k : Nat) : Int := match l[k]? with | some x => x.s.pos | none => 0
def outL (l : List Nd) (k : Nat) : Bool := madeL l k && (decide (0 < k) && (posAt l k == 2 || posAt l k == 3))
theorem madeL_eq {l : List Nd} (ht : Tr (par l) l.length) {k : Nat} (hk : k < l.length) : madeL l k = (shownAt l k && (if par l k < 0 then true else madeL l (par l k).toNat)) := by
 unfold madeL
 rw [chain_pos ht (by omega) (by omega), List.all_cons, Int.toNat_natCast]
 have := ht k hk
 split
 ·rename_i h
  rw [chain_neg _ h]; rfl
 ·rw [Int.toNat_of_nonneg (by omega)]
/-- A node's children, as they lie: each one's parent it is. -/
def KidsAt (S : St) (hi : Nat) (l : List Nd) (n : Nat) (v : Value) : Prop :=
 ∃ ms : List Int, Sl S 1 v ms.length (iV ms) ∧ (∀ d, Value.blkOf v = some d → d < hi) ∧ ms.length ≤ l.length ∧ (∀ m ∈ ms, ∃ k : Nat, m = k ∧ n < k ∧ k < l.length ∧ par l k = n) ∧ ms.Pairwise (· < ·)
/-- The kin of a list, in blocks below a bound. -/
structure KinAt (S : St) (hi kp : Nat) (l : List Nd) : Prop where
 lt : kp < hi
 ex : ∃ dl dk dm de dd el, S.blk kp = some ⟨false, [.slice (some ⟨dl, 0, none⟩) l.length el, .slice (some ⟨dk, 0, none⟩) l.length 1, .slice (some ⟨de, 0, none⟩) l.length 1, .slice (some ⟨dd, 0, none⟩) l.length 1, .slice (some ⟨dm, 0, none⟩) l.length 1]⟩ ∧
  (dl < hi ∧ (el = 0 ∨ el = 49) ∧ S.blk dl = some ⟨false, ndCells l⟩) ∧ (dm < hi ∧ S.blk dm = some ⟨false, (List.range l.length).map fun k => .bool (madeL l k)⟩) ∧
  (dk < hi ∧ ∃ kc : List Value, S.blk dk = some ⟨false, kc⟩ ∧ kc.length = l.length ∧ ∀ n (h : n < kc.length), KidsAt S hi l n kc[n])
theorem KinAt.keep {S S' : St} {hi kp : Nat} {l : List Nd} (h : KinAt S hi kp l) (hk : ∀ i, i < hi → S'.blk i = S.blk i) : KinAt S' hi kp l := by
 obtain ⟨h0, dl, dk, dm, de, dd, el, h1, ⟨h2, h2e, h2b⟩, ⟨h3, h3b⟩, h4, kc, h5, h6, h7⟩ := h
 refine ⟨h0, dl, dk, dm, de, dd, el, by rw [hk _ h0]; exact h1, ⟨h2, h2e, by rw [hk _ h2]; exact h2b⟩, ⟨h3, by rw [hk _ h3]; exact h3b⟩, h4, kc, by rw [hk _ h4]; exact h5, h6, fun n hn => ?_⟩
 obtain ⟨ms, m1, m2, m3, m4⟩ := h7 n hn
 exact ⟨ms, m1.keep fun d hd => hk d (m2 d hd), m2, m3, m4⟩
theorem KinAt.keeps {S S' : St} {hi kp : Nat} {l : List Nd} (h : KinAt S hi kp l) (hh : hi ≤ S.next) (hk : KeepsAll S S') : KinAt S' hi kp l := h.keep fun i hi' => hk.2 i (by omega) trivial
section
variable {S : St} {hi kp : Nat} {l : List Nd}
theorem len50 (h : KinAt S hi kp l) : ACalls Tryz.prog 50 [ptr kp] S fun r S' => r = .int .i64 l.length ∧ S' = S := by
 refine run_of hmix Tryz.func50 cF50 rfl fun hL Q hQ => ?_
 obtain ⟨_, dl, dk, dm, de, dd, el, h1, _⟩ := h
 have r0 := rd_of_blk h1 0
 simp only [go_sem, seval, aF50, r0]
 refine fin_at hQ rfl ?_; simp only [go_sem, seval, aF50]; rw [retQ_some]; simp only [oneOr]
 exact ⟨trivial, trivial⟩
theorem has66 (h : KinAt S hi kp l) (n : Int) : ACalls Tryz.prog 66 [ptr kp, .int .i64 n] S fun r S' => r = .bool (decide (0 ≤ n) && decide (n < l.length)) ∧ S' = S := by
 refine run_of hmix Tryz.func66 cF66 rfl fun hL Q hQ => ?_
 by_cases h0 : 0 ≤ n
 ·simp only [go_sem, seval, aF66, ge_iff_le, h0]
  refine cK_of (len50 h) ?_
  rintro v S1 _ hL1 ⟨rfl, rfl⟩
  simp only [go_sem, seval]
  refine fin_at hQ rfl ?_; simp only [go_sem, seval, aF66]; rw [retQ_some]; simp only [oneOr]
  simp
  try omega
 ·simp only [go_sem, seval, aF66, ge_iff_le, h0]
  refine fin_at hQ rfl ?_; simp only [go_sem, seval, aF66]; rw [retQ_some]; simp only [oneOr]
  simp
  try omega
theorem has66' (h : KinAt S hi kp l) {n : Nat} (hn : n < l.length) : ACalls Tryz.prog 66 [ptr kp, .int .i64 n] S fun r S' => r = .bool true ∧ S' = S :=
 (has66 h n).mono fun v S' _ ⟨h1, h2⟩ => ⟨by rw [h1]; simp [hn], h2⟩
theorem style55 (h : KinAt S hi kp l) (hok : ∀ x ∈ l, x.Ok) {n : Nat} (hn : n < l.length) : ACalls Tryz.prog 55 [ptr kp, .int .i64 n] S fun r S' => r = .agg l[n].s.cells.toArray ∧ S' = S := by
 refine run_of hmix Tryz.func55 cF55 rfl fun hL Q hQ => ?_
 obtain ⟨_, dl, dk, dm, de, dd, el, h1, ⟨_, he, h2⟩, _⟩ := id h
 have r0 := rd_of_blk h1 0
 have hs := style_at hok (l := l) (o := 0) (d := dl) (by rw [cellsOf_of_blk h2, if_pos (by rw [ndCells_length _ hok]; simp), List.drop_zero, List.take_of_length_le (by rw [ndCells_length _ hok]; exact Nat.le_refl _)]) n hn
 have hc := (hok _ (List.getElem_mem hn)).s.c
 rw [Nat.zero_add] at hs
 have hn' : (n : Int) < l.length := by omega
 have hn0 : (0 : Int) ≤ n := by omega
 simp only [go_sem, seval, aF55]
 refine cK_of (has66' h hn) ?_
 rintro v S1 _ hL1 ⟨rfl, rfl⟩
 simp only [go_sem, seval, r0, hn', hn0, Int.toNat_natCast, hs, hc.len]
 refine fin_at hQ rfl ?_; simp only [go_sem, seval, aF55, hc.len, hc.all]; rw [retQ_some]; simp only [oneOr]
 exact ⟨trivial, trivial⟩
theorem parent70 (h : KinAt S hi kp l) (hok : ∀ x ∈ l, x.Ok) {n : Nat} (hn : n < l.length) : ACalls Tryz.prog 70 [ptr kp, .int .i64 n] S fun r S' => r = .int .i64 (par l n) ∧ S' = S := by
 refine run_of hmix Tryz.func70 cF70 rfl fun hL Q hQ => ?_
 obtain ⟨_, dl, dk, dm, de, dd, el, h1, ⟨_, he, h2⟩, _⟩ := id h
 have r0 := rd_of_blk h1 0
 have hs := par_at hok (l := l) (o := 0) (d := dl) (by rw [cellsOf_of_blk h2, if_pos (by rw [ndCells_length _ hok]; simp), List.drop_zero, List.take_of_length_le (by rw [ndCells_length _ hok]; exact Nat.le_refl _)]) n hn
 rw [Nat.zero_add] at hs
 have hn' : (n : Int) < l.length := by omega
 have hn0 : (0 : Int) ≤ n := by omega
 simp only [go_sem, seval, aF70]
 refine cK_of (has66' h hn) ?_
 rintro v S1 _ hL1 ⟨rfl, rfl⟩
 simp only [go_sem, seval, r0, hn', hn0, Int.toNat_natCast, hs]
 refine fin_at hQ rfl ?_; simp only [go_sem, seval, aF70]; rw [retQ_some]; simp only [oneOr]
 exact ⟨trivial, trivial⟩
theorem made39 (h : KinAt S hi kp l) {n : Nat} (hn : n < l.length) : ACalls Tryz.prog 39 [ptr kp, .int .i64 n] S fun r S' => r = .bool (madeL l n) ∧ S' = S := by
 refine run_of hmix Tryz.func39 cF39 rfl fun hL Q hQ => ?_
 obtain ⟨_, dl, dk, dm, de, dd, el, h1, _, ⟨_, h2⟩, _⟩ := id h
 have r0 := rd_of_blk h1 4
 have r1 := rd_of_blk h2 n
 have r2 : ((List.range l.length).map fun k => Value.bool (madeL l k))[n]? = some (.bool (madeL l n)) := by simp [hn]
 have hn' : (n : Int) < l.length := by omega
 have hn0 : (0 : Int) ≤ n := by omega
 simp only [go_sem, seval, aF39]
 refine cK_of (has66' h hn) ?_
 rintro v S1 _ hL1 ⟨rfl, rfl⟩
 simp only [go_sem, seval, r0, hn', hn0, Int.toNat_natCast, Nat.mul_one, r1, r2]
 refine fin_at hQ rfl ?_; simp only [go_sem, seval, aF39]; rw [retQ_some]; simp only [oneOr]
 exact ⟨trivial, trivial⟩
theorem pos_at (hok : ∀ x ∈ l, x.Ok) {d : Nat} (h : S.blk d = some ⟨false, ndCells l⟩) {n : Nat} (hn : n < l.length) : rd S d (n * 49 + 1) = some (.int .i64 (posAt l n)) := by
 have hs := style_at hok (l := l) (o := 0) (d := d) (by rw [cellsOf_of_blk h, if_pos (by rw [ndCells_length _ hok]; simp), List.drop_zero, List.take_of_length_le (by rw [ndCells_length _ hok]; exact Nat.le_refl _)]) n hn
 rw [Nat.zero_add] at hs
 rw [rd_of_cells hs (by omega), (hok _ (List.getElem_mem hn)).s.c.pos]
 unfold posAt
 rw [List.getElem?_eq_getElem hn]
theorem out44 (h : KinAt S hi kp l) (hok : ∀ x ∈ l, x.Ok) {n : Nat} (hn : n < l.length) : ACalls Tryz.prog 44 [ptr kp, .int .i64 n] S fun r S' => r = .bool (outL l n) ∧ S' = S := by
 refine run_of hmix Tryz.func44 cF44 rfl fun hL Q hQ => ?_
 obtain ⟨_, dl, dk, dm, de, dd, el, h1, ⟨_, he, h2⟩, _⟩ := id h
 have r0 := rd_of_blk h1 0
 have rp := pos_at hok h2 hn
 have hn' : (n : Int) < l.length := by omega
 have hn0 : (0 : Int) ≤ n := by omega
 simp only [go_sem, seval, aF44]
 refine cK_of (made39 h hn) ?_
 rintro v S1 _ hL1 ⟨rfl, rfl⟩
 unfold outL at hQ
 cases hm : madeL l n
 ·simp only [go_sem, seval]
  refine fin_at hQ rfl ?_; simp only [go_sem, seval, aF44]; rw [retQ_some]; simp only [oneOr]
  simp [hm]
 by_cases hp : 0 < n
 ·have hp' : (0 : Int) < n := by omega
  cases h2 : posAt l n == 2
  ·simp only [go_sem, seval, hp', r0, hn', hn0, Int.toNat_natCast, rp, h2]
   refine fin_at hQ rfl ?_; simp only [go_sem, seval, aF44]; rw [retQ_some]; simp only [oneOr]
   simp [hm, hp]
   intro e; exact absurd e (by simpa using h2)
  ·simp only [go_sem, seval, hp', r0, hn', hn0, Int.toNat_natCast, rp, h2]
   refine fin_at hQ rfl ?_; simp only [go_sem, seval, aF44]; rw [retQ_some]; simp only [oneOr]
   simp only [beq_iff_eq] at h2
   simp [hm, hp, h2]
 ·have hp' : ¬ ((0 : Int) < n) := by omega
  simp only [go_sem, seval, hp']
  refine fin_at hQ rfl ?_; simp only [go_sem, seval, aF44]; rw [retQ_some]; simp only [oneOr]
  simp [hp]
end
end Go.Proofs.YtegaklgjcicnfaaGreat
namespace Go.Proofs.YtegaklgjcicnfaaGreat
open Go Go.Proofs.YtegaklgjcicnfaaGreat.Abs
theorem clone177 (v : Value) (xs : List Int) (S : St) (h : Sl S 1 v xs.length (iV xs)) (hn : xs.length ≤ 1000000) : ACalls Tryz.prog 177 [v] S fun r S' => Own S' 1 r xs.length (iV xs) ∧ KeepsAll S S' ∧ Fresh S r := by
 refine run_of hmix Tryz.func177 cF177 rfl fun hL Q hQ => ?_
 rcases id h with ⟨rfl, h0, he⟩ | ⟨d, o, e, rfl, he, hc⟩
 ·simp only [go_sem, seval, aF177]
  refine fin_at hQ rfl ?_; simp only [go_sem, seval, aF177]; rw [retQ_some]; simp only [oneOr]
  exact ⟨.inl ⟨rfl, h0, he⟩, Keeps.refl _ _, fun d hd => by simp [Value.blkOf] at hd⟩
 ·simp only [go_sem, seval, aF177]
  have hx : Own (S.new ⟨false, []⟩) 1 (.slice (some ⟨S.next, 0, none⟩) 0 1) 0 [] := .inr ⟨S.next, rfl, by simp [St.blk_new], rfl⟩
  have hL' := hL.new ⟨false, []⟩
  refine hK_of (append_live hL' (append_own (cs := []) (k := xs.length) (ds := iV xs) (by omega) hx (h.keeps hL (Keeps.of_new S _ fun _ => True) fun _ _ => trivial) (by omega)
   (R := fun v' S' => Own S' 1 v' (0 + xs.length) ([] ++ iV xs) ∧ Keeps (S.new ⟨false, []⟩) S' (fun i => Value.blkOf (.slice (some ⟨S.next, 0, none⟩) 0 1) ≠ some i) ∧ (∀ i, Value.blkOf v' = some i → Value.blkOf (.slice (some ⟨S.next, 0, none⟩) 0 1) = some i ∨ (S.new ⟨false, []⟩).next ≤ i))
   fun v' S' a b c => ⟨a, b, c⟩)) ?_
  rintro v1 S1 ⟨hL1, h1, h2, h3⟩
  simp only [go_sem, seval]
  refine fin_at hQ rfl ?_; simp only [go_sem, seval, aF177]; rw [retQ_some]; simp only [oneOr]
  refine ⟨by simpa using h1, ⟨Nat.le_trans (by simp [St.next_new]) h2.1, fun i hi _ => ?_⟩, fun i hi => ?_⟩
  ·rw [h2.2 i (by simp [St.next_new]; omega) (by simp [Value.blkOf]; omega), St.blk_new, if_neg (by omega)]
  ·rcases h3 i hi with hh | hh
   ·simp [Value.blkOf] at hh; omega
   ·simp [St.next_new] at hh; omega
/-- A test on numbers that turns nothing, wherever the blocks below a bound are as they were. -/
def IsTest (f : Value) (ms : List Int) (S0 : St) (hi : Nat) : Prop :=
 ∃ k cap, f = .func (.func k) #[] cap ∧ enters Tryz.prog k = true ∧ ∀ (S : St) (m : Int), (∀ i, i < hi → S.blk i = S0.blk i) → m ∈ ms → ACalls Tryz.prog k (.int .i64 m :: cap.toList) S fun r S' => (∃ b, r = .bool b) ∧ S' = S
theorem index176 (d e : Nat) (xs ms : List Int) (f : Value) (S0 S : St) (hi : Nat) (hf : IsTest f ms S0 hi) (hS : ∀ i, i < hi → S.blk i = S0.blk i) (hb : S.blk d = some ⟨false, iV xs⟩) (hm : ∀ x ∈ xs, x ∈ ms) (hn : xs.length ≤ 1000000) :
  ACalls Tryz.prog 176 [.slice (some ⟨d, 0, none⟩) xs.length e, f] S fun r S' => (∃ j : Int, r = .int .i64 j ∧ (j = -1 ∨ (0 ≤ j ∧ j < xs.length))) ∧ S' = S := by
 refine run_of hmix Tryz.func176 cF176 rfl fun hL Q hQ => ?_
 obtain ⟨k, cap, rfl, hent, hcall⟩ := hf
 simp only [go_sem, seval, aF176]
 refine lK_of (fun t' S' => S' = S ∧ ∃ j : Nat, j ≤ xs.length ∧ Slots t' [(0, .slice (some ⟨d, 0, none⟩) xs.length e), (1, .func (.func k) #[] cap), (6, .slice (some ⟨d, 0, none⟩) xs.length e), (7, .int .i64 xs.length), (8, .int .i64 j)]) (fun t' _ => xs.length - (RowKit.intOf (t' 8)).toNat) ?_ ?_
 ·refine ⟨rfl, 0, by omega, ?_⟩
  simp only [go_sem, seval, Int.natCast_add, Int.natCast_succ]
 rintro t1 S1 Q1 ⟨rfl, j, hj, hs⟩ hL1 hN hE
 simp only [slots_cons, slots_nil] at hs
 by_cases hjn : j = xs.length
 ·subst hjn
  simp only [go_sem, seval, hs, Int.lt_irrefl]
  refine hE _ _ _ (by simp) ?_
  simp only [go_sem, seval, hs]
  refine fin_at hQ rfl ?_; simp only [go_sem, seval, aF176, hs]; rw [retQ_some]; simp only [oneOr]
  exact ⟨⟨-1, rfl, .inl rfl⟩, trivial⟩
 ·have hjl : j < xs.length := by omega
  have hjl' : (j : Int) < xs.length := by omega
  have hj0 : (0 : Int) ≤ j := by omega
  have hw1 : IntKind.i64.wrap ((j : Int) + 1) = j + 1 := wrap64_id (by omega) (by omega)
  have hr := rd_of_blk hb j
  have hx := iV_at hjl
  simp only [go_sem, seval, hs, hjl', hj0, Int.toNat_natCast, Nat.mul_one, hr, hx]
  refine ⟨hent, cK_of (hcall _ _ hS (hm _ (List.getElem_mem hjl))) ?_⟩
  rintro v S2 _ hL2 ⟨⟨b, rfl⟩, rfl⟩
  cases b
  ·simp only [go_sem, seval, hs, hw1]
   refine hN _ _ ⟨rfl, j + 1, by omega, ?_⟩ ?_
   ·simp only [go_sem, seval, Int.natCast_add, Int.natCast_succ, hs]
   ·simp only [go_sem, seval, hs]
    simp [RowKit.intOf]
    omega
  ·simp only [go_sem, seval, hs]
   refine hE _ _ _ (by simp) ?_
   simp only [go_sem, seval, hs]
   refine fin_at hQ rfl ?_; simp only [go_sem, seval, aF176, hs]; rw [retQ_some]; simp only [oneOr]
   exact ⟨⟨j, rfl, .inr ⟨hj0, hjl'⟩⟩, trivial⟩
theorem zeros_iV (n : Nat) : (Builtin.zeroCells [Value.int .i64 0].toArray n).toList = iV (List.replicate n 0) := by
 simp only [Builtin.zeroCells, iV]
 apply List.ext_getElem
 ·simp
 ·intro i h1 h2
  simp at h1 ⊢
  simp [Nat.mod_one]
theorem ow_iV (xs ys : List Int) (o : Nat) (h : o + ys.length ≤ xs.length) : ow (iV xs) o (iV ys) = iV (xs.take o ++ ys ++ xs.drop (o + ys.length)) := by
 rw [ow_eq _ _ _ (by simpa [iV] using h)]
 simp [iV]
set_option maxHeartbeats 1000000 in
theorem delete160 (d : Nat) (xs ms : List Int) (f : Value) (S0 S : St) (hi : Nat) (hf : IsTest f ms S0 hi) (hd : hi ≤ d) (hS : ∀ i, i < hi → S.blk i = S0.blk i) (hb : S.blk d = some ⟨false, iV xs⟩) (hm : ∀ x ∈ xs, x ∈ ms) (hn : xs.length ≤ 1000000) :
  ACalls Tryz.prog 160 [.slice (some ⟨d, 0, none⟩) xs.length 1, f] S fun r S' => ∃ ys cs, r = .slice (some ⟨d, 0, none⟩) ys.length 1 ∧ S'.blk d = some ⟨false, iV cs⟩ ∧ ys.length ≤ cs.length ∧ cs.take ys.length = ys ∧ cs.length = xs.length ∧ (∀ y ∈ ys, y ∈ ms) ∧ ys.Sublist xs ∧ Keeps S S' (· ≠ d) := by
 refine run_of hmix Tryz.func160 cF160 rfl fun hL Q hQ => ?_
 simp only [go_sem, seval, aF160]
 refine cK_of (index176 d 1 xs ms f S0 S hi hf hS hb hm hn) ?_
 rintro v S1 _ hL1 ⟨⟨j, rfl, hj⟩, rfl⟩
 obtain ⟨k, cap, rfl, hent, hcall⟩ := hf
 rcases hj with rfl | ⟨hj0, hjl⟩
 ·simp only [go_sem, seval, beq_self_eq_true]
  refine fin_at hQ rfl ?_; simp only [go_sem, seval, aF160]; rw [retQ_some]; simp only [oneOr]
  exact ⟨xs, xs, rfl, hb, Nat.le_refl _, List.take_length, rfl, hm, List.Sublist.refl _, Keeps.refl _ _⟩
 ·obtain ⟨i0, rfl⟩ : ∃ i0 : Nat, j = i0 := ⟨j.toNat, by omega⟩
  have hne : ((i0 : Int) == -1) = false := beq_eq_false_iff_ne.2 (by omega)
  have hw0 : IntKind.i64.wrap ((i0 : Int) + 1) = i0 + 1 := wrap64_id (by omega) (by omega)
  simp only [go_sem, seval, hne, hw0]
  refine lK_of (fun t' S' => ∃ (a b : Nat) (ys : List Int), a < b ∧ b ≤ xs.length ∧ ys.length = xs.length ∧ (∀ y ∈ ys, y ∈ ms) ∧ ((ys.take a).Sublist (xs.take b) ∧ ys.drop b = xs.drop b) ∧ S'.blk d = some ⟨false, iV ys⟩ ∧ Keeps S1 S' (· ≠ d) ∧ Live S' ∧ Slots t' [(0, .slice (some ⟨d, 0, none⟩) xs.length 1), (1, .func (.func k) #[] cap), (5, .int .i64 a), (6, .int .i64 b)]) (fun t' _ => xs.length - (RowKit.intOf (t' 6)).toNat) ?_ ?_
  ·refine ⟨i0, i0 + 1, xs, by omega, by omega, rfl, hm, ⟨(List.take_prefix_take_left (by omega)).sublist, rfl⟩, hb, Keeps.refl _ _, hL1, ?_⟩
   simp only [go_sem, seval, Int.natCast_add, Int.natCast_succ]
  rintro t1 S2 Q1 ⟨a, b, ys, hab, hbl, hyl, hym, ⟨hsub, hdrop⟩, hb2, hk2, hL2, hs⟩ _ hN hE
  simp only [slots_cons, slots_nil] at hs
  have hd2 := hL2 _ _ hb2
  have hd1 := hL1 _ _ hb
  by_cases hbn : b = xs.length
  ·subst hbn
   have ha0 : (0 : Int) ≤ a := by omega
   have hal : a ≤ xs.length := by omega
   have hsl : 0 + a * 1 + (xs.length - a) * 1 ≤ (iV ys).length := by rw [iV_length]; omega
   have hne0 : ¬ (xs.length - a = 0) := by omega
   simp only [go_sem, seval, hs, Int.lt_irrefl]
   refine hE _ _ _ (by simp) ?_
   have hclr : clearV [.int .i64 0] (.slice (some ⟨d, a, none⟩) (xs.length - a) 1) S2 = some (undef, S2.set d ⟨false, iV (ys.take a ++ List.replicate (xs.length - a) 0 ++ ys.drop (a + (List.replicate (xs.length - a) (0 : Int)).length))⟩) := by
    unfold clearV
    simp only [hne0, if_false, hb2]
    rw [if_pos ⟨trivial, by simp [iV_length]; omega⟩, zeros_iV, ow_iV _ _ _ (by simp; omega)]
   simp only [go_sem, seval, hs, ha0, Int.toNat_natCast, Nat.mul_one, hal, hclr]
   refine fin_at hQ rfl ?_; simp only [go_sem, seval, aF160, hs]; rw [retQ_some]; simp only [oneOr]
   have hta : (ys.take a).length = a := by rw [List.length_take, Nat.min_eq_left (by omega)]
   refine ⟨ys.take a, ys.take a ++ List.replicate (xs.length - a) 0 ++ ys.drop (a + (List.replicate (xs.length - a) (0 : Int)).length), by rw [hta]; rfl, by simp [St.blk_set], by simp, ?_, by simp; omega, fun y hy => hym y (List.mem_of_mem_take hy), by rw [List.take_length] at hsub; exact hsub, hk2.set (fun i _ h => h) _⟩
   rw [hta, List.append_assoc, List.take_left' hta]
  ·have hbl' : b < xs.length := by omega
   have hblI : (b : Int) < xs.length := by omega
   have hb0 : (0 : Int) ≤ b := by omega
   have ha0 : (0 : Int) ≤ a := by omega
   have haI : (a : Int) < xs.length := by omega
   have hw1 : IntKind.i64.wrap ((b : Int) + 1) = b + 1 := wrap64_id (by omega) (by omega)
   have hw2 : IntKind.i64.wrap ((a : Int) + 1) = a + 1 := wrap64_id (by omega) (by omega)
   have hr := rd_of_blk hb2 b
   have hx := iV_at (xs := ys) (j := b) (by omega)
   have hd1' : ys.drop (b + 1) = xs.drop (b + 1) := by rw [← List.drop_drop, hdrop, List.drop_drop]
   have hyx : ys[b]'(by omega) = xs[b] := by
    have e1 : (ys.drop b)[0]? = (xs.drop b)[0]? := by rw [hdrop]
    rw [List.getElem?_drop, List.getElem?_drop, Nat.add_zero, List.getElem?_eq_getElem (by omega), List.getElem?_eq_getElem (by omega)] at e1
    exact Option.some.inj e1
   have hstep : ((ys.set a (ys[b]'(by omega))).take (a + 1)).Sublist (xs.take (b + 1)) ∧ (ys.set a (ys[b]'(by omega))).drop (b + 1) = xs.drop (b + 1) := by
    refine ⟨?_, ?_⟩
    ·rw [List.take_succ_eq_append_getElem (by simpa using (by omega : a < ys.length)), List.take_succ_eq_append_getElem hbl', List.take_set_of_le (Nat.le_refl _), List.getElem_set_self, hyx]
     exact hsub.append (List.Sublist.refl _)
    ·rw [List.drop_set_of_lt (by omega), hd1']
   simp only [go_sem, seval, hs, hblI, hb0, Int.toNat_natCast, Nat.mul_one, hr, hx]
   refine ⟨hent, cK_of (hcall _ _ (fun i hii => by rw [hk2.2 i (by omega) (by omega)]; exact hS i hii) (hym _ (List.getElem_mem (by omega)))) ?_⟩
   rintro v S3 _ hL3 ⟨⟨c, rfl⟩, rfl⟩
   cases c
   ·have hal : a + 1 ≤ (iV ys).length := by rw [iV_length]; omega
    have hset : (iV ys).set a (.int .i64 (ys[b]'(by omega))) = iV (ys.set a (ys[b]'(by omega))) := by simp [iV]
    simp only [go_sem, seval, hs, ha0, haI, hb2, hal, hset, hw1, hw2, Int.toNat_natCast, Nat.mul_one]
    refine hN _ _ ⟨a + 1, b + 1, ys.set a (ys[b]'(by omega)), by omega, by omega, by simpa using hyl, fun y hy => ?_, ⟨hstep.1, hstep.2⟩, by simp [St.blk_set], hk2.set (fun i _ h => h) _, hL2.set _ _ hd2, ?_⟩ ?_
    ·rcases List.mem_or_eq_of_mem_set hy with h | rfl
     ·exact hym y h
     ·exact hym _ (List.getElem_mem _)
    ·simp only [go_sem, seval, Int.natCast_add, Int.natCast_succ, hs]
    ·simp only [go_sem, seval, hs]
     simp [RowKit.intOf]
     omega
   ·simp only [go_sem, seval, hs, hw1]
    refine hN _ _ ⟨a, b + 1, ys, by omega, by omega, hyl, hym, ⟨hsub.trans (List.take_prefix_take_left (by omega)).sublist, hd1'⟩, hb2, hk2, hL2, ?_⟩ ?_
    ·simp only [go_sem, seval, Int.natCast_add, Int.natCast_succ, hs]
    ·simp only [go_sem, seval, hs]
     simp [RowKit.intOf]
     omega
theorem index176_nil (f : Value) (S : St) : ACalls Tryz.prog 176 [.slice none 0 0, f] S fun r S' => r = .int .i64 (-1) ∧ S' = S := by
 refine run_of hmix Tryz.func176 cF176 rfl fun hL Q hQ => ?_
 simp only [go_sem, seval, aF176]
 refine lK_unroll ?_
 simp only [go_sem, seval]
 refine fin_at hQ rfl ?_; simp only [go_sem, seval, aF176]; rw [retQ_some]; simp only [oneOr]
 exact ⟨trivial, trivial⟩
theorem delete160_nil (f : Value) (S : St) : ACalls Tryz.prog 160 [.slice none 0 0, f] S fun r S' => r = .slice none 0 0 ∧ S' = S := by
 refine run_of hmix Tryz.func160 cF160 rfl fun hL Q hQ => ?_
 simp only [go_sem, seval, aF160]
 refine cK_of (index176_nil f S) ?_
 rintro v S2 _ hL2 ⟨rfl, rfl⟩
 simp only [go_sem, seval, beq_self_eq_true]
 refine fin_at hQ rfl ?_; simp only [go_sem, seval, aF160]; rw [retQ_some]; simp only [oneOr]
 exact ⟨trivial, trivial⟩
/-- Children that were picked: numbers in a block of the call's own, that may go on behind them. -/
def Picked (l : List Nd) (n : Nat) (S S' : St) (r : Value) : Prop :=
 (r = .slice none 0 0 ∨ ∃ d ys cs, r = .slice (some ⟨d, 0, none⟩) ys.length 1 ∧ S'.blk d = some ⟨false, iV cs⟩ ∧ ys.length ≤ cs.length ∧ cs.take ys.length = ys ∧ cs.length ≤ l.length ∧ S.next ≤ d ∧ (∀ m ∈ ys, ∃ k : Nat, m = k ∧ n < k ∧ k < l.length ∧ par l k = n) ∧ ys.Pairwise (· < ·)) ∧ KeepsAll S S'
section
variable {S : St} {hi kp : Nat} {l : List Nd}
theorem kids161 (h : KinAt S hi kp l) (hl : l.length ≤ 1000000) {n : Nat} (hn : n < l.length) : ACalls Tryz.prog 161 [ptr kp, .int .i64 n] S fun r S' => ∃ ms : List Int, Own S' 1 r ms.length (iV ms) ∧ KeepsAll S S' ∧ Fresh S r ∧ ms.length ≤ l.length ∧ (∀ m ∈ ms, ∃ k : Nat, m = k ∧ n < k ∧ k < l.length ∧ par l k = n) ∧ ms.Pairwise (· < ·) := by
 refine run_of hmix Tryz.func161 cF161 rfl fun hL Q hQ => ?_
 obtain ⟨_, dl, dk, dm, de, dd, el, h1, _, _, _, kc, h5, h6, h7⟩ := id h
 have r0 := rd_of_blk h1 1
 have r1 := rd_of_blk h5 n
 have r2 := List.getElem?_eq_getElem (show n < kc.length by omega)
 obtain ⟨ms, m1, m2, m3, m4⟩ := h7 n (by omega)
 have hn' : (n : Int) < l.length := by omega
 have hn0 : (0 : Int) ≤ n := by omega
 simp only [go_sem, seval, aF161]
 refine cK_of (has66' h hn) ?_
 rintro v S1 _ hL1 ⟨rfl, rfl⟩
 simp only [go_sem, seval, r0, hn', hn0, Int.toNat_natCast, Nat.mul_one, r1, r2]
 refine cK_of (clone177 _ ms _ m1 (by omega)) ?_
 rintro v S2 _ hL2 ⟨g1, g2, g3⟩
 simp only [go_sem, seval]
 refine fin_at hQ rfl ?_; simp only [go_sem, seval, aF161]; rw [retQ_some]; simp only [oneOr]
 exact ⟨ms, g1, g2, g3, m3, m4⟩
theorem test162 (h : KinAt S hi kp l) (hok : ∀ x ∈ l, x.Ok) {bx : Nat} (hb : S.blk bx = some ⟨false, [ptr kp]⟩) {n : Nat} (hn : n < l.length) : ACalls Tryz.prog 162 [.int .i64 n, ptr bx] S fun r S' => (∃ b, r = .bool b) ∧ S' = S := by
 refine run_of hmix Tryz.func162 cF162 rfl fun hL Q hQ => ?_
 have r0 := rd_of_blk hb 0
 simp only [go_sem, seval, aF162, r0]
 refine cK_of (made39 h hn) ?_
 rintro v S1 _ hL1 ⟨rfl, rfl⟩
 cases madeL l n
 ·simp only [go_sem, seval]
  refine fin_at hQ rfl ?_; simp only [go_sem, seval, aF162]; rw [retQ_some]; simp only [oneOr]
  exact ⟨⟨_, rfl⟩, trivial⟩
 ·simp only [go_sem, seval, r0]
  refine cK_of (out44 h hok hn) ?_
  rintro v S2 _ hL2 ⟨rfl, rfl⟩
  simp only [go_sem, seval]
  refine fin_at hQ rfl ?_; simp only [go_sem, seval, aF162]; rw [retQ_some]; simp only [oneOr]
  exact ⟨⟨_, rfl⟩, trivial⟩
theorem flow134 (h : KinAt S hi kp l) (hh : hi ≤ S.next) (hok : ∀ x ∈ l, x.Ok) (hl : l.length ≤ 1000000) {n : Nat} (hn : n < l.length) : ACalls Tryz.prog 134 [ptr kp, .int .i64 n] S fun r S' => Picked l n S S' r := by
 refine run_of hmix Tryz.func134 cF134 rfl fun hL Q hQ => ?_
 simp only [go_sem, seval, aF134]
 obtain ⟨S0, hS0⟩ : ∃ S0, S0 = S.new ⟨false, [ptr kp]⟩ := ⟨_, rfl⟩
 have hb0 : S0.blk S.next = some ⟨false, [ptr kp]⟩ := by rw [hS0]; simp [St.blk_new]
 have k0 : KeepsAll S S0 := by rw [hS0]; exact Keeps.of_new _ _ _
 have hn0 : S0.next = S.next + 1 := by rw [hS0]; rfl
 rw [← hS0]
 have h0 := h.keeps hh k0
 refine cK_of (kids161 h0 hl hn) ?_
 rintro v S1 _ hL1 ⟨ms, g1, g2, g3, g4, g5, g6⟩
 have hb1 : S1.blk S.next = some ⟨false, [ptr kp]⟩ := by rw [g2.2 _ (by omega) trivial]; exact hb0
 have h1 := h0.keeps (by omega) g2
 simp only [go_sem, seval]
 have htest : IsTest (.func (.func 162) #[] #[ptr S.next]) ms S1 S0.next := by
  refine ⟨162, #[ptr S.next], rfl, by kernel_rfl, fun T m hT hm => ?_⟩
  obtain ⟨k, rfl, _, hk, _⟩ := g5 m hm
  exact test162 (h1.keep fun i hi' => hT i (by omega)) hok (by rw [hT _ (by omega)]; exact hb1) hk
 have K01 := k0.trans g2 fun _ _ _ => trivial
 rcases g1 with ⟨rfl, h0', _⟩ | ⟨d, rfl, hbd, hdl⟩
 ·
  obtain rfl := List.eq_nil_of_length_eq_zero h0'
  refine cK_of (delete160_nil _ _) ?_
  rintro v S2 _ hL2 ⟨rfl, rfl⟩
  simp only [go_sem, seval]
  refine fin_at hQ rfl ?_; simp only [go_sem, seval, aF134]; rw [retQ_some]; simp only [oneOr]
  exact ⟨.inl rfl, K01⟩
 ·have hd3 := g3 d (by simp [Value.blkOf])
  refine cK_of (delete160 d ms ms _ S1 S1 S0.next htest hd3 (fun _ _ => rfl) hbd (fun _ h => h) (by omega)) ?_
  rintro v S2 _ hL2 ⟨ys, cs, rfl, e1, e2, e3, e4, e5, e7, e6⟩
  simp only [go_sem, seval]
  refine fin_at hQ rfl ?_; simp only [go_sem, seval, aF134]; rw [retQ_some]; simp only [oneOr]
  refine ⟨.inr ⟨d, ys, cs, rfl, e1, e2, e3, by omega, by omega, fun m hm => g5 m (e5 m hm), g6.sublist e7⟩, K01.trans e6 fun i hi' _ => by omega⟩
end
end Go.Proofs.YtegaklgjcicnfaaGreat
namespace Go.Proofs.YtegaklgjcicnfaaGreat
open Go Go.Proofs.YtegaklgjcicnfaaGreat.Abs
theorem clone49 (d o e : Nat) (l : List Nd) (S : St) (hok : ∀ x ∈ l, x.Ok) (h : Ns S (.slice (some ⟨d, o, none⟩) l.length e) l) (h0 : 0 < l.length) (hn : l.length ≤ 1000000) : ACalls Tryz.prog 49 [.slice (some ⟨d, o, none⟩) l.length e] S fun r S' => ∃ d', r = .slice (some ⟨d', 0, none⟩) l.length 49 ∧ S'.blk d' = some ⟨false, ndCells l⟩ ∧ S.next ≤ d' ∧ KeepsAll S S' := by
 refine run_of hmix Tryz.func49 cF49 rfl fun hL Q hQ => ?_
 simp only [go_sem, seval, aF49]
 have hx : Own (S.new ⟨false, []⟩) 49 (.slice (some ⟨S.next, 0, none⟩) 0 49) 0 [] := .inr ⟨S.next, rfl, by simp [St.blk_new], rfl⟩
 have hL' := hL.new ⟨false, []⟩
 refine hK_of (append_live hL' (append_own (cs := []) (k := l.length) (ds := ndCells l) (by omega) hx (Sl.keeps hL h (Keeps.of_new S _ fun _ => True) fun _ _ => trivial) (by omega)
  (R := fun v' S' => Own S' 49 v' (0 + l.length) ([] ++ ndCells l) ∧ Keeps (S.new ⟨false, []⟩) S' (fun i => Value.blkOf (.slice (some ⟨S.next, 0, none⟩) 0 49) ≠ some i) ∧ (∀ i, Value.blkOf v' = some i → Value.blkOf (.slice (some ⟨S.next, 0, none⟩) 0 49) = some i ∨ (S.new ⟨false, []⟩).next ≤ i))
  fun v' S' a b c => ⟨a, b, c⟩)) ?_
 rintro v1 S1 ⟨hL1, h1, h2, h3⟩
 simp only [go_sem, seval]
 refine fin_at hQ rfl ?_; simp only [go_sem, seval, aF49]; rw [retQ_some]; simp only [oneOr]
 rw [Nat.zero_add, List.nil_append] at h1
 obtain ⟨d', rfl, hb, _⟩ := h1.ne h0
 refine ⟨d', rfl, hb, ?_, ⟨Nat.le_trans (by simp [St.next_new]) h2.1, fun i hi _ => ?_⟩⟩
 ·rcases h3 d' (by simp [Value.blkOf]) with hh | hh
  ·simp [Value.blkOf] at hh; omega
  ·simp [St.next_new] at hh; omega
 ·rw [h2.2 i (by simp [St.next_new]; omega) (by simp [Value.blkOf]; omega), St.blk_new, if_neg (by omega)]
def mV (l : List Nd) (j : Nat) : List Value := (List.range l.length).map fun k => .bool (decide (k < j) && madeL l k)
theorem mV_length (l : List Nd) (j : Nat) : (mV l j).length = l.length := by simp [mV]
theorem mV_set (l : List Nd) (j : Nat) (hj : j < l.length) : (mV l j).set j (.bool (madeL l j)) = mV l (j + 1) := by
 unfold mV
 apply List.ext_getElem
 ·simp
 ·intro k h1 h2
  simp at h1 h2
  rw [List.getElem_set]
  by_cases e : j = k
  ·subst e; simp
  ·rw [if_neg e]
   simp only [List.getElem_map, List.getElem_range]
   congr 2
   rw [decide_eq_decide]
   omega
theorem mV_get (l : List Nd) (j k : Nat) (hk : k < j) (hj : j ≤ l.length) : (mV l j)[k]? = some (.bool (madeL l k)) := by simp [mV, hk, show k < l.length by omega]
/-- The children known so far: in blocks of their own, apart. -/
structure KidsTo (S : St) (B : Nat) (l : List Nd) (j : Nat) (kc : List Value) : Prop where
 len : kc.length = l.length
 each : ∀ n (h : n < kc.length), ∃ ms : List Int, Own S 1 kc[n] ms.length (iV ms) ∧ (∀ d, Value.blkOf kc[n] = some d → B ≤ d) ∧ ms.length ≤ j ∧ (∀ m ∈ ms, ∃ k : Nat, m = k ∧ n < k ∧ k < j ∧ par l k = n) ∧ ms.Pairwise (· < ·)
 apart : ∀ n n' (h : n < kc.length) (h' : n' < kc.length), n ≠ n' → ∀ d, Value.blkOf kc[n] = some d → Value.blkOf kc[n'] ≠ some d
theorem KidsTo.keep {S S' : St} {B : Nat} {l : List Nd} {j : Nat} {kc : List Value} (h : KidsTo S B l j kc) (hk : ∀ i, B ≤ i → i < S.next → S'.blk i = S.blk i) (hL : Live S) : KidsTo S' B l j kc :=
 ⟨h.len, fun n hn => by
  obtain ⟨ms, m1, m2, m3, m4⟩ := h.each n hn
  exact ⟨ms, m1.keep fun d hd => hk d (m2 d hd) (m1.sl.lt hL hd), m2, m3, m4⟩, h.apart⟩
/-- What holds while the kin comes to be; B: the first block of it. -/
structure KinTo (S0 S : St) (B dl kp : Nat) (l : List Nd) (j : Nat) (kc : List Value) (ds es : List Int) (mc : List Value) : Prop where
 row : S.blk kp = some ⟨false, [.slice (some ⟨dl, 0, none⟩) l.length 49, .slice (some ⟨B, 0, none⟩) l.length 1, .slice (some ⟨B + 1, 0, none⟩) l.length 1, .slice (some ⟨B + 2, 0, none⟩) l.length 1, .slice (some ⟨B + 3, 0, none⟩) l.length 1]⟩
 nd : S.blk dl = some ⟨false, ndCells l⟩
 kids : S.blk B = some ⟨false, kc⟩
 ends : S.blk (B + 1) = some ⟨false, iV es⟩
 deep : S.blk (B + 2) = some ⟨false, iV ds⟩
 made : S.blk (B + 3) = some ⟨false, mc⟩
 to : KidsTo S (kp + 1) l j kc
 dn : ds.length = l.length
 en : es.length = l.length
 h1 : B + 4 ≤ dl
 h2 : dl < kp
 h0 : S0.next ≤ B
 keep : KeepsAll S0 S
 live : Live S
theorem iV_set (xs : List Int) (j : Nat) (n : Int) : (iV xs).set j (.int .i64 n) = iV (xs.set j n) := by simp [iV]
section
variable {S0 S : St} {B dl kp : Nat} {l : List Nd} {j : Nat} {kc : List Value} {ds es : List Int} {mc : List Value}
theorem KinTo.deepSet (K : KinTo S0 S B dl kp l j kc ds es mc) (i : Nat) (n : Int) : KinTo S0 (S.set (B + 2) ⟨false, (iV ds).set i (.int .i64 n)⟩) B dl kp l j kc (ds.set i n) es mc := by
 have e1 := K.h1
 have e2 := K.h2
 have e0 := K.h0
 have b : ∀ k, k ≠ B + 2 → (S.set (B + 2) ⟨false, (iV ds).set i (.int .i64 n)⟩).blk k = S.blk k := fun k hk => by rw [St.blk_set, if_neg hk]
 exact ⟨by rw [b _ (by omega)]; exact K.row, by rw [b _ (by omega)]; exact K.nd, by rw [b _ (by omega)]; exact K.kids, by rw [b _ (by omega)]; exact K.ends, by rw [St.blk_set, if_pos rfl, iV_set], by rw [b _ (by omega)]; exact K.made,
  K.to.keep (fun k hk _ => b k (by omega)) K.live, by simpa using K.dn, K.en, e1, e2, e0, K.keep.set (fun k hk _ => by omega) _, K.live.set _ _ (K.live _ _ K.deep)⟩
theorem KinTo.endSet (K : KinTo S0 S B dl kp l j kc ds es mc) (i : Nat) (n : Int) : KinTo S0 (S.set (B + 1) ⟨false, (iV es).set i (.int .i64 n)⟩) B dl kp l j kc ds (es.set i n) mc := by
 have e1 := K.h1
 have e2 := K.h2
 have e0 := K.h0
 have b : ∀ k, k ≠ B + 1 → (S.set (B + 1) ⟨false, (iV es).set i (.int .i64 n)⟩).blk k = S.blk k := fun k hk => by rw [St.blk_set, if_neg hk]
 exact ⟨by rw [b _ (by omega)]; exact K.row, by rw [b _ (by omega)]; exact K.nd, by rw [b _ (by omega)]; exact K.kids, by rw [St.blk_set, if_pos rfl, iV_set], by rw [b _ (by omega)]; exact K.deep, by rw [b _ (by omega)]; exact K.made,
  K.to.keep (fun k hk _ => b k (by omega)) K.live, K.dn, by simpa using K.en, e1, e2, e0, K.keep.set (fun k hk _ => by omega) _, K.live.set _ _ (K.live _ _ K.ends)⟩
theorem KinTo.madeSet (K : KinTo S0 S B dl kp l j kc ds es mc) (i : Nat) (v : Value) : KinTo S0 (S.set (B + 3) ⟨false, mc.set i v⟩) B dl kp l j kc ds es (mc.set i v) := by
 have e1 := K.h1
 have e2 := K.h2
 have e0 := K.h0
 have b : ∀ k, k ≠ B + 3 → (S.set (B + 3) ⟨false, mc.set i v⟩).blk k = S.blk k := fun k hk => by rw [St.blk_set, if_neg hk]
 exact ⟨by rw [b _ (by omega)]; exact K.row, by rw [b _ (by omega)]; exact K.nd, by rw [b _ (by omega)]; exact K.kids, by rw [b _ (by omega)]; exact K.ends, by rw [b _ (by omega)]; exact K.deep, by rw [St.blk_set, if_pos rfl],
  K.to.keep (fun k hk _ => b k (by omega)) K.live, K.dn, K.en, e1, e2, e0, K.keep.set (fun k hk _ => by omega) _, K.live.set _ _ (K.live _ _ K.made)⟩
theorem KinTo.up (K : KinTo S0 S B dl kp l j kc ds es mc) : KinTo S0 S B dl kp l (j + 1) kc ds es mc :=
 ⟨K.row, K.nd, K.kids, K.ends, K.deep, K.made, ⟨K.to.len, fun n hn => by
  obtain ⟨ms, m1, m2, m3, m4⟩ := K.to.each n hn
  exact ⟨ms, m1, m2, by omega, fun m hm => by obtain ⟨k, a, b, c, d⟩ := m4.1 m hm; exact ⟨k, a, b, by omega, d⟩, m4.2⟩, K.to.apart⟩, K.dn, K.en, K.h1, K.h2, K.h0, K.keep, K.live⟩
/-- One more child. -/
theorem KinTo.app (K : KinTo S0 S B dl kp l j kc ds es mc) {p : Nat} (hp : p < kc.length) (hpj : p < j) (hpar : par l j = p) {S3 : St} (hL3 : Live S3) {v : Value} {ms : List Int} (hms : Own S 1 kc[p] ms.length (iV ms)) (hml : ms.length ≤ j) (hme : (∀ m ∈ ms, ∃ k : Nat, m = k ∧ p < k ∧ k < j ∧ par l k = p) ∧ ms.Pairwise (· < ·))
  (ho : Own S3 1 v (ms.length + 1) (iV ms ++ [.int .i64 j])) (hk : Keeps S S3 (fun i => Value.blkOf kc[p] ≠ some i)) (hf : ∀ i, Value.blkOf v = some i → Value.blkOf kc[p] = some i ∨ S.next ≤ i) :
  KinTo S0 (S3.set B ⟨false, kc.set p v⟩) B dl kp l (j + 1) (kc.set p v) ds es mc := by
 have e1 := K.h1
 have e2 := K.h2
 have e0 := K.h0
 have hkn := K.live _ _ K.row
 obtain ⟨_, _, hlo, _⟩ := K.to.each p hp
 have old : ∀ k, k ≤ kp → S3.blk k = S.blk k := fun k hk' => hk.2 k (by omega) fun e => by have := hlo k e; omega
 have b : ∀ k, k ≠ B → (S3.set B ⟨false, kc.set p v⟩).blk k = S3.blk k := fun k hk => by rw [St.blk_set, if_neg hk]
 have o : ∀ k, k ≤ kp → k ≠ B → (S3.set B ⟨false, kc.set p v⟩).blk k = S.blk k := fun k h1 h2 => (b k h2).trans (old k h1)
 have hvlo : ∀ i, Value.blkOf v = some i → kp + 1 ≤ i := fun i hi => by
  rcases hf i hi with h | h
  ·exact hlo i h
  ·omega
 refine ⟨by rw [o _ (by omega) (by omega)]; exact K.row, by rw [o _ (by omega) (by omega)]; exact K.nd, by rw [St.blk_set, if_pos rfl], by rw [o _ (by omega) (by omega)]; exact K.ends, by rw [o _ (by omega) (by omega)]; exact K.deep, by rw [o _ (by omega) (by omega)]; exact K.made,
  ⟨by simpa using K.to.len, fun n hn => ?_, fun n n' hn hn' hne i hi hi' => ?_⟩, K.dn, K.en, e1, e2, e0,
  (K.keep.trans hk fun i hi _ e => by have := hlo i e; have := K.keep.1; omega).set (fun i hi _ => by omega) _, hL3.set _ _ (Nat.lt_of_lt_of_le (by omega : B < S.next) hk.1)⟩
 ·simp only [List.length_set] at hn
  by_cases hnp : p = n
  ·subst hnp
   refine ⟨ms ++ [(j : Int)], ?_, ?_, by simp; omega, fun m hm => ?_, List.pairwise_append.2 ⟨hme.2, List.pairwise_singleton _ _, fun a ha b hb => by obtain ⟨k, a1, _, a3, _⟩ := hme.1 a ha; simp at hb; omega⟩⟩
   ·simp only [List.getElem_set_self, List.length_append, List.length_singleton]
    have e : iV (ms ++ [(j : Int)]) = iV ms ++ [.int .i64 j] := by simp [iV]
    rw [e]
    exact ho.keep fun i hi => b i (by have := hvlo i hi; omega)
   ·intro i hi
    simp only [List.getElem_set_self] at hi
    exact hvlo i hi
   ·rcases List.mem_append.1 hm with hm | hm
    ·obtain ⟨k, a1, a2, a3, a4⟩ := hme.1 m hm
     exact ⟨k, a1, a2, by omega, a4⟩
    ·simp at hm
     exact ⟨j, hm, hpj, by omega, hpar⟩
  ·obtain ⟨ms', m1, m2, m3, m4⟩ := K.to.each n hn
   refine ⟨ms', ?_, ?_, by omega, fun m hm => by obtain ⟨k, a1, a2, a3, a4⟩ := m4.1 m hm; exact ⟨k, a1, a2, by omega, a4⟩, m4.2⟩
   ·rw [List.getElem_set_ne hnp]
    exact m1.keep fun i hi => (b i (by have := m2 i hi; omega)).trans (hk.2 i (m1.sl.lt K.live hi) fun e => K.to.apart p n hp hn hnp i e hi)
   ·intro i hi
    rw [List.getElem_set_ne hnp] at hi
    exact m2 i hi
 ·simp only [List.length_set] at hn hn'
  have cross : ∀ q (hq : q < kc.length), p ≠ q → ∀ i, Value.blkOf v = some i → Value.blkOf kc[q] = some i → False := fun q hq hpq i h1 h2 => by
   rcases hf i h1 with h | h
   ·exact K.to.apart p q hp hq hpq i h h2
   ·obtain ⟨ms', m1, _⟩ := K.to.each q hq
    have := m1.sl.lt K.live h2
    omega
  by_cases hnp : p = n
  ·subst hnp
   rw [List.getElem_set_self] at hi
   rw [List.getElem_set_ne hne] at hi'
   exact cross n' hn' hne i hi hi'
  ·rw [List.getElem_set_ne hnp] at hi
   by_cases hnp' : p = n'
   ·subst hnp'
    rw [List.getElem_set_self] at hi'
    exact cross n hn hnp i hi' hi
   ·rw [List.getElem_set_ne hnp'] at hi'
    exact K.to.apart n n' hn hn' hne i hi hi'
end
theorem new4 (S : St) (a b c d : Blk) : ((((S.new a).new b).new c).new d).blk S.next = some a ∧ ((((S.new a).new b).new c).new d).blk (S.next + 1) = some b ∧ ((((S.new a).new b).new c).new d).blk (S.next + 2) = some c ∧ ((((S.new a).new b).new c).new d).blk (S.next + 3) = some d := by
 refine ⟨?_, ?_, ?_, ?_⟩ <;> simp only [St.blk_new, St.next_new, if_true] <;> (repeat' split) <;> first | rfl | omega
theorem tform_of {l : List Nd} (h : tchk l = 0) : TForm l := Classical.byContradiction fun hf => by rw [tchk_form hf] at h; cases h
theorem shown_get {l : List Nd} (hok : ∀ x ∈ l, x.Ok) {j : Nat} (hj : j < l.length) : l[j].cells[0]? = some (.bool (shownAt l j)) := by
 have hs := (hok _ (List.getElem_mem hj)).s
 unfold Nd.cells shownAt
 rw [List.getElem?_append_left (by rw [hs.len]; omega), hs.c.shown, List.getElem?_eq_getElem hj]
theorem mV_zero (l : List Nd) : List.replicate l.length (.bool false) = mV l 0 := by
 apply List.ext_getElem
 ·simp [mV]
 ·intro k h1 h2; simp [mV]
theorem iV_zero (n : Nat) : List.replicate n (.int .i64 0) = iV (List.replicate n 0) := by simp [iV]
set_option maxHeartbeats 4000000 in
theorem of24 (x : Value) (l : List Nd) (S : St) (h : Ns S x l) (hok : ∀ x ∈ l, x.Ok) (hn : l.length ≤ 1000000) (ht : tchk l = 0) :
  ACalls Tryz.prog 24 [x] S fun r S' => ∃ kp hi, r = .tuple #[ptr kp, .int .i64 0] ∧ KinAt S' hi kp l ∧ hi ≤ S'.next ∧ S.next ≤ kp ∧ KeepsAll S S' := by
 refine run_of hmix Tryz.func24 cF24 rfl fun hL Q hQ => ?_
 have hf := tform_of ht
 have h0 := hf.1.1
 have htr := hf.1.2.tr
 obtain ⟨d, o, e, rfl, he, hcs⟩ := h.ne h0
 simp only [go_sem, seval, aF24]
 refine cK_of (check53 _ l S h hok hn) ?_
 rintro v S0 _ hL0 ⟨k0, rfl⟩
 rw [ht]
 have a0 : (0 : Int) ≤ l.length := by omega
 have a1 : (l.length : Int) * 24 ≤ 1099511627776 := by omega
 have a2 : (l.length : Int) * 8 ≤ 1099511627776 := by omega
 have a3 : (l.length : Int) * 1 ≤ 1099511627776 := by omega
 simp only [go_sem, seval, a0, a1, a2, a3, Int.le_refl, Int.toNat_natCast, Nat.mul_one, toList_madeCells_one, bne_self_eq_false]
 obtain ⟨B, hB⟩ : ∃ B, B = S0.next := ⟨_, rfl⟩
 obtain ⟨Sm, hSm⟩ : ∃ Sm, Sm = (((S0.new ⟨false, List.replicate l.length (.slice none 0 0)⟩).new ⟨false, List.replicate l.length (.int .i64 0)⟩).new ⟨false, List.replicate l.length (.int .i64 0)⟩).new ⟨false, List.replicate l.length (.bool false)⟩ := ⟨_, rfl⟩
 have km : KeepsAll S0 Sm := by rw [hSm]; exact (((Keeps.of_new _ _ _).new _).new _).new _
 have nm : Sm.next = B + 4 := by rw [hSm, hB]; rfl
 obtain ⟨b0, b1, b2, b3⟩ := new4 S0 ⟨false, List.replicate l.length (.slice none 0 0)⟩ ⟨false, List.replicate l.length (.int .i64 0)⟩ ⟨false, List.replicate l.length (.int .i64 0)⟩ ⟨false, List.replicate l.length (.bool false)⟩
 rw [← hSm, ← hB] at b0 b1 b2 b3
 rw [iV_zero] at b1 b2
 rw [mV_zero] at b3
 have hLm : Live Sm := by rw [hSm]; exact (((hL0.new _).new _).new _).new _
 rw [← hSm, ← hB]
 have K0m : KeepsAll S Sm := k0.trans km fun _ _ _ => trivial
 refine cK_of (clone49 d o e l Sm hok (Sl.keeps hL h K0m fun _ _ => trivial) h0 hn) ?_
 rintro v Sc _ hLc ⟨dl, rfl, c1, c2, c3⟩
 simp only [go_sem, seval]
 obtain ⟨kp, hkp⟩ : ∃ kp, kp = Sc.next := ⟨_, rfl⟩
 obtain ⟨S1, hS1⟩ : ∃ S1, S1 = Sc.new ⟨false, [.slice (some ⟨dl, 0, none⟩) l.length 49, .slice (some ⟨B, 0, none⟩) l.length 1, .slice (some ⟨B + 1, 0, none⟩) l.length 1, .slice (some ⟨B + 2, 0, none⟩) l.length 1, .slice (some ⟨B + 3, 0, none⟩) l.length 1]⟩ := ⟨_, rfl⟩
 have k1 : KeepsAll Sc S1 := by rw [hS1]; exact Keeps.of_new _ _ _
 have KS1 : KeepsAll S S1 := (K0m.trans c3 fun _ _ _ => trivial).trans k1 fun _ _ _ => trivial
 have KM1 : KeepsAll Sm S1 := c3.trans k1 fun _ _ _ => trivial
 have hdl := hLc _ _ c1
 have hnc : B + 4 ≤ Sc.next := by have := c3.1; omega
 have hSB : S.next ≤ B := by have := k0.1; omega
 have K1 : KinTo S S1 B dl kp l 0 (List.replicate l.length (.slice none 0 0)) (List.replicate l.length 0) (List.replicate l.length 0) (mV l 0) := by
  refine ⟨by rw [hS1, hkp]; simp [St.blk_new], by rw [k1.2 _ hdl trivial]; exact c1, by rw [KM1.2 _ (by omega) trivial]; exact b0, by rw [KM1.2 _ (by omega) trivial]; exact b1, by rw [KM1.2 _ (by omega) trivial]; exact b2, by rw [KM1.2 _ (by omega) trivial]; exact b3,
   ⟨by simp, fun n hn' => ⟨[], by simp only [List.getElem_replicate]; exact .inl ⟨rfl, rfl, rfl⟩, by simp [Value.blkOf], by simp, by simp⟩, fun n n' h1 h2 _ d' hd' => by simp [Value.blkOf] at hd'⟩, by simp, by simp, by omega, by omega, hSB, KS1, by rw [hS1]; exact hLc.new _⟩
 rw [← hS1, ← hkp]
 clear hS1 hSm b0 b1 b2 b3
 refine lK_of (fun t' S' => ∃ (j : Nat) (kc : List Value) (ds es : List Int), j ≤ l.length ∧ KinTo S S' B dl kp l j kc ds es (mV l j) ∧ Slots t' [(0, .slice (some ⟨d, o, none⟩) l.length e), (5, ptr kp), (31, .slice (some ⟨d, o, none⟩) l.length e), (32, .int .i64 l.length), (33, .int .i64 j)]) (fun t' _ => l.length - (RowKit.intOf (t' 33)).toNat) ?_ ?_
 ·refine ⟨0, _, _, _, by omega, K1, ?_⟩
  simp only [go_sem, seval, Int.natCast_add, Int.natCast_succ]
 rintro t1 S2 Q1 ⟨j, kc, ds, es, hj, K, hs⟩ _ hN hE
 simp only [slots_cons, slots_nil] at hs
 have q0 := rd_of_blk K.row 0
 have q1 := rd_of_blk K.row 1
 have q2 := rd_of_blk K.row 2
 have q3 := rd_of_blk K.row 3
 have q4 := rd_of_blk K.row 4
 have eh1 := K.h1
 have eh2 := K.h2
 have eh0 := K.h0
 have hkn := K.live _ _ K.row
 by_cases hjn : j = l.length
 ·subst hjn
  have hw0 : IntKind.i64.wrap ((l.length : Int) - 1) = (l.length : Int) - 1 := wrap64_id (by omega) (by omega)
  simp only [go_sem, seval, hs, Int.lt_irrefl]
  refine hE _ _ _ (by simp) ?_
  simp only [go_sem, seval, hs, hw0]
  refine lK_of (fun t' S' => ∃ (n : Nat) (es : List Int), n ≤ l.length ∧ KinTo S S' B dl kp l l.length kc ds es (mV l l.length) ∧ Slots t' [(5, ptr kp), (8, .int .i64 ((n : Int) - 1))]) (fun t' _ => (RowKit.intOf (t' 8) + 1).toNat) ?_ ?_
  ·refine ⟨l.length, es, by omega, K, ?_⟩
   simp only [go_sem, seval, Int.natCast_add, Int.natCast_succ, hs]
  rintro t2 S3 Q2 ⟨n, es2, hnl, K3, hs2⟩ _ hN2 hE2
  simp only [slots_cons, slots_nil] at hs2
  have p1 := rd_of_blk K3.row 1
  have p2 := rd_of_blk K3.row 2
  have hkn3 := K3.live _ _ K3.row
  by_cases hn0 : n = 0
  ·subst hn0
   have hlt : ¬ ((((0 : Nat) : Int) - 1) ≥ 0) := by omega
   simp only [go_sem, seval, hs2, hlt, gt_iff_lt, ge_iff_le]
   refine hE2 _ _ _ (by simp) ?_
   simp only [go_sem, seval, hs2]
   refine fin_at hQ rfl ?_; simp only [go_sem, seval, aF24, hs2]; rw [retQ_some]; simp only [oneOr]
   refine ⟨kp, S3.next, rfl, ⟨hkn3, dl, B, B + 3, B + 1, B + 2, 49, K3.row, ⟨by omega, .inr rfl, K3.nd⟩, ⟨by omega, ?_⟩, by omega, kc, K3.kids, K3.to.len, fun m hm => ?_⟩, Nat.le_refl _, by omega, K3.keep⟩
   ·rw [K3.made]
    unfold mV
    congr 2
    apply List.map_congr_left
    intro k hk
    simp [List.mem_range.1 hk]
   ·obtain ⟨ms, m1, m2, m3, m4⟩ := K3.to.each m hm
    exact ⟨ms, m1.sl, fun d' hd' => m1.sl.lt K3.live hd', m3, m4⟩
  ·obtain ⟨n', rfl⟩ : ∃ n', n = n' + 1 := ⟨n - 1, by omega⟩
   have ei : (((n' + 1 : Nat) : Int) - 1) = n' := by omega
   rw [ei] at hs2
   have hge : (n' : Int) ≥ 0 := by omega
   have hn0' : (0 : Int) ≤ n' := by omega
   have hnl' : (n' : Int) < l.length := by omega
   have hw1 : IntKind.i64.wrap ((n' : Int) + 1) = n' + 1 := wrap64_id (by omega) (by omega)
   have hw2 : IntKind.i64.wrap ((n' : Int) - 1) = (n' : Int) - 1 := wrap64_id (by omega) (by omega)
   have hel : n' + 1 ≤ (iV es2).length := by rw [iV_length, K3.en]; omega
   have hnk : n' < kc.length := by rw [K3.to.len]; omega
   have hkc := List.getElem?_eq_getElem hnk
   have nkp1 : kp ≠ B + 1 := by have := K3.h1; omega
   have nB1 : B ≠ B + 1 := by omega
   obtain ⟨ms, m1, m2, m3, m4⟩ := K3.to.each n' hnk
   obtain ⟨av, ev', hv⟩ := m1.sl.slice
   have next : ∀ (es3 : List Int) (t' : Env) (S4 : St), KinTo S S4 B dl kp l l.length kc ds es3 (mV l l.length) → Slots t' [(5, ptr kp), (8, .int .i64 ((n' : Int) - 1))] → Q2 .normal t' S4 := fun es3 t' S4 h4 hs4 => by
    refine hN2 _ _ ⟨n', es3, by omega, h4, hs4⟩ ?_
    simp only [slots_cons, slots_nil] at hs4
    rw [hs4.2.1, hs2.2.1]
    simp [RowKit.intOf]
   by_cases hm0 : ms.length = 0
   ·simp only [go_sem, seval, hs2, hge, ge_iff_le, gt_iff_lt, hn0', hnl', hw1, hw2, p1, p2, Int.toNat_natCast, Nat.mul_one, K3.ends, hel, nkp1, nB1, rd_of_blk K3.kids, hkc, hv, hm0, show ¬ ((0 : Int) < ((0 : Nat) : Int)) by omega]
    refine next _ _ _ (K3.endSet n' _) ?_
    simp only [go_sem, seval, Int.natCast_add, Int.natCast_succ, hs2]
   ·have hmp : (0 : Int) < ms.length := by omega
    have hm1 : IntKind.i64.wrap ((ms.length : Int) - 1) = ((ms.length - 1 : Nat) : Int) := by rw [wrap64_id (by omega) (by omega)]; omega
    have hm2 : ((ms.length - 1 : Nat) : Int) < ms.length := by omega
    have hm3 : (0 : Int) ≤ ((ms.length - 1 : Nat) : Int) := by omega
    obtain ⟨dv, hv2, hbv, _⟩ := m1.ne (by omega)
    rw [hv2] at hv
    cases hv
    obtain ⟨k, hk, _, hkl, _⟩ := m4.1 (ms[ms.length - 1]'(by omega)) (List.getElem_mem _)
    have hdv := m2 dv (by rw [hv2]; rfl)
    have ndv : dv ≠ B + 1 := by have := K3.h1; omega
    have hrv := rd_of_blk hbv (ms.length - 1)
    have hiv := iV_at (xs := ms) (j := ms.length - 1) (by omega)
    rw [hk] at hiv
    have hk0 : (0 : Int) ≤ k := by omega
    have hkl' : (k : Int) < l.length := by omega
    have hek : ∃ q : Int, ((iV es2).set n' (.int .i64 ((n' : Int) + 1)))[k]? = some (.int .i64 q) := by
     rw [iV_set, iV_at (by simp [K3.en]; omega)]
     exact ⟨_, rfl⟩
    obtain ⟨q, hq⟩ := hek
    have hel2 : n' + 1 ≤ ((iV es2).set n' (.int .i64 ((n' : Int) + 1))).length := by rw [List.length_set]; exact hel
    simp only [go_sem, seval, hs2, hge, ge_iff_le, gt_iff_lt, hn0', hnl', hw1, hw2, p1, p2, Int.toNat_natCast, Nat.mul_one, K3.ends, hel, hel2, nkp1, nB1, rd_of_blk K3.kids, hkc, hv2, hmp, hm1, hm2, hm3, ndv, hrv, hiv, hk0, hkl', hq]
    have h4 := (K3.endSet n' ((n' : Int) + 1)).endSet n' q
    rw [← iV_set] at h4
    refine next _ _ _ h4 ?_
    simp only [go_sem, seval, Int.natCast_add, Int.natCast_succ, hs2]
 ·have hjl : j < l.length := by omega
  have hjl' : (j : Int) < l.length := by omega
  have hj0 : (0 : Int) ≤ j := by omega
  have hw1 : IntKind.i64.wrap ((j : Int) + 1) = j + 1 := wrap64_id (by omega) (by omega)
  have hNs : Ns S2 (.slice (some ⟨d, o, none⟩) l.length e) l := Sl.keeps hL h K.keep fun _ _ => trivial
  obtain ⟨d2, o2, e2, hv2, _, hcs2⟩ := hNs.ne h0
  cases hv2
  have hnd := nodes_at hok hcs2 j hjl
  have hlen : l[j].cells.length = 49 := Nd.cells_length (hok _ (List.getElem_mem hjl))
  have hc48 : l[j].cells[48]? = some (.int .i64 (par l j)) := by
   rw [par_get hjl]
   unfold Nd.cells
   rw [List.getElem?_append_right (by rw [(hok _ (List.getElem_mem hjl)).s.len]; omega), (hok _ (List.getElem_mem hjl)).s.len]
   rfl
  have hsh := shown_get hok hjl
  have g2 : j + 1 ≤ (iV ds).length := by rw [iV_length, K.dn]; omega
  have g3 : j + 1 ≤ (mV l j).length := by rw [mV_length]; omega
  have nkp2 : kp ≠ B + 2 := by omega
  have nkp3 : kp ≠ B + 3 := by omega
  have nB2 : B ≠ B + 2 := by omega
  have nB3 : B ≠ B + 3 := by omega
  by_cases hj1 : 0 < j
  ·obtain ⟨p, hp⟩ : ∃ p : Nat, par l j = p := ⟨(par l j).toNat, by have := sh_in (P := par l) (k := j) (fun i hi => hf.1.2 i (by omega)) hj1 ((hf.1.2 j hjl).2 hj1); omega⟩
   have hpj : p < j := by have := htr j hjl; omega
   have hpk : p < kc.length := by rw [K.to.len]; omega
   have hgt : (0 : Int) < j := by omega
   have hp0 : (0 : Int) ≤ p := by omega
   have hpl : (p : Int) < l.length := by omega
   rw [hp] at hc48
   have hkp := List.getElem?_eq_getElem hpk
   simp only [go_sem, seval, hs, hjl', hj0, Int.toNat_natCast, hnd, hlen, hsh, hc48, q1, q3, q4, K.kids, K.deep, K.made, g2, g3, hgt, gt_iff_lt, Nat.mul_one, hp0, hpl, nkp2, nkp3, nB2, nB3, hkp, rd_of_blk K.kids]
   have KA := (K.deepSet j 1).madeSet j (.bool (shownAt l j))
   obtain ⟨Sa, hSa⟩ : ∃ Sa, Sa = ((S2.set (B + 2) ⟨false, (iV ds).set j (.int .i64 1)⟩).set (B + 3) ⟨false, (mV l j).set j (.bool (shownAt l j))⟩) := ⟨_, rfl⟩
   have hSan : Sa.next = S2.next := by rw [hSa]; rfl
   rw [← hSa] at KA ⊢
   rw [← hSan]
   obtain ⟨ms, m1, m2, m3, m4⟩ := KA.to.each p hpk
   have m1' : Own (Sa.new ⟨false, [.int .i64 j]⟩) 1 kc[p] ms.length (iV ms) := m1.keep fun i hi => by rw [St.blk_new, if_neg (Nat.ne_of_lt (m1.sl.lt KA.live hi))]
   refine hK_of (append_live (KA.live.new _) (append_own (bytes := 8) (cs := iV ms) (k := 1) (ds := [.int .i64 j]) (by omega) m1' (.inr ⟨Sa.next, 0, 1, rfl, .inr rfl, by simp [cellsOf_new]⟩) (by omega)
    (R := fun v' S' => Own S' 1 v' (ms.length + 1) (iV ms ++ [.int .i64 j]) ∧ Keeps (Sa.new ⟨false, [.int .i64 j]⟩) S' (fun i => Value.blkOf kc[p] ≠ some i) ∧ (∀ i, Value.blkOf v' = some i → Value.blkOf kc[p] = some i ∨ (Sa.new ⟨false, [.int .i64 j]⟩).next ≤ i)) fun v' S' a b c => ⟨a, b, c⟩)) ?_
   rintro v3 S3 ⟨hL3, o1, o2, o3⟩
   obtain ⟨av, ev3, hv3⟩ := o1.sl.slice
   subst hv3
   have o2' : Keeps Sa S3 (fun i => Value.blkOf kc[p] ≠ some i) := (Keeps.of_new Sa _ _).trans o2 fun _ _ h => h
   have KB := KA.app hpk hpj hp hL3 m1 m3 m4 o1 o2' fun i hi => (o3 i hi).imp id fun h => by simp [St.next_new] at h; omega
   have eA := KA.live _ _ KA.row
   have old : ∀ k, k ≤ kp → S3.blk k = Sa.blk k := fun k hk' => o2'.2 k (by omega) fun e => by have := m2 k e; omega
   have f0 : S3.blk kp = _ := (old kp (Nat.le_refl _)).trans KA.row
   have f1 : S3.blk B = _ := (old B (by omega)).trans KA.kids
   have f2 : S3.blk (B + 2) = _ := (old _ (by omega)).trans KA.deep
   have f3 : S3.blk (B + 3) = _ := (old _ (by omega)).trans KA.made
   have r1 := rd_of_blk f0 1
   have r3 := rd_of_blk f0 3
   have r4 := rd_of_blk f0 4
   have nkpB : kp ≠ B := by omega
   have hkl : p + 1 ≤ kc.length := by omega
   have hdp := iV_at (xs := ds.set j 1) (j := p) (by simp [K.dn]; omega)
   have hdl1 : j + 1 ≤ (iV (ds.set j 1)).length := by rw [iV_length, List.length_set, K.dn]; omega
   have hml1 : ∀ v, j + 1 ≤ ((mV l j).set j v).length := fun v => by rw [List.length_set, mV_length]; omega
   have hmp : ∀ v, ((mV l j).set j v)[p]? = some (.bool (madeL l p)) := fun v => by
    rw [List.getElem?_set_ne (by omega), mV_get l j p hpj (by omega)]
   have hm : madeL l j = (shownAt l j && madeL l p) := by
    rw [madeL_eq htr hjl, if_neg (by omega), hp, Int.toNat_natCast]
   have fin : ∀ (n : Int) (t' : Env), Slots t' [(0, .slice (some ⟨d, o, none⟩) l.length e), (5, ptr kp), (31, .slice (some ⟨d, o, none⟩) l.length e), (32, .int .i64 l.length), (33, .int .i64 ((j : Int) + 1))] →
     Q1 .normal t' (((S3.set B ⟨false, kc.set p (.slice av (ms.length + 1) ev3)⟩).set (B + 2) ⟨false, (iV (ds.set j 1)).set j (.int .i64 n)⟩).set (B + 3) ⟨false, ((mV l j).set j (.bool (shownAt l j))).set j (.bool (madeL l j))⟩) := fun n t' ht' => by
    have h5 := (KB.deepSet j n).madeSet j (.bool (madeL l j))
    rw [List.set_set, mV_set l j hjl] at h5 ⊢
    refine hN _ _ ⟨j + 1, _, _, _, by omega, h5, by simpa using ht'⟩ ?_
    simp only [slots_cons, slots_nil] at ht'
    rw [ht'.2.2.2.2.1, hs.2.2.2.2.1]
    simp [RowKit.intOf]
    omega
   cases hsn : shownAt l j
   ·rw [hsn, Bool.false_and] at hm
    simp only [go_sem, seval, hs, hsn, hlen, hc48, hsh, r1, r3, r4, f1, f2, f3, rd_of_blk f1, rd_of_blk f2, rd_of_blk f3, hp0, hpl, hjl', hj0, Int.toNat_natCast, Nat.mul_one, nkpB, nkp2, nkp3, nB2, nB3, hkl, hdp, hdl1, hml1, hw1]
    have hfin := fin
    rw [hm, hsn] at hfin
    refine hfin _ _ ?_
    simp only [go_sem, seval, Int.natCast_add, Int.natCast_succ, hs]
   ·rw [hsn, Bool.true_and] at hm
    simp only [go_sem, seval, hs, hsn, hlen, hc48, hsh, r1, r3, r4, f1, f2, f3, rd_of_blk f1, rd_of_blk f2, rd_of_blk f3, hp0, hpl, hjl', hj0, Int.toNat_natCast, Nat.mul_one, nkpB, nkp2, nkp3, nB2, nB3, hkl, hdp, hdl1, hml1, hmp, hw1]
    have hfin := fin
    rw [hm, hsn] at hfin
    refine hfin _ _ ?_
    simp only [go_sem, seval, Int.natCast_add, Int.natCast_succ, hs]
  ·have hgt : ¬ ((0 : Int) < j) := by omega
   have hj00 : j = 0 := by omega
   simp only [go_sem, seval, hs, hjl', hj0, Int.toNat_natCast, hnd, hlen, hsh, q3, q4, K.deep, K.made, g2, g3, hgt, gt_iff_lt, Nat.mul_one, hw1]
   have hm : madeL l j = shownAt l j := by
    rw [madeL_eq htr hjl, if_pos (by subst hj00; have := (hf.1.2 0 h0).1 rfl; omega), Bool.and_true]
   refine hN _ _ ⟨j + 1, kc, ds.set j 1, es, by omega, ?_, ?_⟩ ?_
   ·rw [← mV_set l j hjl, hm]
    exact ((K.deepSet j 1).madeSet j _).up
   ·simp only [go_sem, seval, Int.natCast_add, Int.natCast_succ, hs]
   ·simp only [go_sem, seval, hs]
    simp [RowKit.intOf]
    omega
end Go.Proofs.YtegaklgjcicnfaaGreat
