/- Boxes in the flow: what is said of one, loosely. -/
import Derived.Test.YtegaklgjcicnfaaGreatGB
import Derived.Test.YtegaklgjcicnfaaGreatGC
import Derived.Shelf.Spec.SlicesInsertGrow
set_option linter.unusedSimpArgs false
set_option linter.unusedVariables false
namespace Go.Proofs.YtegaklgjcicnfaaGreat
open Go Go.Proofs.YtegaklgjcicnfaaGreat.Abs
def styleSg : List Bool := [false, true, true, true, true, true, true, true, true, true, true, true, true, true, true, true, true, true, true, true, true, true, true, true, true, true, true, true, true, true, true, true, true, true, true, true, true, true, true, true, true, true, false, false, true, false, true, true]
theorem fl_lens : ∀ (ls : List (Int × Int)), Fl (Is (ls.length * 2)) (lenCells ls)
 | [] => trivial
 | p :: ls => by
  have e : (p :: ls).length * 2 = ls.length * 2 + 1 + 1 := by simp; omega
  rw [e]
  exact fl_lens ls
theorem sty_fl {s : Sty} (hs : s.Ok) : Fl styleSg s.cells := by
 have h1 := fl_lens s.lens
 rw [hs.lens] at h1
 have h2 := fl_iV s.border
 rw [hs.border] at h2
 have h0 : Fl [false, true] [.bool s.shown, .int .i64 s.pos] := trivial
 have h3 : Fl [false, false, true, false, true, true] [.bool s.rtl, .bool s.hasZ, .int .i64 s.z, .bool s.clip, .int .i64 s.back, .int .i64 s.line] := trivial
 exact ((h0.app h1).app h2).app h3
theorem across104 (cs : List Value) (S : St) (h : Fl inA cs) : ACalls Tryz.prog 104 [.agg cs.toArray] S fun r S' => (∃ a b c k, r = .tuple #[.agg #[.int .i64 a, .int .i64 b, .int .i64 c], .bool k]) ∧ KeepsAll S S' := by
 refine run_of hmix Tryz.func104 cF104 rfl fun hL Q hQ => ?_
 simp only [go_sem, seval, aF104, h.N 11, h.F 11, h.I 0, h.I 7, h.Z 1, h.Z 3, h.Z 5]
 refine cK_of (or128' _ _ _) ?_
 rintro v S1 _ hL1 ⟨rfl, rfl⟩
 simp only [go_sem, seval]
 refine cK_of (or128' _ _ _) ?_
 rintro v S2 _ hL2 ⟨rfl, rfl⟩
 simp only [go_sem, seval]
 refine cK_of (or128' _ _ _) ?_
 rintro v S3 _ hL3 ⟨rfl, rfl⟩
 generalize or0 (bg cs 1) (ig cs (1 + 1)) = o1
 generalize or0 (bg cs 3) (ig cs (3 + 1)) = o2
 generalize or0 (bg cs 5) (ig cs (5 + 1)) = o3
 simp only [go_sem, seval]
 refine lK_of (fun t' S' => S' = S3.new ⟨false, iV [ig cs 0, ig cs 7, o1, o2, o3]⟩ ∧ ∃ j : Nat, j ≤ 5 ∧ Slots t' [(1, .agg cs.toArray), (2, .agg #[.int .i64 0, .int .i64 0, .int .i64 0]), (3, .bool false), (19, .slice (some ⟨S3.next, 0, none⟩) 5 1), (20, .int .i64 5), (21, .int .i64 j)]) (fun t' _ => 5 - (RowKit.intOf (t' 21)).toNat) ?_ ?_
 ·refine ⟨rfl, 0, by omega, ?_⟩
  simp only [go_sem, seval, Int.natCast_add, Int.natCast_succ, and_true]
 rintro t1 S1 Q1 ⟨rfl, j, hj, hs⟩ hL1 hN hE
 simp only [slots_cons, slots_nil] at hs
 by_cases hjn : ¬ j = 5
 ·have hlt : ((j : Int) < 5) := by omega
  have hj0 : (0 : Int) ≤ j := by omega
  have hw1 : IntKind.i64.wrap ((j : Int) + 1) = j + 1 := wrap64_id (by omega) (by omega)
  have hx := iV_at (xs := [ig cs 0, ig cs 7, o1, o2, o3]) (j := j) (by simp only [List.length_cons, List.length_nil]; omega)
  simp only [go_sem, seval, hs, hlt, hj0, Int.toNat_natCast, Nat.mul_one, hx]
  refine cK_of (fits107 _ _) ?_
  rintro v S2 _ hL2 ⟨rfl, rfl⟩
  generalize fitB _ = c
  cases c
  ·simp only [go_sem, seval, hs]
   refine hE _ _ _ (by simp) ?_
   simp only [go_sem, seval, hs]
   refine fin_at hQ rfl ?_; simp only [go_sem, seval, aF104, hs]; rw [retQ_some]; simp only [oneOr]
   exact ⟨⟨_, _, _, _, rfl⟩, Keeps.of_new _ _ _⟩
  ·simp only [go_sem, seval, hs, hw1]
   refine hN _ _ ⟨rfl, j + 1, by omega, ?_⟩ ?_
   ·simp only [go_sem, seval, Int.natCast_add, Int.natCast_succ, hs]
   ·simp only [go_sem, seval, hs]
    simp [RowKit.intOf]
    omega
 have hjn := Classical.not_not.1 hjn
 subst hjn
 simp only [go_sem, seval, hs, show ¬ (((5 : Nat) : Int) < 5) by omega]
 refine hE _ _ _ (by simp) ?_
 simp only [go_sem, seval, hs, h.N 11, h.F 11, h.Z 3, h.I 9, h.I 10]
 refine cK_of (bound129 130 cs (fun _ _ _ _ _ => True) ⟨by kernel_rfl, fun a k T => (solve130 cs a k T h).mono fun v S' _ ⟨⟨xs, m, b, e1, e2⟩, hk⟩ => ⟨⟨xs, m, b, e1, e2, trivial⟩, hk⟩⟩ _ _ _ _ _) ?_
 rintro v S4 _ hL4 ⟨⟨xs, b, rfl, hx, _⟩, hk⟩
 obtain ⟨x1, x2, x3, rfl⟩ := len3 hx
 simp only [go_sem, seval, iV, hs]
 refine fin_at hQ rfl ?_; simp only [go_sem, seval, aF104, hs]; rw [retQ_some]; simp only [oneOr]
 exact ⟨⟨_, _, _, _, rfl⟩, (Keeps.of_new _ _ _).trans hk fun _ _ _ => trivial⟩
theorem may67 (w : Int) (a : Bool) (n : Int) (S : St) : ACalls Tryz.prog 67 [.int .i64 w, .agg #[.bool a, .int .i64 n]] S fun r S' => (∃ b, r = .bool b) ∧ S' = S := by
 refine run_of hmix Tryz.func67 cF67 rfl fun hL Q hQ => ?_
 by_cases h1 : 0 ≤ w
 ·by_cases h2 : w ≤ 1125899906842624
  ·cases a
   ·by_cases h3 : 0 ≤ n
    ·simp only [go_sem, seval, aF67, ge_iff_le, h1, h2, h3]
     refine fin_at hQ rfl ?_; simp only [go_sem, seval, aF67]; rw [retQ_some]; simp only [oneOr]
     exact ⟨⟨_, rfl⟩, trivial⟩
    ·simp only [go_sem, seval, aF67, ge_iff_le, h1, h2, h3]
     refine fin_at hQ rfl ?_; simp only [go_sem, seval, aF67]; rw [retQ_some]; simp only [oneOr]
     exact ⟨⟨_, rfl⟩, trivial⟩
   ·simp only [go_sem, seval, aF67, ge_iff_le, h1, h2]
    refine fin_at hQ rfl ?_; simp only [go_sem, seval, aF67]; rw [retQ_some]; simp only [oneOr]
    exact ⟨⟨_, rfl⟩, trivial⟩
  ·simp only [go_sem, seval, aF67, ge_iff_le, h1, h2]
   refine fin_at hQ rfl ?_; simp only [go_sem, seval, aF67]; rw [retQ_some]; simp only [oneOr]
   exact ⟨⟨_, rfl⟩, trivial⟩
 ·simp only [go_sem, seval, aF67, ge_iff_le, h1]
  refine fin_at hQ rfl ?_; simp only [go_sem, seval, aF67]; rw [retQ_some]; simp only [oneOr]
  exact ⟨⟨_, rfl⟩, trivial⟩
/-- What is said of a box: margins, paddings, borders, its height, the least and the most, four tests. -/
def edgeSg : List Bool := [false, true, false, true, false, true, false, true, false, true, false, true, false, true, false, true, true, true, true, true, false, true, true, true, false, false, false, false]
theorem around100 (cs : List Value) (a b : Nat) (S : St) (h : Fl edgeSg cs) (ha : a < 4) (hb : b < 4) : ACalls Tryz.prog 100 [.agg cs.toArray, .int .i64 a, .int .i64 b] S (NK S) := by
 refine run_of hmix Tryz.func100 cF100 rfl fun hL Q hQ => ?_
 have ha0 : (0 : Int) ≤ a := by omega
 have hb0 : (0 : Int) ≤ b := by omega
 have ha4 : (a : Int) < 4 := by omega
 have hb4 : (b : Int) < 4 := by omega
 have k : ∀ q, q < 4 → edgeSg[16 + q]? = some true ∧ edgeSg[8 + q * 2 + 1]? = some true := fun q hq => by
  match q, hq with
  | 0, _ | 1, _ | 2, _ | 3, _ => exact ⟨rfl, rfl⟩
 have i1 := h.i _ (k a ha).1
 have i2 := h.i _ (k a ha).2
 have i3 := h.i _ (k b hb).1
 have i4 := h.i _ (k b hb).2
 simp only [go_sem, seval, aF100, ha0, hb0, ha4, hb4, Int.toNat_natCast, Nat.mul_one, i1, i2, i3, i4]
 refine cK_of (sum109 _ [ig cs (16 + a), ig cs (8 + a * 2 + 1), ig cs (8 + b * 2 + 1), ig cs (16 + b)] _ (sl_new _ [ig cs (16 + a), ig cs (8 + a * 2 + 1), ig cs (8 + b * 2 + 1), ig cs (16 + b)]) (by simp)) ?_
 rintro v S1 _ hL1 ⟨⟨m, c, rfl, _⟩, rfl⟩
 simp only [go_sem, seval]
 refine fin_at hQ rfl ?_; simp only [go_sem, seval, aF100]; rw [retQ_some]; simp only [oneOr]
 exact ⟨⟨_, _, rfl⟩, Keeps.of_new _ _ _⟩
theorem through159 (cs : List Value) (n : Int) (y : Value) (e t1 t2 c1 c2 : Int) (k : Bool) (S : St) (h : Fl edgeSg cs) : ACalls Tryz.prog 159 [.agg cs.toArray, .int .i64 n, .agg #[y, .int .i64 e, .int .i64 t1, .int .i64 t2, .int .i64 c1, .int .i64 c2, .bool k]] S fun r S' => (∃ b, r = .bool b) ∧ S' = S := by
 refine run_of hmix Tryz.func159 cF159 rfl fun hL Q hQ => ?_
 cases h1 : bg cs 25
 ·simp only [go_sem, seval, aF159, h.B 25, h1]
  refine fin_at hQ rfl ?_; simp only [go_sem, seval, aF159]; rw [retQ_some]; simp only [oneOr]
  exact ⟨⟨_, rfl⟩, trivial⟩
 cases h2 : n == 0
 ·cases h3 : bg cs 20
  ·simp only [go_sem, seval, aF159, h.B 25, h1, h2, h.B 20, h3, h.I 21]
   refine fin_at hQ rfl ?_; simp only [go_sem, seval, aF159]; rw [retQ_some]; simp only [oneOr]
   exact ⟨⟨_, rfl⟩, trivial⟩
  ·simp only [go_sem, seval, aF159, h.B 25, h1, h2, h.B 20, h3, h.I 21]
   refine fin_at hQ rfl ?_; simp only [go_sem, seval, aF159]; rw [retQ_some]; simp only [oneOr]
   exact ⟨⟨_, rfl⟩, trivial⟩
 ·cases h3 : bg cs 20
  ·simp only [go_sem, seval, aF159, h.B 25, h1, h2, h.B 20, h3, h.I 21]
   refine fin_at hQ rfl ?_; simp only [go_sem, seval, aF159]; rw [retQ_some]; simp only [oneOr]
   exact ⟨⟨_, rfl⟩, trivial⟩
  ·simp only [go_sem, seval, aF159, h.B 25, h1, h2, h.B 20, h3, h.I 21]
   refine fin_at hQ rfl ?_; simp only [go_sem, seval, aF159]; rw [retQ_some]; simp only [oneOr]
   exact ⟨⟨_, rfl⟩, trivial⟩
end Go.Proofs.YtegaklgjcicnfaaGreat
namespace Go.Proofs.YtegaklgjcicnfaaGreat
open Go Go.Proofs.YtegaklgjcicnfaaGreat.Abs
/-- A child in a pile. -/
def childSg : List Bool := [true, true, true, true, true, true, false, true]
/-- A pile. -/
def pileV (y : Value) (e t1 t2 c1 c2 : Int) (k : Bool) : Value := .agg #[y, .int .i64 e, .int .i64 t1, .int .i64 t2, .int .i64 c1, .int .i64 c2, .bool k]
theorem child133 (cs : List Value) (n : Int) (y : Value) (e t1 t2 c1 c2 high : Int) (k : Bool) (S : St) (h : Fl edgeSg cs) : ACalls Tryz.prog 133 [.agg cs.toArray, .int .i64 n, pileV y e t1 t2 c1 c2 k, .int .i64 high] S fun r S' => (∃ ds, r = .agg (List.toArray ds) ∧ Fl childSg ds) ∧ S' = S := by
 refine run_of hmix Tryz.func133 cF133 rfl fun hL Q hQ => ?_
 simp only [go_sem, seval, pileV, aF133, h.N 28, h.F 28, h.Z0, h.Z 4]
 refine cK_of (or128' _ _ _) ?_
 rintro v S1 _ hL1 ⟨rfl, rfl⟩
 simp only [go_sem, seval]
 refine cK_of (strut157 _ _) ?_
 rintro v S2 _ hL2 ⟨⟨p1, n1, rfl⟩, rfl⟩
 simp only [go_sem, seval]
 refine cK_of (or128' _ _ _) ?_
 rintro v S3 _ hL3 ⟨rfl, rfl⟩
 simp only [go_sem, seval]
 refine cK_of (strut157 _ _) ?_
 rintro v S4 _ hL4 ⟨⟨p2, n2, rfl⟩, rfl⟩
 simp only [go_sem, seval, h.N 28, h.F 28]
 refine cK_of (join158 _ _ _ _ _) ?_
 rintro v S5 _ hL5 ⟨⟨p3, n3, rfl⟩, rfl⟩
 simp only [go_sem, seval]
 refine cK_of (through159 cs n y e t1 t2 c1 c2 k _ h) ?_
 rintro v S6 _ hL6 ⟨⟨b, rfl⟩, rfl⟩
 cases b
 ·cases hb : bg cs 27
  ·simp only [go_sem, seval, h.B 27, hb]
   refine fin_at hQ rfl ?_; simp only [go_sem, seval, aF133]; rw [retQ_some]; simp only [oneOr]
   exact ⟨⟨[_, _, _, _, _, _, _, _], rfl, trivial⟩, trivial⟩
  ·by_cases hn : n > 0
   ·simp only [go_sem, seval, h.B 27, hb, hn]
    refine cK_of (join158 _ _ _ _ _) ?_
    rintro v S5 _ hL5 ⟨⟨p5, n5, rfl⟩, rfl⟩
    simp only [go_sem, seval]
    refine fin_at hQ rfl ?_; simp only [go_sem, seval, aF133]; rw [retQ_some]; simp only [oneOr]
    exact ⟨⟨[_, _, _, _, _, _, _, _], rfl, trivial⟩, trivial⟩
   ·simp only [go_sem, seval, h.B 27, hb, hn]
    refine fin_at hQ rfl ?_; simp only [go_sem, seval, aF133]; rw [retQ_some]; simp only [oneOr]
    exact ⟨⟨[_, _, _, _, _, _, _, _], rfl, trivial⟩, trivial⟩
 ·simp only [go_sem, seval]
  refine cK_of (join158 _ _ _ _ _) ?_
  rintro v S5 _ hL5 ⟨⟨p4, n4, rfl⟩, rfl⟩
  simp only [go_sem, seval]
  refine fin_at hQ rfl ?_; simp only [go_sem, seval, aF133]; rw [retQ_some]; simp only [oneOr]
  exact ⟨⟨[_, _, _, _, _, _, _, _], rfl, trivial⟩, trivial⟩
/-! ### straight code, cut where what follows a test is told once -/
section
variable {P : Program} {K M : Env → St → Prop}
theorem bodyWp_mono {o : BOp} {t : Env} {S : St} {K M : Value → St → Prop} (h : bodyWp P o t S M) (k : ∀ v S', M v S' → K v S') : bodyWp P o t S K := by
 cases o with
 | p o => simp only [bodyWp] at h ⊢; cases ho : apure (ev t) o <;> simp only [ho, optV] at h ⊢; exact k _ _ h
 | h o =>
  simp only [bodyWp] at h ⊢
  cases ho : aheap (ev t) S o with
  | none => rw [ho] at h; exact h.elim
  | some p => obtain ⟨v, S'⟩ := p; rw [ho] at h; exact k _ _ h
 | call f args => simp only [bodyWp] at h ⊢; exact h.mono fun v S' _ q => k _ _ q
 | callv x args =>
  simp only [bodyWp] at h ⊢
  split at h
  ·exact ⟨h.1, h.2.mono fun v S' _ q => k _ _ q⟩
  ·exact h.elim
 | l _ => exact h
 | inv x name args =>
  simp only [bodyWp] at h ⊢
  split at h
  ·split at h
   ·exact ⟨h.1, h.2.mono fun v S' _ q => k _ _ q⟩
   ·exact h.elim
  ·exact h.elim
 | bad => exact h
theorem opWp_mono {o : AOper} {t : Env} {S : St} {K M : Env → St → Prop} (h : opWp P o t S M) (k : ∀ t S', M t S' → K t S') : opWp P o t S K := by
 unfold opWp at h ⊢
 split
 ·rename_i hg
  rw [if_pos hg] at h
  split
  ·rename_i l hl
   simp only [hl] at h
   cases ho : lval t l <;> simp only [ho, optV] at h ⊢
   exact k _ _ h
  ·rename_i hl
   split at h
   ·rename_i l' hl'; exact absurd hl' (hl _)
   ·exact bodyWp_mono h fun v S' q => k _ _ q
 ·rename_i hg
  rw [if_neg hg] at h
  exact k _ _ h
theorem treeWp_mono : ∀ {r : ATree} {t : Env} {S : St} {K M : Env → St → Prop}, treeWp P r t S M → (∀ t S', M t S' → K t S') → treeWp P r t S K
 | .done, t, S, K, M, h, k => by rw [treeWp] at h ⊢; exact k _ _ h
 | .op o r, t, S, K, M, h, k => by rw [treeWp] at h ⊢; exact opWp_mono h fun t' S' q => treeWp_mono q k
 | .both l r, t, S, K, M, h, k => by rw [treeWp] at h ⊢; exact ⟨treeWp_mono h.1 k, treeWp_mono h.2 k⟩
 | .chk ps r, t, S, K, M, h, k => by rw [treeWp] at h ⊢; exact ⟨h.1, treeWp_mono h.2 k⟩
theorem gK_cut {b : Bool} {d : Option Nat} {o : BOp} {r : ATree} {t : Env} {S : St} (M : Env → St → Prop) (h : gK P b d o r t S M) (k : ∀ t' S', M t' S' → K t' S') : gK P b d o r t S K := by
 unfold gK at h ⊢
 split <;> rename_i hb
 ·rw [if_pos hb] at h; exact treeWp_mono h k
 ·rw [if_neg hb] at h; exact treeWp_mono h k
def bOf (v : Value) : Bool := match v with | .bool b => b | _ => false
theorem gK_bool {b : Bool} {d : Option Nat} {o : BOp} {r : ATree} {t : Env} {S : St} (x : Nat) (is : List Nat)
  (h : gK P b d o r t S (fun t' S' => (t' x = .bool (bOf (t' x)) ∧ Slots t' (keepL t is)) ∧ S' = S)) (k : ∀ t' c, t' x = .bool c → Slots t' (keepL t is) → K t' S) : gK P b d o r t S K :=
 gK_cut _ h fun t' S' q => by obtain ⟨⟨h1, h2⟩, rfl⟩ := q; exact k t' _ h1 h2
end
/-! ### bools -/
theorem index148 (d e : Nat) (bs : List Bool) (b : Bool) (S : St) (hr : ∀ j (h : j < bs.length), rd S d j = some (.bool bs[j])) (hn : bs.length ≤ 1000000) :
  ACalls Tryz.prog 148 [.slice (some ⟨d, 0, none⟩) bs.length e, .bool b] S fun r S' => (∃ j : Int, r = .int .i64 j ∧ (j ≥ 0 ∨ ∀ x ∈ bs, x ≠ b)) ∧ S' = S := by
 refine run_of hmix Tryz.func148 cF148 rfl fun hL Q hQ => ?_
 simp only [go_sem, seval, aF148]
 refine lK_of (fun t' S' => S' = S ∧ ∃ j : Nat, j ≤ bs.length ∧ (∀ i (h : i < bs.length), i < j → bs[i] ≠ b) ∧ Slots t' [(0, .slice (some ⟨d, 0, none⟩) bs.length e), (1, .bool b), (6, .slice (some ⟨d, 0, none⟩) bs.length e), (7, .int .i64 bs.length), (8, .int .i64 j)]) (fun t' _ => bs.length - (RowKit.intOf (t' 8)).toNat) ?_ ?_
 ·refine ⟨rfl, 0, by omega, by omega, ?_⟩
  simp only [go_sem, seval, Int.natCast_add, Int.natCast_succ]
 rintro t1 S1 Q1 ⟨rfl, j, hj, hno, hs⟩ hL1 hN hE
 simp only [slots_cons, slots_nil] at hs
 by_cases hjn : j = bs.length
 ·subst hjn
  simp only [go_sem, seval, hs, Int.lt_irrefl]
  refine hE _ _ _ (by simp) ?_
  simp only [go_sem, seval, hs]
  refine fin_at hQ rfl ?_; simp only [go_sem, seval, aF148, hs]; rw [retQ_some]; simp only [oneOr]
  refine ⟨⟨-1, rfl, .inr fun x hx => ?_⟩, trivial⟩
  obtain ⟨i, hi, rfl⟩ := List.getElem_of_mem hx
  exact hno i hi hi
 ·have hjl : j < bs.length := by omega
  have hjl' : (j : Int) < bs.length := by omega
  have hj0 : (0 : Int) ≤ j := by omega
  have hw1 : IntKind.i64.wrap ((j : Int) + 1) = j + 1 := wrap64_id (by omega) (by omega)
  have hx := hr j hjl
  cases hc : b == bs[j]
  ·simp only [go_sem, seval, hs, hjl', hj0, Int.toNat_natCast, Nat.mul_one, hx, hc, hw1]
   refine hN _ _ ⟨rfl, j + 1, by omega, ?_, ?_⟩ ?_
   ·intro i hi hij
    by_cases hij' : i = j
    ·subst hij'
     intro e'
     rw [e'] at hc
     simp at hc
    ·exact hno i hi (by omega)
   ·simp only [go_sem, seval, Int.natCast_add, Int.natCast_succ, hs]
   ·simp only [go_sem, seval, hs]
    simp [RowKit.intOf]
    omega
  ·simp only [go_sem, seval, hs, hjl', hj0, Int.toNat_natCast, Nat.mul_one, hx, hc]
   refine hE _ _ _ (by simp) ?_
   simp only [go_sem, seval, hs]
   refine fin_at hQ rfl ?_; simp only [go_sem, seval, aF148, hs]; rw [retQ_some]; simp only [oneOr]
   exact ⟨⟨j, rfl, .inl (by omega)⟩, trivial⟩
theorem contains126 (d e : Nat) (bs : List Bool) (b : Bool) (S : St) (hr : ∀ j (h : j < bs.length), rd S d j = some (.bool bs[j])) (hn : bs.length ≤ 1000000) :
  ACalls Tryz.prog 126 [.slice (some ⟨d, 0, none⟩) bs.length e, .bool b] S fun r S' => (∃ c, r = .bool c ∧ (c = false → ∀ x ∈ bs, x ≠ b)) ∧ S' = S := by
 refine run_of hmix Tryz.func126 cF126 rfl fun hL Q hQ => ?_
 simp only [go_sem, seval, aF126]
 refine cK_of (index148 d e bs b S hr hn) ?_
 rintro v S1 _ hL1 ⟨⟨j, rfl, hj⟩, rfl⟩
 simp only [go_sem, seval, ge_iff_le]
 refine fin_at hQ rfl ?_; simp only [go_sem, seval, aF126]; rw [retQ_some]; simp only [oneOr]
 refine ⟨⟨_, rfl, fun hc => ?_⟩, trivial⟩
 simp at hc
 rcases hj with hj | hj
 ·omega
 ·exact hj
theorem Fl.invI {s : List Bool} {cs : List Value} (h : Fl (true :: s) cs) : ∃ n r, cs = .int .i64 n :: r ∧ Fl s r := by
 obtain ⟨v, r, rfl, hr, ⟨_, n, rfl⟩ | ⟨hc, _⟩⟩ := h.inv
 ·exact ⟨n, r, rfl, hr⟩
 ·cases hc
theorem Fl.invB {s : List Bool} {cs : List Value} (h : Fl (false :: s) cs) : ∃ n r, cs = .bool n :: r ∧ Fl s r := by
 obtain ⟨v, r, rfl, hr, ⟨hc, _⟩ | ⟨_, n, rfl⟩⟩ := h.inv
 ·cases hc
 ·exact ⟨n, r, rfl, hr⟩
theorem sizes4_eq {ds : List Value} (h : Fl sizes4 ds) : ∃ b0 n0 b1 n1 b2 n2 b3 n3, ds = [.bool b0, .int .i64 n0, .bool b1, .int .i64 n1, .bool b2, .int .i64 n2, .bool b3, .int .i64 n3] := by
 obtain ⟨b0, r1, rfl, h1⟩ := Fl.invB h
 obtain ⟨n0, r2, rfl, h2⟩ := Fl.invI h1
 obtain ⟨b1, r3, rfl, h3⟩ := Fl.invB h2
 obtain ⟨n1, r4, rfl, h4⟩ := Fl.invI h3
 obtain ⟨b2, r5, rfl, h5⟩ := Fl.invB h4
 obtain ⟨n2, r6, rfl, h6⟩ := Fl.invI h5
 obtain ⟨b3, r7, rfl, h7⟩ := Fl.invB h6
 obtain ⟨n3, r8, rfl, h8⟩ := Fl.invI h7
 obtain rfl := h8.nil
 exact ⟨_, _, _, _, _, _, _, _, rfl⟩
theorem ints4_eq {ds : List Value} (h : Fl [true, true, true, true] ds) : ∃ a b c d, ds = [.int .i64 a, .int .i64 b, .int .i64 c, .int .i64 d] := by
 obtain ⟨a, r1, rfl, h1⟩ := Fl.invI h
 obtain ⟨b, r2, rfl, h2⟩ := Fl.invI h1
 obtain ⟨c, r3, rfl, h3⟩ := Fl.invI h2
 obtain ⟨d, r4, rfl, h4⟩ := Fl.invI h3
 obtain rfl := h4.nil
 exact ⟨_, _, _, _, rfl⟩
set_option maxHeartbeats 4000000 in
theorem edges99 (cs : List Value) (w n : Int) (a alone : Bool) (S : St) (h : Fl styleSg cs) : ACalls Tryz.prog 99 [.agg cs.toArray, .int .i64 w, .agg #[.bool a, .int .i64 n], .bool alone] S fun r S' => (∃ ds b, r = .tuple #[.agg (List.toArray ds), .bool b] ∧ Fl edgeSg ds) ∧ KeepsAll S S' := by
 refine run_of hmix Tryz.func99 cF99 rfl fun hL Q hQ => ?_
 obtain ⟨b0, b1, b2, b3, hb⟩ := ints4_eq (h.sub 38 4)
 simp only [go_sem, seval, aF99, h.N 48, h.F 48, hb, z168]
 refine cK_of (sides113 _ w _ (h.sub 22 8)) ?_
 rintro v S1 _ hL1 ⟨⟨ds, k0, rfl, hds, _⟩, rfl⟩
 obtain ⟨m0, m1, m2, m3, m4, m5, m6, m7, rfl⟩ := sizes4_eq hds
 simp only [go_sem, seval, h.N 48]
 refine cK_of (sides113 _ w _ (h.sub 30 8)) ?_
 rintro v S1 _ hL1 ⟨⟨ds, k1, rfl, hds, _⟩, rfl⟩
 obtain ⟨p0, p1, p2, p3, p4, p5, p6, p7, rfl⟩ := sizes4_eq hds
 simp only [go_sem, seval, h.N 48, h.L 12]
 refine cK_of (of101 _ _ _ _ _) ?_
 rintro v S1 _ hL1 ⟨⟨ha, hm, k2, rfl, _⟩, rfl⟩
 simp only [go_sem, seval, h.N 48, h.L 18]
 refine cK_of (least102 _ _ _ _ _) ?_
 rintro v S1 _ hL1 ⟨⟨le, k3, rfl, _⟩, rfl⟩
 simp only [go_sem, seval, h.N 48, h.L 20]
 refine cK_of (most103 _ _ _ _ _) ?_
 rintro v S1 _ hL1 ⟨⟨mo, k4, rfl, _⟩, rfl⟩
 simp only [go_sem, seval]
 refine gK_bool 12 [3, 8, 10, 11] ?_ ?_
 ·repeat' (first | refine gK_splitN (fun hg => ?_) (fun hg => ?_) <;> simp only [go_sem, seval, hg] | refine gK_split (fun hg => ?_) (fun hg => ?_) <;> simp only [go_sem, seval, hg] | refine iK_split (fun hg => ?_) (fun hg => ?_) <;> simp only [go_sem, seval, hg])
  all_goals simp only [go_sem, seval, keepL_cons, keepL_nil, slots_cons, slots_nil, bOf]
 rintro t1 top h12 hs
 simp only [go_sem, seval, keepL_cons, keepL_nil, slots_cons, slots_nil] at hs
 simp only [go_sem, seval, hs, h12]
 refine gK_bool 13 [3, 8, 10, 11, 12] ?_ ?_
 ·repeat' (first | refine gK_splitN (fun hg => ?_) (fun hg => ?_) <;> simp only [go_sem, seval, hg, hs] | refine gK_split (fun hg => ?_) (fun hg => ?_) <;> simp only [go_sem, seval, hg, hs] | refine iK_split (fun hg => ?_) (fun hg => ?_) <;> simp only [go_sem, seval, hg, hs])
  all_goals simp only [go_sem, seval, keepL_cons, keepL_nil, slots_cons, slots_nil, bOf, hs, h12]
 rintro t2 bot h13 hs2
 simp only [go_sem, seval, keepL_cons, keepL_nil, slots_cons, slots_nil, hs, h12] at hs2
 have hcont : ∀ (d : Nat) (S9 : St), S9.blk d = some ⟨false, [.bool k0, .bool k1, .bool k2, .bool k3, .bool k4]⟩ → ACalls Tryz.prog 126 [.slice (some ⟨d, 0, none⟩) 5 0, .bool false] S9 fun r S' => (∃ c, r = .bool c) ∧ S' = S9 := fun d S9 hb9 =>
  (contains126 d 0 [k0, k1, k2, k3, k4] false S9 (fun j hj => by
   rw [rd_of_blk hb9]
   match j, hj with
   | 0, _ | 1, _ | 2, _ | 3, _ | 4, _ => rfl) (by simp)).mono fun v S' _ ⟨⟨c, e, _⟩, e2⟩ => ⟨⟨c, e⟩, e2⟩
 cases alone <;> cases top <;> cases bot <;> cases ha <;> simp only [go_sem, seval, hs2, h13]
 all_goals
  repeat' (first | refine gK_splitN (fun hg => ?_) (fun hg => ?_) <;> simp only [go_sem, seval, hg, hs2, h13] | refine gK_split (fun hg => ?_) (fun hg => ?_) <;> simp only [go_sem, seval, hg, hs2, h13] | refine iK_split (fun hg => ?_) (fun hg => ?_) <;> simp only [go_sem, seval, hg, hs2, h13])
 all_goals
  refine cK_of (hcont _ _ ?_) ?_
  ·simp [St.blk_set, St.blk_new]
  rintro v S1 _ hL1 ⟨⟨c, rfl⟩, rfl⟩
  simp only [go_sem, seval, hs2, h13]
  refine fin_at hQ rfl ?_; simp only [go_sem, seval, aF99, hs2, h13]; rw [retQ_some]; simp only [oneOr]
  exact ⟨⟨[_, _, _, _, _, _, _, _, _, _, _, _, _, _, _, _, _, _, _, _, _, _, _, _, _, _, _, _], _, rfl, trivial⟩, (((((Keeps.of_new _ _ _).set (by intro i hi _; omega) _).set (by intro i hi _; omega) _).set (by intro i hi _; omega) _).set (by intro i hi _; omega) _).set (by intro i hi _; omega) _⟩
end Go.Proofs.YtegaklgjcicnfaaGreat
namespace Go.Proofs.YtegaklgjcicnfaaGreat
open Go Go.Proofs.YtegaklgjcicnfaaGreat.Abs
/-- A pile in a block of its own, of so many. -/
def PileS (S0 S : St) (p n : Nat) : Prop :=
 S0.next ≤ p ∧ KeepsAll S0 S ∧ ∃ y e t1 t2 c1 c2 k ys, S.blk p = some ⟨false, (pileV y e t1 t2 c1 c2 k).cells.toList⟩ ∧ List.length ys = n ∧ Own S 1 y n (iV ys) ∧ ∀ i, Value.blkOf y = some i → S0.next ≤ i ∧ i ≠ p
theorem blk_set_self (S : St) (i : Nat) (b : Blk) : (S.set i b).blk i = some b := by rw [St.blk_set, if_pos rfl]
/-- One more number. -/
theorem app1 {S : St} (hL : Live S) {x : Value} {n : Nat} {xs : List Int} (hx : Own S 1 x n (iV xs)) (v : Int) (hn : n ≤ 10000000) :
  optWp (doAppend 1 8 x (.slice (some ⟨S.next, 0, none⟩) 1 1) (S.new ⟨false, [.int .i64 v]⟩)) fun v' S' => Live S' ∧ (∃ a e, v' = .slice a (n + 1) e) ∧ Own S' 1 v' (n + 1) (iV (xs ++ [v])) ∧ Keeps S S' (fun i => Value.blkOf x ≠ some i) ∧ ∀ i, Value.blkOf v' = some i → Value.blkOf x = some i ∨ S.next ≤ i := by
 have hL1 : Live (S.new ⟨false, [.int .i64 v]⟩) := hL.new _
 refine append_live hL1 (append_own (cs := iV xs) (k := 1) (ds := iV [v]) (by omega) (hx.keeps hL (Keeps.of_new S _ fun _ => True) fun _ _ => trivial) (by exact sl_new S [v]) (by omega) fun v' S' h1 h2 h3 => ⟨h1.sl.slice, by simpa [iV] using h1, (Keeps.of_new S _ fun i => Value.blkOf x ≠ some i).trans h2 fun i hi hp => hp, fun i hi => ?_⟩)
 rcases h3 i hi with h | h
 ·exact .inl h
 ·exact .inr (by simp [St.next_new] at h; omega)
theorem pile_fin {S0 Sx S1 S9 : St} {p n : Nat} {y y' : Value} {ys : List Int} (hp : p < Sx.next) (hp0 : S0.next ≤ p) (hk0 : KeepsAll S0 Sx) (hyd : ∀ i, Value.blkOf y = some i → S0.next ≤ i ∧ i ≠ p)
  (hL1 : Live S1) (h1 : Own S1 1 y' (n + 1) (iV ys)) (h2 : Keeps Sx S1 (fun i => Value.blkOf y ≠ some i)) (h3 : ∀ i, Value.blkOf y' = some i → Value.blkOf y = some i ∨ Sx.next ≤ i) (hl : ys.length = n + 1)
  {e t1 t2 c1 c2 : Int} {k : Bool} (hk : Keeps S1 S9 (· ≠ p)) (hb : S9.blk p = some ⟨false, [y', .int .i64 e, .int .i64 t1, .int .i64 t2, .int .i64 c1, .int .i64 c2, .bool k]⟩) : PileS S0 S9 p (n + 1) := by
 have hy' : ∀ i, Value.blkOf y' = some i → S0.next ≤ i ∧ i ≠ p := fun i hi => by
  rcases h3 i hi with h | h
  ·exact hyd i h
  ·exact ⟨by have := hk0.1; omega, by omega⟩
 refine ⟨hp0, ⟨Nat.le_trans hk0.1 (Nat.le_trans h2.1 hk.1), fun i hi _ => ?_⟩, y', e, t1, t2, c1, c2, k, ys, hb, hl, h1.keeps hL1 hk fun d hd => (hy' d hd).2, hy'⟩
 have a0 := hk0.1
 have a1 := h2.1
 rw [hk.2 i (by omega) (by show i ≠ p; omega), h2.2 i (by omega) (fun hh => by have := (hyd i hh).1; omega), hk0.2 i hi trivial]
set_option maxHeartbeats 4000000 in
theorem put175 (S0 : St) (p n : Nat) (cs : List Value) (S : St) (h : PileS S0 S p n) (hc : Fl childSg cs) (hn : n ≤ 1000000) : ACalls Tryz.prog 175 [ptr p, .agg cs.toArray] S fun r S' => (∃ b, r = .bool b) ∧ PileS S0 S' p (n + 1) := by
 refine run_of hmix Tryz.func175 cF175 rfl fun hL Q hQ => ?_
 obtain ⟨hp0, hk0, y, e, t1, t2, c1, c2, k, ys, hb, hyl, hy, hyd⟩ := h
 obtain ⟨a, ye, rfl⟩ := hy.sl.slice
 simp only [pileV, Value.cells] at hb
 have hpl := hL _ _ hb
 have hpn : (p = S.next) = False := eq_false (by omega)
 have hpn' : (S.next = p) = False := eq_false (by omega)
 have hnb : Value.blkOf (.slice a n ye) ≠ some p := fun hh => (hyd p hh).2 rfl
 have hlen : ∀ v : Int, (ys ++ [v]).length = n + 1 := fun v => by simp [hyl]
 cases k
 ·have r6 := rd_of_blk hb 6
  have r4 : cellsOf S p 4 2 = _ := cellsOf_of_blk hb 4 2
  cases hth : bg cs 6
  ·simp only [go_sem, seval, aF175, hc.N 8, hc.F 8, r6, hpn, hpn', hc.L0, hc.B 6, hth, r4]
   refine cK_of (join158 _ _ _ _ _) ?_
   rintro v Sa _ hLa ⟨⟨p1, n1, rfl⟩, rfl⟩
   simp only [go_sem, seval]
   refine cK_of (value156 _ _ _) ?_
   rintro v Sb _ hLb ⟨⟨m, ok, rfl⟩, hkb⟩
   have hbb : Sb.blk p = _ := (hkb.2 p hpl trivial).trans hb
   have hpb := hLb _ _ hbb
   have hyb := hy.keeps hL hkb fun _ _ => trivial
   have q1 := rd_of_blk hbb 1
   have hqn : (p = Sb.next) = False := eq_false (by omega)
   have hqn' : (Sb.next = p) = False := eq_false (by omega)
   simp only [go_sem, seval, q1, hqn, hqn']
   refine cK_of (sum109 _ [e, m] _ (sl_new _ [e, m]) (by simp)) ?_
   rintro v Sc _ _ ⟨⟨m2, ok2, rfl, _⟩, rfl⟩
   have hLc : Live (Sb.new ⟨false, [.int .i64 e, .int .i64 m]⟩) := hLb.new _
   have hbc : (Sb.new ⟨false, [.int .i64 e, .int .i64 m]⟩).blk p = _ := (if_neg (by omega)).trans hbb
   have hpc := hLc _ _ hbc
   have hyc := hyb.keeps hLb (Keeps.of_new Sb ⟨false, [.int .i64 e, .int .i64 m]⟩ fun _ => True) fun _ _ => trivial
   have hkc : KeepsAll S0 (Sb.new ⟨false, [.int .i64 e, .int .i64 m]⟩) := (hk0.trans hkb fun _ _ _ => trivial).new _
   generalize hSc : Sb.new ⟨false, [.int .i64 e, .int .i64 m]⟩ = Sd at *
   have q0 := rd_of_blk hbc 0
   have hrn : (p = Sd.next) = False := eq_false (by omega)
   have hrn' : (Sd.next = p) = False := eq_false (by omega)
   simp only [go_sem, seval, q0, hrn, hrn']
   refine hK_of (app1 hLc hyc m2 (by omega)) ?_
   rintro v1 S1 ⟨hL1, ⟨a1, e1, rfl⟩, h1, h2, h3⟩
   have hb1 : S1.blk p = _ := (h2.2 p hpc hnb).trans hbc
   have hp1 := hL1 _ _ hb1
   have q4 : cellsOf S1 p 4 2 = _ := cellsOf_of_blk hb1 4 2
   have hs1 : (p = S1.next) = False := eq_false (by omega)
   have hs1' : (S1.next = p) = False := eq_false (by omega)
   simp only [go_sem, seval, hb1, hc.B 6, hth, hc.N 8, hc.I 7, hs1, hs1']
   refine cK_of (sum109 _ [m2, ig cs 7] _ (sl_new (S1.set p _) [m2, ig cs 7]) (by simp)) ?_
   rintro v Se _ _ ⟨⟨m3, ok3, rfl, _⟩, rfl⟩
   cases ok <;> cases ok2
   all_goals
    simp only [go_sem, seval, hb1, hc.N 8, hc.L 2, hs1, hs1']
    refine fin_at hQ rfl ?_; simp only [go_sem, seval, aF175]; rw [retQ_some]; simp only [oneOr]
    refine ⟨⟨_, rfl⟩, pile_fin hpc hp0 hkc hyd hL1 h1 h2 h3 (hlen _) ((((((Keeps.refl _ _).set (fun i _ h => h) _).new _).set (fun i _ h => h) _)).set (fun i _ h => h) _) (blk_set_self _ _ _)⟩
  ·simp only [go_sem, seval, aF175, hc.N 8, hc.F 8, r6, hpn, hpn', hc.L0, hc.L 4, hc.B 6, hth, r4]
   refine cK_of (join158 _ _ _ _ _) ?_
   rintro v Sa _ hLa ⟨⟨p1, n1, rfl⟩, rfl⟩
   simp only [go_sem, seval]
   refine cK_of (value156 _ _ _) ?_
   rintro v Sb _ hLb ⟨⟨m, ok, rfl⟩, hkb⟩
   have hbb : Sb.blk p = _ := (hkb.2 p hpl trivial).trans hb
   have hpb := hLb _ _ hbb
   have hyb := hy.keeps hL hkb fun _ _ => trivial
   have q1 := rd_of_blk hbb 1
   have hqn : (p = Sb.next) = False := eq_false (by omega)
   have hqn' : (Sb.next = p) = False := eq_false (by omega)
   simp only [go_sem, seval, q1, hqn, hqn']
   refine cK_of (sum109 _ [e, m] _ (sl_new _ [e, m]) (by simp)) ?_
   rintro v Sc _ _ ⟨⟨m2, ok2, rfl, _⟩, rfl⟩
   have hLc : Live (Sb.new ⟨false, [.int .i64 e, .int .i64 m]⟩) := hLb.new _
   have hbc : (Sb.new ⟨false, [.int .i64 e, .int .i64 m]⟩).blk p = _ := (if_neg (by omega)).trans hbb
   have hpc := hLc _ _ hbc
   have hyc := hyb.keeps hLb (Keeps.of_new Sb ⟨false, [.int .i64 e, .int .i64 m]⟩ fun _ => True) fun _ _ => trivial
   have hkc : KeepsAll S0 (Sb.new ⟨false, [.int .i64 e, .int .i64 m]⟩) := (hk0.trans hkb fun _ _ _ => trivial).new _
   generalize hSc : Sb.new ⟨false, [.int .i64 e, .int .i64 m]⟩ = Sd at *
   have q0 := rd_of_blk hbc 0
   have hrn : (p = Sd.next) = False := eq_false (by omega)
   have hrn' : (Sd.next = p) = False := eq_false (by omega)
   simp only [go_sem, seval, q0, hrn, hrn']
   refine hK_of (app1 hLc hyc m2 (by omega)) ?_
   rintro v1 S1 ⟨hL1, ⟨a1, e1, rfl⟩, h1, h2, h3⟩
   have hb1 : S1.blk p = _ := (h2.2 p hpc hnb).trans hbc
   have hp1 := hL1 _ _ hb1
   have q4 : cellsOf S1 p 4 2 = _ := cellsOf_of_blk hb1 4 2
   simp only [go_sem, seval, hb1, hc.B 6, hth, hc.N 8, hc.L0, q4]
   refine cK_of (join158 _ _ _ _ _) ?_
   rintro v S2 _ hL2 ⟨⟨p3, n3, rfl⟩, rfl⟩
   cases ok
   ·simp only [go_sem, seval, hb1]
    refine fin_at hQ rfl ?_; simp only [go_sem, seval, aF175]; rw [retQ_some]; simp only [oneOr]
    refine ⟨⟨_, rfl⟩, pile_fin hpc hp0 hkc hyd hL1 h1 h2 h3 (hlen _) (((Keeps.refl _ _).set (fun i _ h => h) _).set (fun i _ h => h) _) (blk_set_self _ _ _)⟩
   ·simp only [go_sem, seval, hb1]
    refine fin_at hQ rfl ?_; simp only [go_sem, seval, aF175]; rw [retQ_some]; simp only [oneOr]
    refine ⟨⟨_, rfl⟩, pile_fin hpc hp0 hkc hyd hL1 h1 h2 h3 (hlen _) (((Keeps.refl _ _).set (fun i _ h => h) _).set (fun i _ h => h) _) (blk_set_self _ _ _)⟩
 ·have r0 := rd_of_blk hb 0
  have r6 := rd_of_blk hb 6
  simp only [go_sem, seval, aF175, hc.N 8, hc.F 8, r0, r6, hpn, hpn']
  refine hK_of (app1 hL hy 0 (by omega)) ?_
  rintro v1 S1 ⟨hL1, ⟨a1, e1, rfl⟩, h1, h2, h3⟩
  have hb1 : S1.blk p = _ := (h2.2 p hpl hnb).trans hb
  have hp1 := hL1 _ _ hb1
  have r2 : cellsOf S1 p 2 2 = _ := cellsOf_of_blk hb1 2 2
  simp only [go_sem, seval, hb1, r2, hc.N 8, hc.L0]
  refine cK_of (join158 _ _ _ _ _) ?_
  rintro v S2 _ hL2 ⟨⟨p1, n1, rfl⟩, rfl⟩
  cases hth : bg cs 6
  ·simp only [go_sem, seval, hb1, hc.B 6, hth, hc.N 8, hc.I 7, hc.L 2]
   refine cK_of (fits107 _ _) ?_
   rintro v S3 _ hL3 ⟨rfl, rfl⟩
   simp only [go_sem, seval]
   refine fin_at hQ rfl ?_; simp only [go_sem, seval, aF175]; rw [retQ_some]; simp only [oneOr]
   refine ⟨⟨_, rfl⟩, pile_fin hpl hp0 hk0 hyd hL1 h1 h2 h3 (hlen _) ((((((Keeps.refl _ _).set (fun i _ h => h) _).set (fun i _ h => h) _).set (fun i _ h => h) _).set (fun i _ h => h) _).set (fun i _ h => h) _) (blk_set_self _ _ _)⟩
  ·simp only [go_sem, seval, hb1, hc.B 6, hth, hc.N 8]
   refine cK_of (fits107 _ _) ?_
   rintro v S3 _ hL3 ⟨rfl, rfl⟩
   simp only [go_sem, seval]
   refine fin_at hQ rfl ?_; simp only [go_sem, seval, aF175]; rw [retQ_some]; simp only [oneOr]
   refine ⟨⟨_, rfl⟩, pile_fin hpl hp0 hk0 hyd hL1 h1 h2 h3 (hlen _) (((Keeps.refl _ _).set (fun i _ h => h) _).set (fun i _ h => h) _) (blk_set_self _ _ _)⟩
theorem stack155 (x : Value) (cs : List Value) (n : Nat) (o : Bool) (S : St) (h : Sl S 8 x n cs) (hc : ∀ j, j < n → Fl childSg ((cs.drop (j * 8)).take 8)) (hn : n ≤ 1000000) : ACalls Tryz.prog 155 [x, .bool o] S fun r S' =>
  (∃ y e t1 t2 c1 c2 k b, r = .tuple #[pileV y e t1 t2 c1 c2 k, .bool b] ∧ (∃ a i j, y = .slice a i j) ∧ (b = true → ∃ ys, List.length ys = n ∧ Own S' 1 y n (iV ys) ∧ Fresh S y)) ∧ KeepsAll S S' := by
 refine run_of hmix Tryz.func155 cF155 rfl fun hL Q hQ => ?_
 obtain ⟨a, e, rfl⟩ := h.slice
 simp only [go_sem, seval, aF155]
 refine lK_of (fun t' S' => Live S' ∧ ∃ j : Nat, j ≤ n ∧ PileS S S' S.next j ∧ Slots t' [(4, pileV (.slice none 0 0) 0 0 0 0 0 false), (5, .bool false), (6, .pointer (some ⟨S.next, 0, none⟩)), (11, .slice a n e), (12, .int .i64 n), (13, .int .i64 j)]) (fun t' _ => n - (RowKit.intOf (t' 13)).toNat) ?_ ?_
 ·refine ⟨?_, 0, by omega, ?_, ?_⟩
  ·exact (hL.new _).set _ _ (by simp [St.next_new])
  ·exact ⟨Nat.le_refl _, (Keeps.of_new _ _ _).set (fun i hi _ => by omega) _, .slice none 0 0, 0, 0, 0, 0, 0, o, [], blk_set_self _ _ _, rfl, .inl ⟨rfl, rfl, rfl⟩, fun i hi => by simp [Value.blkOf] at hi⟩
  ·simp only [go_sem, seval, Int.natCast_add, Int.natCast_succ, pileV]
 rintro t1 S1 Q1 ⟨hL1, j, hj, hP, hs⟩ _ hN hE
 simp only [slots_cons, slots_nil, pileV] at hs
 by_cases hjn : j = n
 ·subst hjn
  obtain ⟨hp0, hk0, y, ed, t1', t2, c1, c2, k, ys, hb, hyl, hy, hyd⟩ := hP
  obtain ⟨ya, ye, rfl⟩ := hy.sl.slice
  simp only [pileV, Value.cells] at hb
  have r0 : cellsOf S1 S.next 0 7 = _ := cellsOf_of_blk hb 0 7
  simp only [go_sem, seval, hs, Int.lt_irrefl]
  refine hE _ _ _ (by simp) ?_
  simp only [go_sem, seval, hs, r0]
  refine fin_at hQ rfl ?_; simp only [go_sem, seval, aF155, hs]; rw [retQ_some]; simp only [oneOr]
  exact ⟨⟨_, _, _, _, _, _, _, _, rfl, ⟨_, _, _, rfl⟩, fun _ => ⟨ys, hyl, hy, fun i hi => (hyd i hi).1⟩⟩, hk0⟩
 ·have hjl : (j : Int) < n := by omega
  have hj0 : (0 : Int) ≤ j := by omega
  have hw1 : IntKind.i64.wrap ((j : Int) + 1) = j + 1 := wrap64_id (by omega) (by omega)
  obtain ⟨d, o', f, hv, _, hcc⟩ := h.ne (by omega)
  cases hv
  have hk0 := hP.2.1
  have hdl : d < S.next := h.lt hL rfl
  have hx : cellsOf S1 d (o' + j * 8) 8 = some ((cs.drop (j * 8)).take 8) := by
   rw [cellsOf_congr (hk0.2 d hdl trivial), cellsOf_of_cells hcc (by omega)]
  have hcj := hc j (by omega)
  have hl8 := hcj.N 8
  have hf8 := hcj.F 8
  generalize hc8 : (cs.drop (j * 8)).take 8 = c8 at *
  simp only [go_sem, seval, hs, hjl, hj0, Int.toNat_natCast, hx, hl8, hf8]
  refine cK_of (put175 S S.next j c8 S1 hP hcj (by omega)) ?_
  rintro v S2 _ hL2 ⟨⟨b, rfl⟩, hP2⟩
  cases b
  ·simp only [go_sem, seval, hs]
   refine hE _ _ _ (by simp) ?_
   simp only [go_sem, seval, hs]
   refine fin_at hQ rfl ?_; simp only [go_sem, seval, aF155, hs]; rw [retQ_some]; simp only [oneOr]
   exact ⟨⟨_, _, _, _, _, _, _, _, rfl, ⟨_, _, _, rfl⟩, by simp⟩, hP2.2.1⟩
  ·simp only [go_sem, seval, hs, hw1]
   refine hN _ _ ⟨hL2, j + 1, by omega, hP2, ?_⟩ ?_
   ·simp only [go_sem, seval, Int.natCast_add, Int.natCast_succ, hs, pileV]
   ·simp only [go_sem, seval, hs]
    simp [RowKit.intOf]
    omega
end Go.Proofs.YtegaklgjcicnfaaGreat
namespace Go.Proofs.YtegaklgjcicnfaaGreat
open Go Go.Proofs.YtegaklgjcicnfaaGreat.Abs
theorem nan179 (a : Int) (S : St) : ACalls Tryz.prog 179 [.int .i64 a] S fun r S' => r = .bool false ∧ S' = S := by
 refine run_of hmix Tryz.func179 cF179 rfl fun hL Q hQ => ?_
 simp only [go_sem, seval, aF179, bne_self_eq_false]
 refine fin_at hQ rfl ?_; simp only [go_sem, seval, aF179]; rw [retQ_some]; simp only [oneOr]
 exact ⟨trivial, trivial⟩
theorem nan172 (a : Int) (S : St) : ACalls Tryz.prog 172 [.int .i64 a] S fun r S' => r = .bool false ∧ S' = S := by
 refine run_of hmix Tryz.func172 cF172 rfl fun hL Q hQ => ?_
 simp only [go_sem, seval, aF172, bne_self_eq_false]
 refine fin_at hQ rfl ?_; simp only [go_sem, seval, aF172]; rw [retQ_some]; simp only [oneOr]
 exact ⟨trivial, trivial⟩
theorem less171 (a b : Int) (S : St) : ACalls Tryz.prog 171 [.int .i64 a, .int .i64 b] S fun r S' => r = .bool (decide (a < b)) ∧ S' = S := by
 refine run_of hmix Tryz.func171 cF171 rfl fun hL Q hQ => ?_
 simp only [go_sem, seval, aF171]
 refine cK_of (nan179 _ _) ?_
 rintro v S1 _ hL1 ⟨rfl, rfl⟩
 simp only [go_sem, seval]
 refine fin_at hQ rfl ?_; simp only [go_sem, seval, aF171]; rw [retQ_some]; simp only [oneOr]
 exact ⟨trivial, trivial⟩
theorem bin153_nil (more : Int) (S : St) : ACalls Tryz.prog 153 [.slice none 0 0, .int .i64 more] S fun r S' => (∃ b, r = .tuple #[.int .i64 0, .bool b]) ∧ S' = S := by
 refine run_of hmix Tryz.func153 cF153 rfl fun hL Q hQ => ?_
 simp only [go_sem, seval, aF153]
 refine lK_unroll ?_
 simp only [go_sem, seval]
 refine fin_at hQ rfl ?_; simp only [go_sem, seval, aF153]; rw [retQ_some]; simp only [oneOr]
 exact ⟨⟨_, rfl⟩, trivial⟩
set_option maxHeartbeats 1000000 in
theorem bin153 (d n e : Nat) (more : Int) (S : St) (hr : ∀ j, j < n → ∃ v, rd S d j = some (.int .i64 v)) (hn : n ≤ 1000000) : ACalls Tryz.prog 153 [.slice (some ⟨d, 0, none⟩) n e, .int .i64 more] S fun r S' => (∃ (k : Nat) (b : Bool), r = .tuple #[.int .i64 k, .bool b] ∧ k ≤ n) ∧ S' = S := by
 refine run_of hmix Tryz.func153 cF153 rfl fun hL Q hQ => ?_
 simp only [go_sem, seval, aF153]
 refine lK_of (fun t' S' => S' = S ∧ ∃ lo hi : Nat, lo ≤ hi ∧ hi ≤ n ∧ Slots t' [(0, .slice (some ⟨d, 0, none⟩) n e), (1, .int .i64 more), (6, .int .i64 n), (7, .int .i64 lo), (8, .int .i64 hi)]) (fun t' _ => (RowKit.intOf (t' 8)).toNat - (RowKit.intOf (t' 7)).toNat) ?_ ?_
 ·refine ⟨rfl, 0, n, by omega, by omega, ?_⟩
  simp only [go_sem, seval, Int.natCast_add, Int.natCast_succ]
 rintro t1 S1 Q1 ⟨rfl, lo, hi, h1, h2, hs⟩ hL1 hN hE
 simp only [slots_cons, slots_nil] at hs
 by_cases hlh : (lo : Int) < hi
 ·have e1 : IntKind.i64.wrap ((lo : Int) + hi) = ((lo + hi : Nat) : Int) := by rw [wrap64_id (by omega) (by omega)]; omega
  have e0 : IntKind.u64.wrap ((lo + hi : Nat) : Int) = ((lo + hi : Nat) : Int) := by rw [wrap64u]; omega
  have e2 : IntKind.i64.wrap ((IntKind.u64.wrap ((lo + hi : Nat) : Int)).fdiv (2 ^ min 1 64)) = (((lo + hi) / 2 : Nat) : Int) := by
   rw [e0, Int.fdiv_eq_ediv_of_nonneg _ (by decide), show ((2 : Int) ^ min 1 64) = 2 from rfl, wrap64_id (by omega) (by omega)]
   omega
  obtain ⟨q, hq⟩ : ∃ q, q = (lo + hi) / 2 := ⟨_, rfl⟩
  rw [← hq] at e2
  obtain ⟨v, hv⟩ := hr q (by omega)
  have hq0 : (0 : Int) ≤ q := by omega
  have hqn : (q : Int) < n := by omega
  have hw1 : IntKind.i64.wrap ((q : Int) + 1) = ((q + 1 : Nat) : Int) := by rw [wrap64_id (by omega) (by omega)]; omega
  simp only [go_sem, seval, hs, hlh, e1, e2, hq0, hqn, Int.toNat_natCast, Nat.mul_one, hv]
  refine cK_of (less171 _ _ _) ?_
  rintro v S2 _ hL2 ⟨rfl, rfl⟩
  generalize decide (_ < more) = c
  cases c
  ·simp only [go_sem, seval, hs]
   refine hN _ _ ⟨rfl, lo, q, by omega, by omega, ?_⟩ ?_
   ·simp only [go_sem, seval, Int.natCast_add, Int.natCast_succ, hs]
   ·simp only [go_sem, seval, hs]
    simp [RowKit.intOf]
    omega
  ·simp only [go_sem, seval, hs, hw1]
   refine hN _ _ ⟨rfl, q + 1, hi, by omega, by omega, ?_⟩ ?_
   ·simp only [go_sem, seval, Int.natCast_add, Int.natCast_succ, hs]
   ·simp only [go_sem, seval, hs]
    simp [RowKit.intOf]
    omega
 ·have hll : lo = hi := by omega
  subst hll
  simp only [go_sem, seval, hs, hlh]
  refine hE _ _ _ (by simp) ?_
  by_cases hln : (lo : Int) < n
  ·obtain ⟨v, hv⟩ := hr lo (by omega)
   have hl0 : (0 : Int) ≤ lo := by omega
   cases hvm : v == more
   ·simp only [go_sem, seval, hs, hln, hl0, Int.toNat_natCast, Nat.mul_one, hv, hvm]
    refine cK_of (nan172 _ _) ?_
    rintro v S1 _ hL1 ⟨rfl, rfl⟩
    simp only [go_sem, seval, hs]
    refine fin_at hQ rfl ?_; simp only [go_sem, seval, aF153, hs]; rw [retQ_some]; simp only [oneOr]
    exact ⟨⟨lo, _, rfl, h2⟩, trivial⟩
   ·simp only [go_sem, seval, hs, hln, hl0, Int.toNat_natCast, Nat.mul_one, hv, hvm]
    refine fin_at hQ rfl ?_; simp only [go_sem, seval, aF153, hs]; rw [retQ_some]; simp only [oneOr]
    exact ⟨⟨lo, _, rfl, h2⟩, trivial⟩
  ·simp only [go_sem, seval, hs, hln]
   refine fin_at hQ rfl ?_; simp only [go_sem, seval, aF153, hs]; rw [retQ_some]; simp only [oneOr]
   exact ⟨⟨lo, _, rfl, h2⟩, trivial⟩
end Go.Proofs.YtegaklgjcicnfaaGreat
namespace Go.Proofs.YtegaklgjcicnfaaGreat
open Go Go.Proofs.YtegaklgjcicnfaaGreat.Abs Go.RowKit
def Tryz.laysIns_ren : Go.Shelf.Ren := ⟨fun | 21 => 154 | 27 => 173 | 28 => 174 | 35 => 180 | 39 => 181 | n => n, fun | 22 => 77 | 3 => 3 | 4 => 4 | 0 => 0 | n => n, fun | n => n⟩
theorem Tryz.laysIns : Go.Proofs.Lays2.n21 Tryz.prog Tryz.laysIns_ren := {
 mixed := by kernel_rfl,
 f21 := Tryz.func154.trans (congrArg some (by kernel_rfl)),
 f27 := Tryz.func173.trans (congrArg some (by kernel_rfl)),
 f28 := Tryz.func174.trans (congrArg some (by kernel_rfl)),
 f35 := Tryz.func180.trans (congrArg some (by kernel_rfl)),
 f39 := Tryz.func181.trans (congrArg some (by kernel_rfl)),
 t0 := Tryz.underlying0,
 a0 := Tryz.isAgg0,
 z0 := Tryz.sizeOf0,
 v0 := Tryz.zeroValue0,
 t3 := Tryz.underlying3,
 a3 := Tryz.isAgg3,
 z3 := Tryz.sizeOf3,
 v3 := Tryz.zeroValue3,
 t4 := Tryz.underlying4,
 a4 := Tryz.isAgg4,
 z4 := Tryz.sizeOf4,
 v4 := Tryz.zeroValue4,
 t22 := Tryz.underlying77,
 a22 := Tryz.isAgg77,
 z22 := Tryz.sizeOf77,
 v22 := Tryz.zeroValue77,
 i3 := by kernel_rfl }
theorem setCells_row (b : Nat) (e : TypeId) (fr : Nat × Nat) : ∀ (vs : List Value) (o : Nat) (c : Array Value) (w : World), w.heap[b]? = some (.cells c e fr) → o + vs.length ≤ c.size →
  w.setCells b o vs = w.setRow b (c.toList.take o ++ vs ++ c.toList.drop (o + vs.length)).toArray
 | [], o, c, w, hg, h => by
  have e1 : (c.toList.take o ++ [] ++ c.toList.drop (o + ([] : List Value).length)).toArray = c := by simp
  rw [e1, setRow_self w b c e fr hg]
  rfl
 | v :: r, o, c, w, hg, h => by
  simp only [List.length_cons] at h
  have h1 : w.setCell ⟨b, o, none⟩ v = w.setRow b (c.setIfInBounds o v) := by
   have hlt : b < w.heap.size := (Array.getElem?_eq_some_iff.1 hg).1
   have hv : w.heap[b] = .cells c e fr := (Array.getElem?_eq_some_iff.1 hg).2
   unfold World.setCell World.setRow
   congr 1
   apply Array.ext
   ·simp
   ·intro i hi1 hi2
    simp only [Array.getElem_modify]
    split
    ·rename_i hb
     subst hb
     rw [hv]
     rfl
    ·rfl
  rw [World.setCells, h1, setCells_row b e fr r (o + 1) (c.setIfInBounds o v) _ (setRow_heap w b c _ e fr hg) (by simp; omega), setRow_setRow]
  congr 2
  simp only [Array.toList_setIfInBounds, List.length_cons]
  have e1 : (c.toList.set o v).take (o + 1) = c.toList.take o ++ [v] := by
   rw [List.take_succ_eq_append_getElem (by simpa using (by omega : o < c.size)), List.take_set_of_le (Nat.le_refl _), List.getElem_set_self]
  rw [e1, List.drop_set_of_lt (by omega), show o + 1 + r.length = o + (r.length + 1) by omega]
  simp
theorem two_rows (b : Nat) (e : TypeId) (fr : Nat × Nat) (M : Value) (D : List Value) (o : Nat) (c : Array Value) (w : World) (hg : w.heap[b]? = some (.cells c e fr)) (h : o + 1 + D.length ≤ c.size) :
  (w.setCells b (o + 1) D).setCells b o [M] = w.setRow b (c.toList.take o ++ (M :: D) ++ c.toList.drop (o + (M :: D).length)).toArray := by
 rw [setCells_row b e fr D (o + 1) c w hg h, setCells_row b e fr [M] o _ _ (setRow_heap w b c _ e fr hg) (by simp; omega), setRow_setRow]
 congr 2
 have l1 : (c.toList.take (o + 1)).length = o + 1 := by simp; omega
 simp only [List.length_cons, List.length_nil, Nat.zero_add]
 rw [List.append_assoc (c.toList.take (o + 1)), List.drop_left' l1, List.take_append_of_le_length (by omega), List.take_take, Nat.min_eq_left (by omega), show o + 1 + D.length = o + (D.length + 1) by omega]
 simp
theorem lrel_ints (m : LMap) : ∀ xs : List Int, LRel m (iV xs) (iV xs)
 | [] => .nil m
 | x :: xs => .cons (.int .i64 x) (lrel_ints m xs)
theorem lrel_ints_eq {m : LMap} {xs : List Int} {us : List Value} (h : LRel m (iV xs) us) : us = iV xs := by
 apply List.ext_getElem?
 intro i
 cases hx : (iV xs)[i]? with
 | none =>
  rw [List.getElem?_eq_none]
  rw [← h.1]
  simpa using hx
 | some y =>
  obtain ⟨u, hu, hvu⟩ := h.get hx
  have : ∃ k, y = .int .i64 k := by
   simp [iV] at hx
   obtain ⟨k, _, rfl⟩ := hx
   exact ⟨k, rfl⟩
  obtain ⟨k, rfl⟩ := this
  rw [hu, hvu.of_int rfl]
theorem iV_one (xs : List Int) : ∀ v ∈ iV xs, v.oneCell' = true := fun v hv => by
 simp [iV] at hv
 obtain ⟨k, _, rfl⟩ := hv
 rfl
/-- What Insert leaves: a block of its own; the elder one is no more told of. -/
def InsP (S : St) (d : Nat) (zs : List Int) (r : Value) (S' : St) : Prop :=
 ∃ d', r = .slice (some ⟨d', 0, none⟩) zs.length 1 ∧ S'.blk d' = some ⟨false, iV zs⟩ ∧ S.next ≤ d' ∧ Keeps S S' (· ≠ d)
theorem insP_new (S : St) (d : Nat) (zs : List Int) {n : Nat} (hn : zs.length = n) : InsP S d zs (.slice (some ⟨S.next, 0, none⟩) n 1) ((S.kill d).new ⟨false, iV zs⟩) :=
 ⟨S.next, by rw [hn], by simp [St.new, St.kill], Nat.le_refl _, by simp [St.new, St.kill], fun i hi hd => by
  have h1 : ¬ i = (S.kill d).next := Nat.ne_of_lt hi
  have h2 : ¬ i = d := hd
  rw [St.blk_new, if_neg h1, St.blk_kill, if_neg h2]⟩
theorem alloc_setRow (w : World) (c c' : Array Value) (e : TypeId) : (w.alloc (.cells c e)).setRow w.heap.size c' = w.alloc (.cells c' e) := by
 unfold World.setRow World.alloc
 congr 1
 apply Array.ext
 ·simp
 ·intro i hi1 hi2
  simp only [Array.getElem_modify, Array.getElem_push]
  simp at hi1
  by_cases h : i < w.heap.size
  ·simp [h, Nat.ne_of_gt h]
  ·have : i = w.heap.size := by omega
   subst this
   simp
section
variable {w0 w : World} {m : LMap} {S : St}
/-- Grown: a new row. -/
theorem ins_new (hR : Rel w0 m S w) {d : Nat} {r : Abs.Loc} (hr : m d = some r) (zs : List Int) (T : List Value) (e : TypeId) (W : World) (hW : W = w.drew.drew ∨ W = w.drew) (G : Nat) (hz : zs.length ≤ G) (hG : (iV zs ++ T).length = G) (hGm : G ≤ 9223372036854775807) :
  ∃ m' v u S', m.le m' ∧ Rel w0 m' S' (W.alloc (.cells (iV zs ++ T).toArray e)) ∧ Abs.Frame S m w S' m' (W.alloc (.cells (iV zs ++ T).toArray e)) ∧ S.next ≤ S'.next ∧ VRel m' v u ∧ Ending.returned (.slice (some ⟨w.heap.size, 0, none⟩) zs.length G) = .returned u ∧ InsP S d zs v S' := by
 have hWs : W.heap.size = w.heap.size := by rcases hW with rfl | rfl <;> rfl
 have hRW : Rel w0 m S W := by rcases hW with rfl | rfl; exact hR.drew.drew; exact hR.drew
 have hF : Abs.Frame S m w S m W := by rcases hW with rfl | rfl; exact Abs.Frame.drew.trans Abs.Frame.drew; exact Abs.Frame.drew
 have hn := (hRW.kill d).new (iV zs) (iV zs ++ T).toArray e (iV_one zs) (by simp) (by
  rw [show (iV zs ++ T).toArray.toList = iV zs ++ T from rfl, List.take_left]
  exact lrel_ints m zs)
 refine ⟨_, .slice (some ⟨S.next, 0, none⟩) zs.length 1, .slice (some ⟨W.heap.size, 0, none⟩) zs.length G, _, LMap.le_ext (id := S.next) hR.fresh _, hn, hF.trans (((Abs.Frame.refl S m W).kill d hr).trans (.new (S.kill d) m W _ _ _ _)), by simp [St.new, St.kill],
  vrel_newSlice (r := ⟨W.heap.size, 0, (iV zs ++ T).toArray.size⟩) (by show (m.ext S.next _) S.next = _; simp only [LMap.ext, if_true]) rfl hz (by rw [Nat.mul_one]; show G ≤ (iV zs ++ T).length; omega) (.inr hGm), by rw [hWs], insP_new S d zs rfl⟩
/-- In place: the same row. -/
theorem ins_room (hR : Rel w0 m S w) {d at_ : Nat} {cs ys : List Int} {more : Int} (hb : S.blk d = some ⟨false, iV cs⟩) (hy : cs.take ys.length = ys) (hyl : ys.length ≤ cs.length) (ha : at_ ≤ ys.length) {r : Abs.Loc} (hr : m d = some r)
  (c : Array Value) (e : TypeId) (hc : w.heap[r.cb]? = some (.cells c e (0, 0))) (hcs : c.size = r.csz) (cap : Nat) (hcap : r.dl + cap ≤ r.csz) (hcm : cap ≤ 9223372036854775807) (hroom : ys.length + 1 ≤ cap) (W : World) (hW : W = w.drew ∨ W = w) (W' : World)
  (hW' : W' = W.setRow r.cb (c.toList.take (r.dl + at_) ++ iV (more :: ys.drop at_) ++ c.toList.drop (r.dl + at_ + (iV (more :: ys.drop at_)).length)).toArray) :
  ∃ m' v u S', m.le m' ∧ Rel w0 m' S' W' ∧ Abs.Frame S m w S' m' W' ∧ S.next ≤ S'.next ∧ VRel m' v u ∧ Ending.returned (.slice (some ⟨r.cb, r.dl, none⟩) (ys.length + 1) cap) = .returned u ∧ InsP S d (ys.take at_ ++ more :: ys.drop at_) v S' := by
 have hRW : Rel w0 m S W := by rcases hW with rfl | rfl; exact hR.drew; exact hR
 have hF : Abs.Frame S m w S m W := by rcases hW with rfl | rfl; exact Abs.Frame.drew; exact Abs.Frame.refl _ _ _
 have hcW : W.heap[r.cb]? = some (.cells c e (0, 0)) := by rcases hW with rfl | rfl <;> exact hc
 have hta : (iV (ys.take at_)).length = at_ := by rw [iV_length, List.length_take, Nat.min_eq_left ha]
 have hcy : cs.take at_ = ys.take at_ := by rw [← hy, List.take_take, Nat.min_eq_left ha]
 have hold : cellsOf S d 0 (iV (ys.take at_)).length = some (iV (ys.take at_)) := by
  rw [hta, cellsOf_of_blk hb, if_pos (by rw [iV_length]; omega), List.drop_zero]
  simp only [iV, ← List.map_take, hcy]
 have hfit : r.dl + 0 + (iV (ys.take at_)).length + (iV (more :: ys.drop at_)).length ≤ c.size := by
  rw [hta, hcs, iV_length, List.length_cons, List.length_drop]; omega
 have hg := hRW.regrow hb rfl hr hold (lrel_ints m (more :: ys.drop at_)) (iV_one _) c e hcW hcs hfit
 have hzl : (ys.take at_ ++ more :: ys.drop at_).length = ys.length + 1 := by simp; omega
 have he : iV (ys.take at_) ++ iV (more :: ys.drop at_) = iV (ys.take at_ ++ more :: ys.drop at_) := by simp [iV]
 rw [he, hta] at hg
 simp only [Nat.add_zero] at hg
 subst hW'
 refine ⟨_, .slice (some ⟨S.next, 0, none⟩) (ys.length + 1) 1, .slice (some ⟨r.cb, r.dl, none⟩) (ys.length + 1) cap, _, LMap.le_ext hR.fresh _, hg, hF.trans (.regrow W hb rfl hr _ _ _ _), by simp [St.new, St.kill], ?_, rfl, insP_new S d _ hzl⟩
 have := VRel.slice (m := m.ext S.next ⟨r.cb, r.dl, r.csz⟩) (id := S.next) (off := 0) (len := ys.length + 1) (cap := cap) (e := 1) (r := ⟨r.cb, r.dl, r.csz⟩) (by simp [LMap.ext]) hroom (.inr ⟨by simpa using hcap, hcm⟩)
 simpa using this
end
set_option maxHeartbeats 2000000 in
theorem insert154 (d v at_ : Nat) (cs ys : List Int) (more : Int) (S : St) (hb : S.blk d = some ⟨false, iV cs⟩) (hyl : ys.length ≤ cs.length) (hy : cs.take ys.length = ys) (hbv : S.blk v = some ⟨false, [.int .i64 more]⟩) (hvd : v ≠ d) (ha : at_ ≤ ys.length) (hn : ys.length ≤ 1000000) :
  ACalls Tryz.prog 154 [.slice (some ⟨d, 0, none⟩) ys.length 1, .int .i64 at_, .slice (some ⟨v, 0, none⟩) 1 1] S (InsP S d (ys.take at_ ++ more :: ys.drop at_)) := by
 intro w0 m w cargs hR hargs
 obtain ⟨u1, g1, v1⟩ := hargs.get (i := 0) rfl
 obtain ⟨u2, g2, v2⟩ := hargs.get (i := 1) rfl
 obtain ⟨u3, g3, v3⟩ := hargs.get (i := 2) rfl
 have hlen : cargs.length = 3 := hargs.1.symm
 have hca : cargs = [u1, u2, u3] := by
  match cargs, hlen, g1, g2, g3 with
  | [a, b, c], _, g1, g2, g3 => cases g1; cases g2; cases g3; rfl
 subst hca
 obtain rfl := v2.of_int rfl
 obtain ⟨r3, hr3, ⟨cap3, rfl, hc3, _⟩ | ⟨h0, _⟩⟩ := v3.of_slice rfl
 case inr => cases h0
 obtain ⟨_, c3, e3, fr3, k1, k2, k3, k4, _, k6⟩ := hR.blk v _ r3 hbv hr3
 obtain ⟨rfl, _⟩ := k4 rfl
 have hv0 : c3[r3.dl]? = some (.int .i64 more) := by
  obtain ⟨u, hu, hvu⟩ := k6 0 _ rfl
  rw [Nat.add_zero] at hu
  rw [hu, hvu.of_int rfl]
 have hvs : ∀ j x, ([Value.int .i64 more] : List Value)[j]? = some x → w.cell? ⟨r3.cb, r3.dl + j, none⟩ = some x := fun j x hj => by
  match j, hj with
  | 0, hj => cases hj; simp only [World.cell?, k1, Nat.add_zero]; simpa using hv0
 have hzl : (ys.take at_ ++ more :: ys.drop at_).length = ys.length + 1 := by simp; omega
 have hold : cellsOf S d 0 ys.length = some (iV ys) := by
  rw [cellsOf_of_blk hb, if_pos (by rw [iV_length]; omega), List.drop_zero]
  simp only [iV, ← List.map_take, hy]
 have L := Tryz.laysIns
 obtain ⟨r1, hr1, ⟨cap, rfl, hle, hcc⟩ | ⟨h0, a, rfl⟩⟩ := v1.of_slice rfl
 ·rw [Nat.add_zero, Nat.add_zero] at *
  have hcc : r1.dl + cap ≤ r1.csz ∧ cap ≤ 9223372036854775807 := by rcases hcc with h | h; cases h; exact ⟨by simpa using h.1, h.2⟩
  obtain ⟨_, c1, e1, fr1, q1, q2, q3, q4, _, q6⟩ := hR.blk d _ r1 hb hr1
  obtain ⟨rfl, _⟩ := q4 rfl
  have hne : r3.cb ≠ r1.cb := fun e => hvd (hR.inj v d _ _ r3 r1 hbv hb rfl rfl hr3 hr1 e)
  obtain ⟨_, _, us, hus, hcell⟩ := hR.read hold hr1
  obtain rfl := lrel_ints_eq hus
  have hcell' : ∀ j x, (iV ys)[j]? = some x → w.cell? ⟨r1.cb, r1.dl + j, none⟩ = some x := fun j x hj => by
   have := hcell j x hj
   rwa [addr_add, Nat.add_zero] at this
  have hsp : ∀ j, j < cap → (w.cell? ⟨r1.cb, r1.dl + j, none⟩).isSome = true := fun j hj => by
   simp only [World.cell?, q1]
   rw [Array.getElem?_eq_getElem (by omega)]
   rfl
  have hfz : ∀ j, w.frozen? ⟨r1.cb, j, none⟩ = false := fun j => by simp [World.frozen?, q1]
  by_cases hroom : ys.length + 1 ≤ cap
  ·by_cases hat : at_ < ys.length
   ·refine (Any2.slices_Insert_int_shift L r1.cb r1.dl ys.length cap at_ r3.cb r3.dl 1 cap3 (iV ys) [.int .i64 more] w hat (by omega) hroom hcc.2 hne (iV_length _) rfl hcell' (fun j hj => hsp j (by omega)) (fun j _ => hfz _) hvs (iV_one _) (iV_one [more])
     e3 e1 c3.size c1.size (by simp [World.shape?, k1]) (by simp [World.shape?, q1]) (by omega) (by simp [World.frozen?, k1]) (by simp [World.frozen?, k1])).mono ?_
    rintro e w' ⟨rfl, rfl⟩
    refine ins_room hR hb hy hyl ha hr1 c1 e1 q1 q2 cap hcc.1 hcc.2 hroom w.drew (.inl rfl) _ ?_
    have hq1 : w.drew.heap[r1.cb]? = some (.cells c1 e1 (0, 0)) := q1
    rw [show r1.dl + (at_ + 1) = r1.dl + at_ + 1 by omega, two_rows r1.cb e1 (0, 0) (.int .i64 more) ((iV ys).drop at_) (r1.dl + at_) c1 w.drew hq1 (by simp [iV_length]; omega)]
    simp [iV]
   ·have hat : at_ = ys.length := by omega
    subst hat
    refine (Any2.slices_Insert_int_end_room L r1.cb r1.dl ys.length cap r3.cb r3.dl 1 cap3 [.int .i64 more] w (by omega) hroom hcc.2 rfl (fun j hj => by rw [Nat.add_assoc]; exact hsp _ (by omega)) (fun j hj => hfz _) hvs (iV_one [more])).mono ?_
    rintro e w' ⟨rfl, rfl⟩
    refine ins_room hR hb hy hyl ha hr1 c1 e1 q1 q2 cap hcc.1 hcc.2 hroom w (.inr rfl) _ ?_
    rw [setCells_row r1.cb e1 (0, 0) _ _ c1 w q1 (by simp; omega)]
    simp [iV]
  ·have hroom : cap < ys.length + 1 := by omega
   have hge := grownCap_ge w (ys.length + 1) cap (Tryz.laysIns_ren.t 3)
   have hgm : grownCap w (ys.length + 1) cap (Tryz.laysIns_ren.t 3) ≤ 9223372036854775807 := by
    have := grownCap_le_maxLen w (ys.length + 1) cap (Tryz.laysIns_ren.t 3) (by unfold maxLen; omega)
    unfold maxLen at this
    omega
   by_cases hat : at_ < ys.length
   ·refine (Any2.slices_Insert_int_grow L r1.cb r1.dl ys.length cap at_ r3.cb r3.dl 1 cap3 (iV ys) [.int .i64 more] w hat (by omega) hle hroom (by omega) (iV_length _) rfl hcell' hvs (iV_one _) (iV_one [more])).mono ?_
    rintro e w' ⟨rfl, rfl⟩
    generalize grownCap w (ys.length + 1) cap (Tryz.laysIns_ren.t 3) = G at *
    have hrow : ∃ T : List Value, (((w.alloc (.cells (((iV ys).take at_).toArray ++ Builtin.zeroCells (Value.int .i64 0).cells (ys.length + 1 - at_) ++ Builtin.zeroCells (Value.int .i64 0).cells (G - (ys.length + 1))) (Tryz.laysIns_ren.t 3))).drew.setCells w.heap.size at_ [.int .i64 more]).drew).setCells w.heap.size (at_ + 1) ((iV ys).drop at_) =
      w.drew.drew.alloc (.cells (iV (ys.take at_ ++ more :: ys.drop at_) ++ T).toArray (Tryz.laysIns_ren.t 3)) ∧ (iV (ys.take at_ ++ more :: ys.drop at_) ++ T).length = G := by
     obtain ⟨ROW, hROW⟩ : ∃ ROW, ROW = ((iV ys).take at_).toArray ++ Builtin.zeroCells (Value.int .i64 0).cells (ys.length + 1 - at_) ++ Builtin.zeroCells (Value.int .i64 0).cells (G - (ys.length + 1)) := ⟨_, rfl⟩
     have hsz : ROW.size = G := by rw [hROW]; simp [size_zeroCells, iV_length, Value.cells]; omega
     have htk : ROW.toList.take at_ = iV (ys.take at_) := by
      rw [hROW, Array.toList_append, Array.toList_append, List.append_assoc, show ((iV ys).take at_).toArray.toList = (iV ys).take at_ from rfl, List.take_left' (by rw [List.length_take, iV_length]; omega)]
      simp [iV]
     rw [← hROW, drew_setCells]
     have hg1 : (w.drew.drew.alloc (.cells ROW (Tryz.laysIns_ren.t 3))).heap[w.heap.size]? = some (.cells ROW (Tryz.laysIns_ren.t 3) (0, 0)) := heap_alloc_new w.drew.drew _
     show ∃ T : List Value, ((w.drew.drew.alloc (.cells ROW (Tryz.laysIns_ren.t 3))).setCells w.heap.size at_ [.int .i64 more]).setCells w.heap.size (at_ + 1) ((iV ys).drop at_) = _ ∧ _
     rw [setCells_row w.heap.size _ _ [.int .i64 more] at_ ROW _ hg1 (by simp; omega)]
     rw [setCells_row w.heap.size _ _ ((iV ys).drop at_) (at_ + 1) _ _ (setRow_heap _ _ _ _ _ _ hg1) (by simp [iV_length]; omega), setRow_setRow]
     have l1 : (ROW.toList.take at_ ++ [Value.int .i64 more]).length = at_ + 1 := by simp; omega
     refine ⟨(ROW.toList.take at_ ++ [Value.int .i64 more] ++ ROW.toList.drop (at_ + 1)).drop (at_ + 1 + ((iV ys).drop at_).length), ?_, ?_⟩
     ·have := alloc_setRow w.drew.drew ROW (iV (ys.take at_ ++ more :: ys.drop at_) ++ (ROW.toList.take at_ ++ [Value.int .i64 more] ++ ROW.toList.drop (at_ + 1)).drop (at_ + 1 + ((iV ys).drop at_).length)).toArray (Tryz.laysIns_ren.t 3)
      rw [← this]
      show World.setRow _ w.heap.size _ = World.setRow _ w.heap.size _
      congr 2
      simp only [List.length_cons, List.length_nil, Nat.zero_add]
      rw [List.take_left' l1, htk]
      simp [iV]
     ·simp [iV_length]; omega
    obtain ⟨T, hT, hTl⟩ := hrow
    show ∃ m' v u S', m.le m' ∧ Rel w0 m' S' ((((w.alloc (.cells (((iV ys).take at_).toArray ++ Builtin.zeroCells (Value.int .i64 0).cells (ys.length + 1 - at_) ++ Builtin.zeroCells (Value.int .i64 0).cells (G - (ys.length + 1))) (Tryz.laysIns_ren.t 3))).drew.setCells w.heap.size at_ [.int .i64 more]).drew).setCells w.heap.size (at_ + 1) ((iV ys).drop at_)) ∧ _
    simp only [hT]
    have := ins_new hR hr1 (ys.take at_ ++ more :: ys.drop at_) T (Tryz.laysIns_ren.t 3) w.drew.drew (.inl rfl) G (by omega) hTl hgm
    rw [hzl] at this
    exact this
   ·have hat : at_ = ys.length := by omega
    subst hat
    refine (Any2.slices_Insert_int_end_grow L (some ⟨r1.cb, r1.dl, none⟩) ys.length cap r3.cb r3.dl 1 cap3 (iV ys) [.int .i64 more] w (by omega) hle hroom (by omega) (iV_length _) rfl (by simp) (fun a ha j x hj => by cases ha; rw [addr_add]; exact hcell' j x hj) hvs (iV_one [more])).mono ?_
    rintro e w' ⟨rfl, rfl⟩
    generalize grownCap w (ys.length + 1) cap (Tryz.laysIns_ren.t 3) = G at *
    have := ins_new hR hr1 (ys.take ys.length ++ more :: ys.drop ys.length) (Builtin.zeroCells (Value.int .i64 0).cells (G - (ys.length + 1))).toList (Tryz.laysIns_ren.t 3) w.drew (.inr rfl) G (by omega) (by simp [size_zeroCells, iV_length, Value.cells]; omega) hgm
    rw [hzl] at this
    have e1 : (iV (ys.take ys.length ++ more :: ys.drop ys.length) ++ (Builtin.zeroCells (Value.int .i64 0).cells (G - (ys.length + 1))).toList).toArray = (iV ys ++ [Value.int .i64 more]).toArray ++ Builtin.zeroCells (Value.int .i64 0).cells (G - (ys.length + 1)) := by simp [iV]
    rw [e1] at this
    exact this
 ·have hy0 : ys = [] := List.eq_nil_of_length_eq_zero h0
  subst hy0
  have ha0 : at_ = 0 := by simpa using ha
  subst ha0
  have hge := grownCap_ge w 1 0 (Tryz.laysIns_ren.t 3)
  have hgm : grownCap w 1 0 (Tryz.laysIns_ren.t 3) ≤ 9223372036854775807 := by
   have := grownCap_le_maxLen w 1 0 (Tryz.laysIns_ren.t 3) (by unfold maxLen; omega)
   unfold maxLen at this
   omega
  refine (Any2.slices_Insert_int_end_grow L (some a) 0 0 r3.cb r3.dl 1 cap3 [] [.int .i64 more] w (by omega) (by omega) (by omega) (by omega) rfl rfl (by simp) (fun a ha j x hj => by simp at hj) hvs (iV_one [more])).mono ?_
  rintro e w' ⟨rfl, rfl⟩
  simp only [Nat.zero_add]
  generalize grownCap w 1 0 (Tryz.laysIns_ren.t 3) = G at *
  have := ins_new hR hr1 [more] (Builtin.zeroCells (Value.int .i64 0).cells (G - 1)).toList (Tryz.laysIns_ren.t 3) w.drew (.inr rfl) G (by simpa using hge) (by simp [size_zeroCells, iV_length, Value.cells]; omega) hgm
  have e1 : (iV [more] ++ (Builtin.zeroCells (Value.int .i64 0).cells (G - 1)).toList).toArray = ([] ++ [Value.int .i64 more]).toArray ++ Builtin.zeroCells (Value.int .i64 0).cells (G - 1) := by simp [iV]
  rw [e1] at this
  exact this
theorem insert154_nil (v : Nat) (more : Int) (S : St) (hbv : S.blk v = some ⟨false, [.int .i64 more]⟩) :
  ACalls Tryz.prog 154 [.slice none 0 0, .int .i64 0, .slice (some ⟨v, 0, none⟩) 1 1] S fun r S' => ∃ d', r = .slice (some ⟨d', 0, none⟩) 1 1 ∧ S'.blk d' = some ⟨false, iV [more]⟩ ∧ S.next ≤ d' ∧ KeepsAll S S' := by
 intro w0 m w cargs hR hargs
 obtain ⟨u1, g1, v1⟩ := hargs.get (i := 0) rfl
 obtain ⟨u2, g2, v2⟩ := hargs.get (i := 1) rfl
 obtain ⟨u3, g3, v3⟩ := hargs.get (i := 2) rfl
 have hlen : cargs.length = 3 := hargs.1.symm
 have hca : cargs = [u1, u2, u3] := by
  match cargs, hlen, g1, g2, g3 with
  | [a, b, c], _, g1, g2, g3 => cases g1; cases g2; cases g3; rfl
 subst hca
 obtain rfl := v2.of_int rfl
 obtain ⟨_, _, rfl⟩ := v1.of_snil rfl
 obtain ⟨r3, hr3, ⟨cap3, rfl, hc3, _⟩ | ⟨h0, _⟩⟩ := v3.of_slice rfl
 case inr => cases h0
 obtain ⟨_, c3, e3, fr3, k1, k2, k3, k4, _, k6⟩ := hR.blk v _ r3 hbv hr3
 have hv0 : c3[r3.dl]? = some (.int .i64 more) := by
  obtain ⟨u, hu, hvu⟩ := k6 0 _ rfl
  rw [Nat.add_zero] at hu
  rw [hu, hvu.of_int rfl]
 have hvs : ∀ j x, ([Value.int .i64 more] : List Value)[j]? = some x → w.cell? ⟨r3.cb, r3.dl + j, none⟩ = some x := fun j x hj => by
  match j, hj with
  | 0, hj => cases hj; simp only [World.cell?, k1, Nat.add_zero]; simpa using hv0
 have hge := grownCap_ge w 1 0 (Tryz.laysIns_ren.t 3)
 have hgm : grownCap w 1 0 (Tryz.laysIns_ren.t 3) ≤ 9223372036854775807 := by
  have := grownCap_le_maxLen w 1 0 (Tryz.laysIns_ren.t 3) (by unfold maxLen; omega)
  unfold maxLen at this
  omega
 refine (Any2.slices_Insert_int_end_grow Tryz.laysIns none 0 0 r3.cb r3.dl 1 cap3 [] [.int .i64 more] w (by omega) (by omega) (by omega) (by omega) rfl rfl (by simp) (fun a ha j x hj => by simp at hj) hvs (iV_one [more])).mono ?_
 rintro e w' ⟨rfl, rfl⟩
 simp only [Nat.zero_add]
 generalize grownCap w 1 0 (Tryz.laysIns_ren.t 3) = G at *
 have e1 : ([] ++ [Value.int .i64 more]).toArray ++ Builtin.zeroCells (Value.int .i64 0).cells (G - 1) = (iV [more] ++ (Builtin.zeroCells (Value.int .i64 0).cells (G - 1)).toList).toArray := by simp [iV]
 rw [e1]
 have hG : (iV [more] ++ (Builtin.zeroCells (Value.int .i64 0).cells (G - 1)).toList).length = G := by simp [size_zeroCells, iV_length, Value.cells]; omega
 have hn := hR.drew.new (iV [more]) (iV [more] ++ (Builtin.zeroCells (Value.int .i64 0).cells (G - 1)).toList).toArray (Tryz.laysIns_ren.t 3) (iV_one _) (by simp) (by
  rw [show (iV [more] ++ (Builtin.zeroCells (Value.int .i64 0).cells (G - 1)).toList).toArray.toList = iV [more] ++ (Builtin.zeroCells (Value.int .i64 0).cells (G - 1)).toList from rfl, List.take_left]
  exact lrel_ints m [more])
 refine ⟨_, .slice (some ⟨S.next, 0, none⟩) 1 1, .slice (some ⟨w.heap.size, 0, none⟩) 1 G, _, LMap.le_ext (id := S.next) hR.fresh _, hn, Abs.Frame.drew.trans (.new S m w.drew _ _ _ _), by simp [St.new],
  vrel_newSlice (r := ⟨w.drew.heap.size, 0, (iV [more] ++ (Builtin.zeroCells (Value.int .i64 0).cells (G - 1)).toList).toArray.size⟩) (by simp only [LMap.ext, if_true]) rfl (by simpa using hge) (by rw [Nat.mul_one]; show G ≤ (iV [more] ++ (Builtin.zeroCells (Value.int .i64 0).cells (G - 1)).toList).length; omega) (.inr hgm), rfl,
  ⟨S.next, rfl, by rw [St.blk_new, if_pos rfl], Nat.le_refl _, Keeps.of_new _ _ _⟩⟩
end Go.Proofs.YtegaklgjcicnfaaGreat
namespace Go.Proofs.YtegaklgjcicnfaaGreat
open Go Go.Proofs.YtegaklgjcicnfaaGreat.Abs
def frameSg : List Bool := [true, true, true, true, true, true, true, true, true, true, true, true, true, true, true, true, false, true, true, true, true, true, true, false, true]
def placedSg : List Bool := true :: frameSg
/-- How many are below a node, at most. -/
def bd (l : List Nd) (n : Nat) : Nat := 2 ^ (l.length - n - 1) - 1
def layV (L y : Value) (e t1 t2 c1 c2 : Int) (k : Bool) (high : Int) : Value := .agg #[L, y, .int .i64 e, .int .i64 t1, .int .i64 t2, .int .i64 c1, .int .i64 c2, .bool k, .int .i64 high]
/-- Those that are placed: nodes behind one. -/
def PlacedAt (l : List Nd) (n : Nat) (m : Nat) (cs : List Value) : Prop :=
 ∀ j, j < m → Fl placedSg ((cs.drop (j * 26)).take 26) ∧ ∃ k : Nat, cs[j * 26]? = some (.int .i64 k) ∧ n < k ∧ k < l.length
/-- What is in a box, loosely. -/
def LayP (l : List Nd) (n b : Nat) (S S' : St) (v : Value) : Prop :=
 ∃ L y e t1 t2 c1 c2 k high m cs, v = layV L y e t1 t2 c1 c2 k high ∧ (∃ a i j, y = .slice a i j) ∧ Sl S' 26 L m cs ∧ Fresh S L ∧ m ≤ b ∧ PlacedAt l n m cs
theorem layP_nil (l : List Nd) (n b : Nat) (S S' : St) : LayP l n b S S' (layV (.slice none 0 0) (.slice none 0 0) 0 0 0 0 0 false 0) :=
 ⟨_, _, _, _, _, _, _, _, _, 0, [], rfl, ⟨_, _, _, rfl⟩, .inl ⟨rfl, rfl, rfl⟩, fun d hd => by simp [Value.blkOf] at hd, Nat.zero_le _, fun j hj => by omega⟩
def BoxP (l : List Nd) (n : Nat) (S : St) (r : Value) (S' : St) : Prop :=
 (∃ fs v b, r = .tuple #[.agg (List.toArray fs), v, .bool b] ∧ Fl frameSg fs ∧ LayP l n (bd l n) S S' v) ∧ KeepsAll S S'
def InP (l : List Nd) (n b : Nat) (S : St) (r : Value) (S' : St) : Prop :=
 (∃ v c, r = .tuple #[v, .bool c] ∧ LayP l n b S S' v) ∧ KeepsAll S S'
theorem z99_fl : Fl frameSg z99 := trivial
theorem child_eq {ds : List Value} (h : Fl childSg ds) : ∃ a b c d e f g i, ds = [.int .i64 a, .int .i64 b, .int .i64 c, .int .i64 d, .int .i64 e, .int .i64 f, .bool g, .int .i64 i] := by
 obtain ⟨a, r1, rfl, h1⟩ := Fl.invI h
 obtain ⟨b, r2, rfl, h2⟩ := Fl.invI h1
 obtain ⟨c, r3, rfl, h3⟩ := Fl.invI h2
 obtain ⟨d, r4, rfl, h4⟩ := Fl.invI h3
 obtain ⟨e, r5, rfl, h5⟩ := Fl.invI h4
 obtain ⟨f, r6, rfl, h6⟩ := Fl.invI h5
 obtain ⟨g, r7, rfl, h7⟩ := Fl.invB h6
 obtain ⟨i, r8, rfl, h8⟩ := Fl.invI h7
 obtain rfl := h8.nil
 exact ⟨_, _, _, _, _, _, _, _, rfl⟩
section
variable {hi kp : Nat} {l : List Nd}
set_option maxHeartbeats 4000000 in
theorem fill105 (n : Nat) (hok : ∀ x ∈ l, x.Ok) (hn : n < l.length) (hl : l.length ≤ 1000000)
  (hin : ∀ (S : St) (w h : Int) (a : Bool) (es : List Value), KinAt S hi kp l → hi ≤ S.next → Fl edgeSg es → ACalls Tryz.prog 132 [ptr kp, .int .i64 n, .int .i64 w, .agg #[.bool a, .int .i64 h], .agg es.toArray, .int .i64 (-1)] S (InP l n (bd l n) S))
  (S : St) (es : List Value) (x0 x1 x2 : Int) (hK : KinAt S hi kp l) (hh : hi ≤ S.next) (he : Fl edgeSg es) :
  ACalls Tryz.prog 105 [ptr kp, .int .i64 n, .agg es.toArray, .agg #[.int .i64 x0, .int .i64 x1, .int .i64 x2]] S (BoxP l n S) := by
 refine run_of hmix Tryz.func105 cF105 rfl fun hL Q hQ => ?_
 obtain ⟨q0, q1, q2, q3, hbd⟩ := ints4_eq (he.sub 16 4)
 obtain ⟨p0, p1, p2, p3, p4, p5, p6, p7, hpd⟩ := sizes4_eq (he.sub 8 8)
 have zero : ∀ (S' : St) (fs : List Value) (v : Value) (b : Bool), Fl frameSg fs → LayP l n (bd l n) S S' v → KeepsAll S S' → BoxP l n S (.tuple #[.agg (List.toArray fs), v, .bool b]) S' := fun S' fs v b h1 h2 h3 => ⟨⟨fs, v, b, rfl, h1, h2⟩, h3⟩
 cases h20 : bg es 20
 case' false =>
  simp only [go_sem, seval, aF105, he.N 28, he.F 28, he.Z 20, he.I 22, he.I 23, h20]
  refine cK_of (clamp131 _ _ _ _) ?_
  rintro v S1 _ hL1 ⟨⟨hN, rfl⟩, hS1⟩
  obtain rfl := hS1.symm
  simp only [go_sem, seval, he.N 28, he.F 28]
  refine cK_of (hin _ _ _ _ _ hK hh he) ?_
  rintro v S2 _ hL2 ⟨⟨v, c, rfl, L, y, e, t1, t2, c1, c2, k, high, m, cs, rfl, ⟨ya, yi, yj, rfl⟩, g1, g2, g3, g4⟩, hk2⟩
  obtain ⟨La, Le, rfl⟩ := g1.slice
  have hlay := fun (S' : St) (hk : KeepsAll S2 S') => (⟨_, _, _, _, _, _, _, _, _, m, cs, rfl, ⟨ya, yi, yj, rfl⟩, g1.keeps hL2 hk fun _ _ => trivial, g2, g3, g4⟩ : LayP l n (bd l n) S S' (layV (.slice La m Le) (.slice ya yi yj) e t1 t2 c1 c2 k high))
  cases c
  ·simp only [go_sem, seval, layV]
   refine fin_at hQ rfl ?_; simp only [go_sem, seval, aF105]; rw [retQ_some]; simp only [oneOr]
   exact zero _ _ _ _ z99_fl (layP_nil _ _ _ _ _) hk2
  simp only [go_sem, seval, layV, he.N 28, he.F 28]
 case' true =>
  simp only [go_sem, seval, aF105, he.N 28, he.F 28, he.Z 20, he.I 22, he.I 23, h20]
  refine cK_of (hin _ _ _ _ _ hK hh he) ?_
  rintro v S2 _ hL2 ⟨⟨v, c, rfl, L, y, e, t1, t2, c1, c2, k, high, m, cs, rfl, ⟨ya, yi, yj, rfl⟩, g1, g2, g3, g4⟩, hk2⟩
  obtain ⟨La, Le, rfl⟩ := g1.slice
  have hlay := fun (S' : St) (hk : KeepsAll S2 S') => (⟨_, _, _, _, _, _, _, _, _, m, cs, rfl, ⟨ya, yi, yj, rfl⟩, g1.keeps hL2 hk fun _ _ => trivial, g2, g3, g4⟩ : LayP l n (bd l n) S S' (layV (.slice La m Le) (.slice ya yi yj) e t1 t2 c1 c2 k high))
  cases c
  ·simp only [go_sem, seval, layV]
   refine fin_at hQ rfl ?_; simp only [go_sem, seval, aF105]; rw [retQ_some]; simp only [oneOr]
   exact zero _ _ _ _ z99_fl (layP_nil _ _ _ _ _) hk2
  simp only [go_sem, seval, layV, he.N 28, he.F 28, he.I 22, he.I 23]
  refine cK_of (clamp131 _ _ _ _) ?_
  rintro v S1 _ hL1 ⟨⟨hN, rfl⟩, hS1⟩
  obtain rfl := hS1.symm
  simp only [go_sem, seval, he.N 28, he.F 28]
 all_goals
  have hK2 := hK.keeps hh hk2
  have hh2 : hi ≤ S2.next := Nat.le_trans hh hk2.1
  refine cK_of (around100 es 0 2 S2 he (by omega) (by omega)) ?_
  rintro v S3 _ hL3 ⟨⟨ar, ok1, rfl⟩, hk3⟩
  simp only [go_sem, seval]
  refine cK_of (sum109 _ [ar, hN] _ (sl_new _ [ar, hN]) (by simp)) ?_
  rintro v S4 _ hL4 ⟨⟨hsum, ok2, rfl, _⟩, rfl⟩
  have hk24 := hk3.new ⟨false, [.int .i64 ar, .int .i64 hN]⟩
  have hlay4 := hlay _ hk24
  have hk04 := hk2.trans hk24 fun _ _ _ => trivial
  have hK4 := hK.keeps hh hk04
  have hh4 := Nat.le_trans hh hk04.1
  cases ok1
  ·simp only [go_sem, seval]
   refine fin_at hQ rfl ?_; simp only [go_sem, seval, aF105]; rw [retQ_some]; simp only [oneOr]
   exact zero _ _ _ _ z99_fl (layP_nil _ _ _ _ _) hk04
  cases ok2
  ·simp only [go_sem, seval]
   refine fin_at hQ rfl ?_; simp only [go_sem, seval, aF105]; rw [retQ_some]; simp only [oneOr]
   exact zero _ _ _ _ z99_fl (layP_nil _ _ _ _ _) hk04
  simp only [go_sem, seval, he.N 28, he.F 28, hbd, hpd, he.B 20, he.Z0, he.Z 4, z99]
  refine cK_of (or128' _ _ _) ?_
  rintro v S5 _ hL5 ⟨rfl, hS5⟩
  obtain rfl := hS5.symm
  simp only [go_sem, seval]
  refine cK_of (or128' _ _ _) ?_
  rintro v S5 _ hL5 ⟨rfl, hS5⟩
  obtain rfl := hS5.symm
  generalize or0 (bg es 0) (ig es 1) = o1
  generalize or0 (bg es 4) (ig es (4 + 1)) = o2
  simp only [go_sem, seval, hpd, he.N 28]
  refine lK_unroll ?_
  simp only [go_sem, seval, hpd, he.N 28]
  refine lK_unroll ?_
  simp only [go_sem, seval]
  refine lK_unroll ?_
  simp only [go_sem, seval]
  refine lK_unroll ?_
  simp only [go_sem, seval]
  refine lK_unroll ?_
  simp only [go_sem, seval, he.N 28, he.F 28]
  refine cK_of (flow134 hK4 hh4 hok hl hn) ?_
  rintro v S6 _ hL6 ⟨hpk, hk6⟩
  have hkk : ∃ a nk ek, v = .slice a nk ek := by
   rcases hpk with rfl | ⟨d, ys, cs', rfl, _⟩
   ·exact ⟨_, _, _, rfl⟩
   ·exact ⟨_, _, _, rfl⟩
  obtain ⟨fa, fn, fe, rfl⟩ := hkk
  have hk06 := hk04.trans hk6 fun _ _ _ => trivial
  have hlay6 := hlay _ (hk24.trans hk6 fun _ _ _ => trivial)
  simp only [go_sem, seval]
  refine cK_of (child133 es fn (.slice ya yi yj) e t1 t2 c1 c2 hsum k S6 he) ?_
  rintro v S7 _ hL7 ⟨⟨ds, rfl, hds⟩, hS7⟩
  obtain rfl := hS7.symm
  obtain ⟨z0, z1, z2, z3, z4, z5, z6, z7, rfl⟩ := child_eq hds
  simp only [go_sem, seval]
  refine fin_at hQ rfl ?_; simp only [go_sem, seval, aF105]; rw [retQ_some]; simp only [oneOr]
  exact zero _ _ _ _ (by trivial) hlay6 hk06
end
end Go.Proofs.YtegaklgjcicnfaaGreat
namespace Go.Proofs.YtegaklgjcicnfaaGreat
open Go Go.Proofs.YtegaklgjcicnfaaGreat.Abs
section
variable {hi kp : Nat} {l : List Nd}
set_option maxHeartbeats 4000000 in
theorem box68 (n : Nat) (hok : ∀ x ∈ l, x.Ok) (hn : n < l.length) (hl : l.length ≤ 1000000)
  (hin : ∀ (S : St) (w h : Int) (a : Bool) (es : List Value), KinAt S hi kp l → hi ≤ S.next → Fl edgeSg es → ACalls Tryz.prog 132 [ptr kp, .int .i64 n, .int .i64 w, .agg #[.bool a, .int .i64 h], .agg es.toArray, .int .i64 (-1)] S (InP l n (bd l n) S))
  (S : St) (w h : Int) (a rtl : Bool) (hK : KinAt S hi kp l) (hh : hi ≤ S.next) :
  ACalls Tryz.prog 68 [ptr kp, .int .i64 n, .int .i64 w, .agg #[.bool a, .int .i64 h], .bool rtl] S (BoxP l n S) := by
 refine run_of hmix Tryz.func68 cF68 rfl fun hL Q hQ => ?_
 have hs := sty_fl (hok _ (List.getElem_mem hn)).s
 have zero : ∀ (S' : St) (fs : List Value) (v : Value) (b : Bool), Fl frameSg fs → LayP l n (bd l n) S S' v → KeepsAll S S' → BoxP l n S (.tuple #[.agg (List.toArray fs), v, .bool b]) S' := fun S' fs v b h1 h2 h3 => ⟨⟨fs, v, b, rfl, h1, h2⟩, h3⟩
 simp only [go_sem, seval, aF68]
 refine cK_of (style55 hK hok hn) ?_
 rintro v S1 _ hL1 ⟨rfl, hS1⟩
 obtain rfl := hS1.symm
 generalize hcs : l[n].s.cells = cs at *
 cases hn0 : ((n : Int) == 0)
 case' false => simp only [go_sem, seval, hs.N 48, hs.F 48, z39, hn0, hs.B 45]
 case' true => simp only [go_sem, seval, hs.N 48, hs.F 48, z39, hn0]
 all_goals
  refine cK_of (edges99 cs w h a _ S hs) ?_
  rintro v S2 _ hL2 ⟨⟨es, ok1, rfl, he⟩, hk2⟩
  simp only [go_sem, seval, he.N 28, he.F 28, z168]
  refine cK_of (around100 es 3 1 S2 he (by omega) (by omega)) ?_
  rintro v S3 _ hL3 ⟨⟨ar, ok2, rfl⟩, hk3⟩
  have hk03 := hk2.trans hk3 fun _ _ _ => trivial
  simp only [go_sem, seval, hs.N 48, hs.L 10]
  refine cK_of (of101 _ _ _ _ _) ?_
  rintro v S4 _ hL4 ⟨⟨wa, wn, ok3, rfl, _⟩, hS4⟩
  obtain rfl := hS4.symm
  simp only [go_sem, seval, hs.N 48, hs.L 14]
  refine cK_of (least102 _ _ _ _ _) ?_
  rintro v S4 _ hL4 ⟨⟨le, ok4, rfl, _⟩, hS4⟩
  obtain rfl := hS4.symm
  simp only [go_sem, seval, hs.N 48, hs.L 16]
  refine cK_of (most103 _ _ _ _ _) ?_
  rintro v S4 _ hL4 ⟨⟨mo, ok5, rfl, _⟩, hS4⟩
  obtain rfl := hS4.symm
  cases ok1
  ·simp only [go_sem, seval]
   refine fin_at hQ rfl ?_; simp only [go_sem, seval, aF68]; rw [retQ_some]; simp only [oneOr]
   exact zero _ _ _ _ z99_fl (layP_nil _ _ _ _ _) hk03
  cases ok2
  ·simp only [go_sem, seval]
   refine fin_at hQ rfl ?_; simp only [go_sem, seval, aF68]; rw [retQ_some]; simp only [oneOr]
   exact zero _ _ _ _ z99_fl (layP_nil _ _ _ _ _) hk03
  cases ok3
  ·simp only [go_sem, seval]
   refine fin_at hQ rfl ?_; simp only [go_sem, seval, aF68]; rw [retQ_some]; simp only [oneOr]
   exact zero _ _ _ _ z99_fl (layP_nil _ _ _ _ _) hk03
  cases ok4
  ·simp only [go_sem, seval]
   refine fin_at hQ rfl ?_; simp only [go_sem, seval, aF68]; rw [retQ_some]; simp only [oneOr]
   exact zero _ _ _ _ z99_fl (layP_nil _ _ _ _ _) hk03
  cases ok5
  ·simp only [go_sem, seval]
   refine fin_at hQ rfl ?_; simp only [go_sem, seval, aF68]; rw [retQ_some]; simp only [oneOr]
   exact zero _ _ _ _ z99_fl (layP_nil _ _ _ _ _) hk03
  simp only [go_sem, seval, he.N 28, he.Z 6, he.Z 2]
  refine cK_of (across104 [.int .i64 w, .bool (bg es 6), .int .i64 (ig es (6 + 1)), .bool wa, .int .i64 wn, .bool (bg es 2), .int .i64 (ig es (2 + 1)), .int .i64 ar, .bool rtl, .int .i64 le, .int .i64 mo] S3 (by trivial)) ?_
  rintro v S5 _ hL5 ⟨⟨xa, xb, xc, ok6, rfl⟩, hk5⟩
  have hk05 := hk03.trans hk5 fun _ _ _ => trivial
  cases ok6
  ·simp only [go_sem, seval]
   refine fin_at hQ rfl ?_; simp only [go_sem, seval, aF68]; rw [retQ_some]; simp only [oneOr]
   exact zero _ _ _ _ z99_fl (layP_nil _ _ _ _ _) hk05
  have hK5 := hK.keeps hh hk05
  have hh5 := Nat.le_trans hh hk05.1
  simp only [go_sem, seval, he.N 28, he.F 28]
  refine cK_of (fill105 n hok hn hl hin S5 es xa xb xc hK5 hh5 he) ?_
  rintro v S6 _ hL6 ⟨⟨fs, v, b, rfl, hf, L, y, e, t1, t2, c1, c2, k, high, m, cs', rfl, ⟨ya, yi, yj, rfl⟩, g1, g2, g3, g4⟩, hk6⟩
  obtain ⟨La, Le, rfl⟩ := g1.slice
  simp only [go_sem, seval, layV, hf.N 25, hf.F 25]
  refine fin_at hQ rfl ?_; simp only [go_sem, seval, aF68, hf.N 25, hf.F 25]; rw [retQ_some]; simp only [oneOr]
  exact zero _ _ _ _ hf ⟨_, _, _, _, _, _, _, _, _, m, cs', rfl, ⟨ya, yi, yj, rfl⟩, g1, fun d hd => Nat.le_trans hk05.1 (g2 d hd), g3, g4⟩ (hk05.trans hk6 fun _ _ _ => trivial)
end
end Go.Proofs.YtegaklgjcicnfaaGreat
