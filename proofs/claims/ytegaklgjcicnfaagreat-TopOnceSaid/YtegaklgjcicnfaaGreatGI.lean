/- One who paints: a context. -/
import Derived.Test.YtegaklgjcicnfaaGreatGH
set_option linter.unusedSimpArgs false
set_option linter.unusedVariables false
namespace Go.Proofs.YtegaklgjcicnfaaGreat
open Go Go.Proofs.YtegaklgjcicnfaaGreat.Abs
def agN (S : St) (q : Nat) : Nat := match rd S q 0 with | some (.slice _ n _) => n | _ => 0
theorem agN_eq {S : St} {q : Nat} {qs : List Value} {x : Value} {es : List En} (h : Ag S q 0 qs x es) : agN S q = es.length := by
 obtain ⟨a, e, h1⟩ := h.rdn
 unfold agN
 rw [h1]
theorem peekA {S : St} {q : Nat} {ax : Value} {es : List En} (h : Ag S q 0 [ax] ax es) : ACalls Tryz.prog 89 [.pointer (some ⟨q, 0, none⟩)] S fun v S' => ∃ e b, v = .tuple #[.agg e.cells.toArray, .bool b] ∧ S' = S ∧ (b = false → es = []) ∧ (b = true → ∃ r, es = e :: r) := by
 cases es with
 | nil => exact (peek_nil h).mono fun v S' _ ⟨h1, h2⟩ => ⟨_, false, h1, h2, fun _ => rfl, fun hb => by cases hb⟩
 | cons e r => exact (peek_cons h).mono fun v S' _ ⟨h1, h2⟩ => ⟨e, true, h1, h2, fun hb => (by cases hb), fun _ => ⟨r, rfl⟩⟩
theorem nextA {S : St} {q : Nat} {ax : Value} {es : List En} (h : Ag S q 0 [ax] ax es) (hn : es.length ≤ 900000) : ACalls Tryz.prog 46 [.pointer (some ⟨q, 0, none⟩)] S fun v S' => ∃ e b ax' es', v = .tuple #[.agg e.cells.toArray, .bool b] ∧ Ag S' q 0 [ax'] ax' es' ∧ Keeps S S' (fun i => i ≠ q ∧ Value.blkOf ax ≠ some i) ∧ (∀ i, Value.blkOf ax' = some i → Value.blkOf ax = some i ∨ S.next ≤ i) ∧ (b = false → es = [] ∧ es' = []) ∧ (b = true → ∃ r, es = e :: r ∧ es'.Perm r ∧ ∀ z ∈ r, ¬ ltE z e) := by
 cases es with
 | nil =>
  refine (next_nil h).mono fun v S' _ ⟨h1, h2⟩ => ?_
  subst h2
  exact ⟨_, false, ax, [], h1, h, Keeps.refl _ _, fun i hi => .inl hi, fun _ => ⟨rfl, rfl⟩, fun hb => by cases hb⟩
 | cons e r =>
  refine (next_cons h (by simp at hn; omega)).mono fun v S' _ ⟨h1, x', es', h2, h3, h4, h5⟩ => ?_
  exact ⟨e, true, x', es', h1, h2, h4, fun i hi => .inl (h5 ▸ hi), fun hb => (by cases hb), fun _ => ⟨r, rfl, h3, fun z hz => h.heap.head z (List.mem_cons_of_mem _ hz)⟩⟩
theorem flat_wN {l : List Nd} : ∀ (d : List (Nat × List Nat)), (∀ q ∈ d, q.2.length ≤ 2 ^ (l.length - q.1 - 1)) → (d.flatMap (·.2)).length ≤ wN l (d.map (·.1))
 | [], _ => by simp [wN]
 | q :: d, h => by
  have h1 := flat_wN d fun z hz => h z (List.mem_cons_of_mem _ hz)
  have h2 := h q (List.mem_cons_self ..)
  rw [List.flatMap_cons, List.length_append, List.map_cons, wN_cons]
  omega
section
variable {S S' : St} {hi kp : Nat} {l : List Nd} {P db dc dm dp lo : Nat} {bs : List Value} {cl : List Rc} {x : Value} {outs : List It}
set_option maxHeartbeats 8000000 in
theorem context52 (hok : ∀ x ∈ l, x.Ok) (htr : Tr (par l) l.length) (hl24 : l.length ≤ 24) {n : Nat} (hn : n < l.length) (ih : ∀ m, n < m → m < l.length → CtxOk hi kp l P db dc dm dp lo bs cl m) : CtxOk hi kp l P db dc dm dp lo bs cl n := by
 intro S x outs hlo hb h
 refine run_of hmix Tryz.func52 cF52 rfl fun hL Q hQ => ?_
 have r4 := rd_of_blk h.row 4
 simp only [ptV] at r4
 have hn0 : (0 : Int) ≤ n := by omega
 have hnl : (n : Int) < l.length := by omega
 obtain ⟨vs, v1, v2, v3⟩ := h.st.prt
 obtain ⟨v, v4, v5, v6⟩ := v3 n hn
 obtain ⟨ps, hps⟩ : ∃ ps, ps = prt l l.length n := ⟨_, rfl⟩
 rw [← hps] at v5
 have hpsm : ∀ m ∈ ps, n < m ∧ m < l.length := fun m hm => prt_gt htr (Nat.le_refl _) (hps ▸ hm)
 have hwn := wN_parts htr n
 rw [← hps] at hwn
 have hps24 : ps.length ≤ 24 := by
  rw [hps]
  unfold prt
  have := List.length_filter_le (fun m => leadsL l m && decide (0 < m) && ctxL l m == n) (List.range l.length)
  rw [List.length_range] at this
  omega
 have rv : rd S dp n = some v := by rw [rd_of_blk v1]; exact v4
 obtain ⟨va, ve, rfl⟩ := v5.slice
 obtain ⟨q, hq⟩ : ∃ q, q = S.next := ⟨_, rfl⟩
 obtain ⟨S1, hS1⟩ : ∃ S1, S1 = S.new ⟨false, [.slice none 0 0]⟩ := ⟨_, rfl⟩
 have k1 : KeepsAll S S1 := by rw [hS1]; exact Keeps.of_new _ _ _
 have hL1 : Live S1 := by rw [hS1]; exact hL.new _
 have b1 : S1.blk q = some ⟨false, [.slice none 0 0]⟩ := by rw [hS1, hq, St.blk_new, if_pos rfl]
 have lP := h.st.h1
 have lPS := hL _ _ h.row
 have ldp := hL _ _ v1
 have qP : (P = S.next) = False := eq_false (by omega)
 have qd : (dp = S.next) = False := eq_false (by omega)
 simp only [go_sem, seval, aF52, qP, qd, r4, hn0, hnl, Int.toNat_natCast, Nat.zero_add, Nat.mul_one, rv]
 rw [← hS1, ← hq]
 refine lK_of (fun t' S' => ∃ (j : Nat) (ax : Value) (es : List En), j ≤ ps.length ∧ Live S' ∧ KeepsAll S S' ∧ AgO S' q 0 [ax] ax es ∧ es.Perm ((ps.take j).map (enP l)) ∧ (∀ i, Value.blkOf ax = some i → S.next ≤ i) ∧
  Slots t' [(0, ptr P), (1, .int .i64 n), (4, ptr q), (17, .slice va ps.length ve), (18, .int .i64 ps.length), (19, .int .i64 j)]) (fun t' _ => ps.length - (RowKit.intOf (t' 19)).toNat) ?_ ?_
 ·refine ⟨0, _, [], by omega, hL1, k1, ⟨b1, rfl, .inl ⟨rfl, rfl, rfl⟩, Heap.nil, by simp [Value.blkOf]⟩, .refl _, by simp [Value.blkOf], ?_⟩
  simp only [go_sem, seval, Int.natCast_add, Int.natCast_succ]
 rintro t1 S2 Q1 ⟨j, ax, es, hj, hL2, k2, hA2, hp2, ha2, hs⟩ _ hN hE
 simp only [slots_cons, slots_nil] at hs
 by_cases hjn : j = ps.length
 case neg =>
  have hjl : (j : Int) < ps.length := by omega
  have hj0 : (0 : Int) ≤ j := by omega
  have hj' : j < ps.length := by omega
  have hw1 : IntKind.i64.wrap ((j : Int) + 1) = ((j + 1 : Nat) : Int) := by rw [wrap64_id (by omega) (by omega)]; omega
  have vk : Sl S2 1 (.slice va ps.length ve) ps.length (nV ps) := v5.keeps hL k2 fun _ _ => trivial
  obtain ⟨d, o, e', he, _, hc⟩ := vk.ne (by omega)
  cases he
  rw [Nat.mul_one] at hc
  have hx : rd S2 d (o + j) = some (.int .i64 (ps[j] : Nat)) := by rw [rd_of_cells hc hj']; exact nV_at hj'
  have hmj := hpsm ps[j] (List.getElem_mem hj')
  have h2 := h.keeps hL hlo k2
  have r0 := rd_of_blk h2.row 0
  simp only [ptV] at r0
  simp only [go_sem, seval, hs, hjl, hj0, Int.toNat_natCast, Nat.mul_one, hx, r0]
  refine cK_of (style55 h2.st.kin hok hmj.2) ?_
  rintro v Sx _ hLx ⟨rfl, hSx⟩
  obtain rfl := hSx.symm
  rw [nS_get hmj.2]
  have hz := (nS_ok hok hmj.2).c.z
  have hlen : es.length ≤ 900000 := by rw [hp2.length_eq, List.length_map, List.length_take]; omega
  have hadd := add45 (enP l ps[j]) hA2 hlen
  simp only [enP, zL, En.cells] at hadd
  simp only [go_sem, seval, hs, hz]
  refine cK_of hadd ?_
  rintro v S3 _ hL3 ⟨ax', es', hA3, hp3, k3, hb3⟩
  have hA3' : AgO S3 q 0 [ax'] ax' es' := hA3
  simp only [go_sem, seval, hs, hw1]
  refine hN _ _ ⟨j + 1, ax', es', by omega, hL3, k2.trans k3 (fun i hi _ => ⟨by omega, fun e => by have := ha2 i e; omega⟩), hA3', ?_, fun i hi => ?_, ?_⟩ ?_
  ·rw [List.take_succ_eq_append_getElem hj', List.map_append]
   exact hp3.trans ((hp2.cons _).trans (List.perm_append_singleton _ _).symm)
  ·rcases hb3 i hi with hh | hh
   ·exact ha2 i hh
   ·have := k2.1; omega
  ·simp only [go_sem, seval, Int.natCast_add, Int.natCast_succ, hs]
  ·simp only [go_sem, seval, hs]
   simp [RowKit.intOf]
   omega
 subst hjn
 rw [List.take_length] at hp2
 have ltx : ∀ i, Value.blkOf x = some i → i < S.next := fun i hi => h.own.sl.lt hL hi
 have C2 : Ctx S S2 hi kp l P db dc dm dp lo bs cl x x outs q ax es := ⟨hL2, h.keeps hL hlo k2, hA2.ag, k2.all, fun i hi => .inl hi, by omega, ha2, fun e => by have := ltx q e; omega, fun i hi e => by have := ltx i e; have := ha2 i hi; omega⟩
 have G2 : Prog l n [] es := by
  refine ⟨fun e he => ?_, ?_, by simp, fun q hq => by simp at hq, fun q hq => by simp at hq⟩
  ·obtain ⟨m, _, rfl⟩ := List.mem_map.1 (hp2.mem_iff.1 he)
   exact ⟨m, rfl⟩
  ·rw [← hps]
   refine (hp2.map _).trans ?_
   rw [List.map_map]
   have : ((fun e : En => e.t.toNat) ∘ enP l) = id := by funext m; simp [enP]
   rw [this, List.map_id]
 simp only [go_sem, seval, hs, Int.lt_irrefl]
 refine hE _ _ _ (by simp) ?_
 simp only [go_sem, seval, hs]
 have hes24 : es.length ≤ 24 := by rw [hp2.length_eq, List.length_map]; exact hps24
 have bd : ∀ (d : List (Nat × List Nat)) (m : Nat) (r : List En), Prog l n d (enP l m :: r) → (∀ q ∈ d, q.2.length ≤ 2 ^ (l.length - q.1 - 1)) → (d.flatMap (·.2)).length ≤ wN l (d.map (·.1)) ∧ wN l (d.map (·.1)) + 2 ^ (l.length - m - 1) ≤ wN l ps ∧ n < m ∧ m < l.length := fun d m r hpr hq => by
  refine ⟨flat_wN d hq, ?_, hpsm m (hps ▸ hpr.mem (List.mem_cons_self ..))⟩
  rw [hps, ← wN_perm hpr.perm, wN_app, List.map_cons, wN_cons]
  simp only [enP, Int.toNat_natCast]
  omega
 refine cK_of (own88 hok hn (Nat.le_trans hlo k2.1) (by omega) C2.pt) ?_
 rintro v S3 _ hL3 hp3
 obtain ⟨x3, C3, k3, n3⟩ := C2.paint hlo hL3 hp3
 simp only [go_sem, seval, hs]
 refine cK_of (peekA C3.ag) ?_
 rintro v S4 _ hL4 ⟨e0, b0, rfl, hS4, hf0, ht0⟩
 obtain rfl := hS4.symm
 obtain ⟨ek, et, en⟩ := e0
 simp only [go_sem, seval, hs, En.cells]
 obtain ⟨X, hX⟩ : ∃ X, X = S3.next := ⟨_, rfl⟩
 obtain ⟨S4, hS4'⟩ : ∃ S4, S4 = (S3.new ⟨false, [.int .i64 0, .int .i64 0, .int .i64 0]⟩).set X ⟨false, [.int .i64 ek, .int .i64 et, .int .i64 en]⟩ := ⟨_, rfl⟩
 have k4 : Keeps S3 S4 (· ≠ X) := by rw [hS4']; exact (Keeps.of_new _ _ _).set (fun i _ h => h) _
 have hLS4 : Live S4 := by rw [hS4']; exact (hL3.new _).set _ _ (by rw [St.next_new]; omega)
 have bX4 : S4.blk X = some ⟨false, En.cells ⟨ek, et, en⟩⟩ := by rw [hS4']; exact blk_set_self _ _ _
 have frX : ∀ {S9 : St} {x9 : Value} {outs9 : List It} {ax9 : Value} {es9 : List En}, Ctx S S9 hi kp l P db dc dm dp lo bs cl x x9 outs9 q ax9 es9 → S.next ≤ S9.next ∧ S9.next ≠ q ∧ Value.blkOf ax9 ≠ some S9.next ∧ Value.blkOf x9 ≠ some S9.next := fun {S9 x9 outs9 ax9 es9} C => ⟨C.kp_.1, fun e => by have := C.live _ _ C.ag.row; omega, fun e => by have := C.ag.lt C.live _ e; omega, fun e => by have := C.pt.own.sl.lt C.live e; omega⟩
 have fX := frX C3
 rw [← hX] at fX
 have C4 := C3.keeps hlo hLS4 fX k4
 rw [← hX, ← hS4']
 refine lK_of (fun t' S' => ∃ (x' : Value) (outs' : List It) (ax : Value) (es : List En) (d : List (Nat × List Nat)) (X : Nat) (e : En) (b : Bool), Ctx S S' hi kp l P db dc dm dp lo bs cl x x' outs' q ax es ∧ Prog l n d es ∧ (∀ z ∈ d, zL l z.1 < 0) ∧ (∀ z ∈ d, z.2.length ≤ 2 ^ (l.length - z.1 - 1)) ∧
   outs' = outs ++ itsOf l bs cl (n :: d.flatMap (·.2)) ∧ S'.blk X = some ⟨false, e.cells⟩ ∧ (S.next ≤ X ∧ X ≠ q ∧ Value.blkOf ax ≠ some X ∧ Value.blkOf x' ≠ some X) ∧ es.length ≤ 24 ∧ (b = false → es = []) ∧ (b = true → ∃ r, es = e :: r) ∧
   Slots t' [(0, ptr P), (1, .int .i64 n), (4, ptr q), (7, ptr X), (8, .bool b)]) (fun _ S' => agN S' q) ?_ ?_
 ·refine ⟨x3, _, ax, es, [], X, ⟨ek, et, en⟩, b0, C4, G2, by simp, by simp, by simp [itsOf], bX4, fX, hes24, hf0, ht0, ?_⟩
  simp only [go_sem, seval, Int.natCast_add, Int.natCast_succ, hs]
 clear hs hS4' bX4 C4 k4 fX C3 C2 hp3 G2 hf0 ht0
 rintro t5 S5 Q5 ⟨x5, outs5, ax5, es5, d5, X5, e5, b5, C5, G5, neg5, len5, ho5, bX5, fX5, el5, hf5, ht5, hs5⟩ _ hN5 hE5
 simp only [slots_cons, slots_nil] at hs5
 obtain ⟨k5, u5, n5⟩ := e5
 have bX5' : S5.blk X5 = some ⟨false, [.int .i64 k5, .int .i64 u5, .int .i64 n5]⟩ := bX5
 have rX := rd_of_blk bX5' 0
 have rX1 := rd_of_blk bX5' 1
 simp only [go_sem, seval, hs5]
 refine gK_cut (fun t' S' => S' = S5 ∧ t' 46 = .bool (b5 && decide (k5 < 0)) ∧ Slots t' [(0, ptr P), (1, .int .i64 n), (4, ptr q), (7, ptr X5)]) ?_ ?_
 ·cases b5
  ·simp only [go_sem, seval, hs5]
  ·simp only [go_sem, seval, hs5, rX]
 rintro t6 S6 ⟨rfl, h46, hs6⟩
 simp only [slots_cons, slots_nil] at hs6
 have hwl : n < l.length → (n :: d5.flatMap (·.2)).length ≤ 1 + wN l (d5.map (·.1)) := fun _ => by have := flat_wN d5 len5; rw [List.length_cons]; omega
 have hlo5 : lo ≤ S6.next := Nat.le_trans hlo C5.kp_.1
 have hol : outs5.length ≤ outs.length + 2 * (1 + wN l (d5.map (·.1))) := by
  have h1 := itsOf_len l bs cl (n :: d5.flatMap (·.2))
  have h2 := hwl hn
  rw [ho5, List.length_append]
  omega
 cases hc : (b5 && decide (k5 < 0))
 case' true =>
  obtain ⟨rfl, hneg⟩ : b5 = true ∧ k5 < 0 := by simpa using hc
  obtain ⟨r5, hr5⟩ := ht5 rfl
  subst hr5
  obtain ⟨m, hm⟩ := G5.en _ (List.mem_cons_self ..)
  rw [hm] at G5
  obtain ⟨_, w2, w3, w4⟩ := bd d5 m r5 G5 len5
  have hkm : k5 = zL l m := congrArg En.k hm
  have hum : u5 = (m : Int) := congrArg En.t hm
  rw [hc] at h46
  simp only [go_sem, seval, hs6, h46]
  refine cK_of (nextA C5.ag (by omega)) ?_
  rintro v S7 _ hL7 ⟨e7, b7, ax7, es7, rfl, A7, k7, n7, hf7, ht7⟩
  have hb7 : b7 = true := by
   cases b7 with
   | true => rfl
   | false => have := (hf7 rfl).1; cases this
  obtain ⟨r7, hr7, hp7, hl7⟩ := ht7 hb7
  simp only [List.cons.injEq] at hr7
  obtain ⟨he7, hrr⟩ := hr7
  subst hrr
  have C7 := C5.other hlo hL7 k7 A7 n7
  have bX7 : S7.blk X5 = some ⟨false, [.int .i64 k5, .int .i64 u5, .int .i64 n5]⟩ := (k7.2 _ (C5.live _ _ bX5) ⟨fX5.2.1, fX5.2.2.1⟩).trans bX5'
  have rX7 := rd_of_blk bX7 1
  simp only [go_sem, seval, hs6, rX7]
  rw [hum]
  refine cK_of (part90 hok htr w4 (ih m w3 w4) (Nat.le_trans hlo C7.kp_.1) (by omega) C7.pt) ?_
  rintro v S8 _ hL8 ⟨ns, hns1, hns2, hp8⟩
  obtain ⟨x8, C8, k8, n8⟩ := C7.paint hlo hL8 hp8
  have hXP : X5 ≠ P := by have := C5.live _ _ bX5; omega
  have bX8 : S8.blk X5 = some ⟨false, [.int .i64 k5, .int .i64 u5, .int .i64 n5]⟩ := (k8.2 _ (C7.live _ _ bX7) ⟨hXP, fX5.2.2.2⟩).trans bX7
  have cX8 := cellsOf_of_blk bX8 0 3
  simp only [go_sem, seval, hs6, cX8]
  have fY := frX C8
  obtain ⟨Y, hY⟩ : ∃ Y, Y = S8.next := ⟨_, rfl⟩
  rw [← hY] at fY
  obtain ⟨S9, hS9⟩ : ∃ S9, S9 = (S8.new ⟨false, [.int .i64 0, .int .i64 0, .int .i64 0]⟩).set Y ⟨false, [.int .i64 k5, .int .i64 u5, .int .i64 n5]⟩ := ⟨_, rfl⟩
  have k9 : Keeps S8 S9 (· ≠ Y) := by rw [hS9]; exact (Keeps.of_new _ _ _).set (fun i _ h => h) _
  have hL9 : Live S9 := by rw [hS9]; exact (hL8.new _).set _ _ (by rw [St.next_new]; omega)
  have bY9 : S9.blk Y = some ⟨false, [.int .i64 k5, .int .i64 u5, .int .i64 n5]⟩ := by rw [hS9]; exact blk_set_self _ _ _
  have C9 := C8.keeps hlo hL9 fY k9
  rw [← hY, ← hS9]
  refine cK_of (peekA C9.ag) ?_
  rintro v S10 _ hL10 ⟨e10, b10, rfl, hS10, hf10, ht10⟩
  obtain rfl := hS10.symm
  obtain ⟨k10, u10, n10⟩ := e10
  simp only [go_sem, seval, hs6, En.cells, bY9]
  obtain ⟨S10, hS10'⟩ : ∃ S10, S10 = S9.set Y ⟨false, [.int .i64 k10, .int .i64 u10, .int .i64 n10]⟩ := ⟨_, rfl⟩
  have kk10 : Keeps S9 S10 (· ≠ Y) := by rw [hS10']; exact (Keeps.refl _ _).set (fun i _ h => h) _
  have hLS10 : Live S10 := by rw [hS10']; exact hL9.set _ _ (hL9 _ _ bY9)
  have bY10 : S10.blk Y = some ⟨false, En.cells ⟨k10, u10, n10⟩⟩ := by rw [hS10']; exact blk_set_self _ _ _
  have C10 := C9.keeps hlo hLS10 fY kk10
  rw [← hS10']
  have l5 := agN_eq C5.ag
  have l10 := agN_eq C10.ag
  have hl77 := hp7.length_eq
  refine hN5 _ _ ⟨x8, _, ax7, es7, d5 ++ [(m, ns)], Y, ⟨k10, u10, n10⟩, b10, C10, G5.step (by rw [← hm, he7]; exact hl7) hp7 rfl hns1, fun z hz => ?_, fun z hz => ?_, ?_, bY10, fY, by simp at el5; omega, hf10, ht10, ?_⟩ ?_
  ·rcases List.mem_append.1 hz with hz | hz
   ·exact neg5 z hz
   ·simp only [List.mem_singleton] at hz; subst hz; show zL l m < 0; omega
  ·rcases List.mem_append.1 hz with hz | hz
   ·exact len5 z hz
   ·simp only [List.mem_singleton] at hz; subst hz; exact hns2
  ·rw [ho5, List.append_assoc]
   congr 1
   rw [← List.flatMap_append]
   simp
  ·simp only [go_sem, seval, Int.natCast_add, Int.natCast_succ, hs6]
  ·rw [l5, l10]
   simp
   omega
 have hpos : ∀ m, enP l m ∈ es5 → 0 ≤ zL l m := fun m hm => by
  cases hb5 : b5 with
  | false => rw [hf5 hb5] at hm; cases hm
  | true =>
   obtain ⟨r5, hr5⟩ := ht5 hb5
   subst hr5
   rw [hb5, Bool.true_and] at hc
   have h1 := C5.ag.heap.head _ hm
   have h2 : ¬ k5 < 0 := by simpa using hc
   unfold ltE enP at h1
   simp only at h1
   omega
 rw [hc] at h46
 simp only [go_sem, seval, hs6, h46]
 refine hE5 _ _ _ (by simp) ?_
 simp only [go_sem, seval, hs6]
 have hwle : wN l (d5.map (·.1)) ≤ wN l ps := by
  rw [hps, ← wN_perm G5.perm, wN_app]
  omega
 refine cK_of (group91 hok hn hlo5 (by omega) C5.pt) ?_
 rintro v S7 _ hL7 hp7
 obtain ⟨x7, C7, k7, n7⟩ := C5.paint hlo hL7 hp7
 simp only [go_sem, seval, hs6]
 refine cK_of (nextA C7.ag (by omega)) ?_
 rintro v S8 _ hL8 ⟨e8, b8, ax8, es8, rfl, A8, k8, n8, hf8, ht8⟩
 have C8 := C7.other hlo hL8 k8 A8 n8
 obtain ⟨ke, ue, ne_⟩ := e8
 simp only [go_sem, seval, hs6, En.cells]
 have fY := frX C8
 obtain ⟨Y, hY⟩ : ∃ Y, Y = S8.next := ⟨_, rfl⟩
 rw [← hY] at fY
 obtain ⟨S9, hS9⟩ : ∃ S9, S9 = (S8.new ⟨false, [.int .i64 0, .int .i64 0, .int .i64 0]⟩).set Y ⟨false, [.int .i64 ke, .int .i64 ue, .int .i64 ne_]⟩ := ⟨_, rfl⟩
 have k9 : Keeps S8 S9 (· ≠ Y) := by rw [hS9]; exact (Keeps.of_new _ _ _).set (fun i _ h => h) _
 have hL9 : Live S9 := by rw [hS9]; exact (hL8.new _).set _ _ (by rw [St.next_new]; omega)
 have bY9 : S9.blk Y = some ⟨false, En.cells ⟨ke, ue, ne_⟩⟩ := by rw [hS9]; exact blk_set_self _ _ _
 have C9 := C8.keeps hlo hL9 fY k9
 rw [← hY, ← hS9]
 clear hS9
 refine lK_of (fun t' S' => ∃ (x' : Value) (outs' : List It) (ax : Value) (es : List En) (d : List (Nat × List Nat)) (X : Nat) (e : En) (b : Bool), Ctx S S' hi kp l P db dc dm dp lo bs cl x x' outs' q ax es ∧
   (b = true → Prog l n (d5 ++ d) (e :: es) ∧ ∀ z ∈ es, ¬ ltE z e) ∧ (b = false → es = [] ∧ Prog l n (d5 ++ d) []) ∧ (∀ z ∈ d, 0 ≤ zL l z.1) ∧ (∀ m, enP l m ∈ e :: es → b = true → 0 ≤ zL l m) ∧ (∀ z ∈ d, z.2.length ≤ 2 ^ (l.length - z.1 - 1)) ∧
   outs' = outs ++ itsOf l bs cl (n :: d5.flatMap (·.2) ++ memb l l.length n ++ d.flatMap (·.2)) ∧ S'.blk X = some ⟨false, e.cells⟩ ∧ (S.next ≤ X ∧ X ≠ q ∧ Value.blkOf ax ≠ some X ∧ Value.blkOf x' ≠ some X) ∧ es.length ≤ 24 ∧
   Slots t' [(0, ptr P), (1, .int .i64 n), (4, ptr q), (9, ptr X), (10, .bool b)]) (fun t' S' => agN S' q + b01 (t' 10)) ?_ ?_
 ·have e0 : es8.length ≤ es5.length := by
   cases b8 with
   | false => rw [(hf8 rfl).2]; simp
   | true => obtain ⟨r, h1, h2, _⟩ := ht8 rfl; rw [h1, h2.length_eq]; simp
  refine ⟨x7, _, ax8, es8, [], Y, ⟨ke, ue, ne_⟩, b8, C9, fun hb8 => ?_, fun hb8 => ?_, by simp, fun m hm hb8 => ?_, by simp, ?_, bY9, fY, by omega, ?_⟩
  ·obtain ⟨r, h1, h2, h3⟩ := ht8 hb8
   rw [List.append_nil]
   exact ⟨G5.re (by rw [h1]; exact h2.cons _), fun z hz => h3 z (h2.mem_iff.1 hz)⟩
  ·obtain ⟨h1, h2⟩ := hf8 hb8
   rw [List.append_nil]
   exact ⟨h2, by rw [← h1]; exact G5⟩
  ·obtain ⟨r, h1, h2, _⟩ := ht8 hb8
   exact hpos m (by rw [h1]; exact (h2.cons _).mem_iff.1 hm)
  ·rw [ho5, List.append_assoc]
   congr 1
   rw [← List.flatMap_append]
   simp
  ·simp only [go_sem, seval, Int.natCast_add, Int.natCast_succ, hs6]
 clear hs6 hs5 bY9 C9 C8 C7 fY hp7 hf8 ht8 k9 k8 n8 A8 rX rX1 h46
 rintro t9 S9 Q9 ⟨x9, outs9, ax9, es9, d9, X9, e9, b9, C9, ht9, hf9, pos9, pz9, len9, ho9, bX9, fX9, el9, hs9⟩ _ hN9 hE9
 simp only [slots_cons, slots_nil] at hs9
 have hol9 : outs9.length ≤ outs.length + 2 * (1 + wN l (d5.map (·.1)) + (memb l l.length n).length + wN l (d9.map (·.1))) := by
  have h1 := itsOf_len l bs cl (n :: d5.flatMap (·.2) ++ memb l l.length n ++ d9.flatMap (·.2))
  have h2 := flat_wN d9 len9
  have h3 := flat_wN d5 len5
  rw [ho9, List.length_append]
  simp only [List.length_append, List.length_cons] at h1 h2 h3 ⊢
  omega
 cases b9
 case' false =>
  obtain ⟨hes9, G9⟩ := hf9 rfl
  simp only [go_sem, seval, hs9]
  refine hE9 _ _ _ (by simp) ?_
  simp only [go_sem, seval, hs9]
  refine hQ _ _ _ ?_
  rw [k_body_normal]
  simp only [go_sem, seval, aF52]
  rw [retQ_some]
  have hw9 := wN_perm (l := l) G9.perm
  rw [← hps, List.map_nil, List.append_nil, List.map_append, wN_app] at hw9
  refine ⟨_, G9.full neg5 pos9, ?_, x9, by rw [← ho9]; exact C9.pt, C9.kp_, C9.nw⟩
  have h2 := flat_wN d9 len9
  have h3 := flat_wN d5 len5
  simp only [List.length_append, List.length_cons] at h2 h3 ⊢
  omega
 obtain ⟨G9, hl9⟩ := ht9 rfl
 obtain ⟨m, hm⟩ := G9.en _ (List.mem_cons_self ..)
 have hz9 := pz9 m (by rw [← hm]; exact List.mem_cons_self ..) rfl
 rw [hm] at G9
 obtain ⟨ke9, ue9, ne9⟩ := e9
 have hum : ue9 = (m : Int) := congrArg En.t hm
 have hw9 := wN_perm (l := l) G9.perm
 rw [← hps, wN_app, List.map_append, wN_app, List.map_cons, wN_cons] at hw9
 have hmt : (enP l m).t.toNat = m := by simp [enP]
 rw [hmt] at hw9
 obtain ⟨w3, w4⟩ := hpsm m (hps ▸ G9.mem (List.mem_cons_self ..))
 have bX9' : S9.blk X9 = some ⟨false, [.int .i64 ke9, .int .i64 ue9, .int .i64 ne9]⟩ := bX9
 have rX9 := rd_of_blk bX9' 1
 have l9 := agN_eq C9.ag
 simp only [go_sem, seval, hs9, rX9]
 rw [hum]
 refine cK_of (part90 hok htr w4 (ih m w3 w4) (Nat.le_trans hlo C9.kp_.1) (by omega) C9.pt) ?_
 rintro v S10 _ hL10 ⟨ns, hns1, hns2, hp10⟩
 obtain ⟨x10, C10, k10, n10⟩ := C9.paint hlo hL10 hp10
 have hXP : X9 ≠ P := by have := C9.live _ _ bX9; omega
 have bX10 : S10.blk X9 = some ⟨false, [.int .i64 ke9, .int .i64 ue9, .int .i64 ne9]⟩ := (k10.2 _ (C9.live _ _ bX9) ⟨hXP, fX9.2.2.2⟩).trans bX9'
 have cX10 := cellsOf_of_blk bX10 0 3
 simp only [go_sem, seval, hs9, cX10]
 have fY := frX C10
 obtain ⟨Y2, hY2⟩ : ∃ Y, Y = S10.next := ⟨_, rfl⟩
 rw [← hY2] at fY
 obtain ⟨S11, hS11⟩ : ∃ S11, S11 = (S10.new ⟨false, [.int .i64 0, .int .i64 0, .int .i64 0]⟩).set Y2 ⟨false, [.int .i64 ke9, .int .i64 ue9, .int .i64 ne9]⟩ := ⟨_, rfl⟩
 have k11 : Keeps S10 S11 (· ≠ Y2) := by rw [hS11]; exact (Keeps.of_new _ _ _).set (fun i _ h => h) _
 have hL11 : Live S11 := by rw [hS11]; exact (hL10.new _).set _ _ (by rw [St.next_new]; omega)
 have bY11 : S11.blk Y2 = some ⟨false, [.int .i64 ke9, .int .i64 ue9, .int .i64 ne9]⟩ := by rw [hS11]; exact blk_set_self _ _ _
 have C11 := C10.keeps hlo hL11 fY k11
 rw [← hY2, ← hS11]
 refine cK_of (nextA C11.ag (by omega)) ?_
 rintro v S12 _ hL12 ⟨e12, b12, ax12, es12, rfl, A12, k12, n12, hf12, ht12⟩
 have C12 := C11.other hlo hL12 k12 A12 n12
 have bY12 : S12.blk Y2 = some ⟨false, [.int .i64 ke9, .int .i64 ue9, .int .i64 ne9]⟩ := (k12.2 _ (hL11 _ _ bY11) ⟨fY.2.1, fY.2.2.1⟩).trans bY11
 obtain ⟨k13, u13, n13⟩ := e12
 simp only [go_sem, seval, hs9, En.cells, bY12]
 obtain ⟨S13, hS13⟩ : ∃ S13, S13 = S12.set Y2 ⟨false, [.int .i64 k13, .int .i64 u13, .int .i64 n13]⟩ := ⟨_, rfl⟩
 have kk13 : Keeps S12 S13 (· ≠ Y2) := by rw [hS13]; exact (Keeps.refl _ _).set (fun i _ h => h) _
 have hL13 : Live S13 := by rw [hS13]; exact hL12.set _ _ (hL12 _ _ bY12)
 have bY13 : S13.blk Y2 = some ⟨false, En.cells ⟨k13, u13, n13⟩⟩ := by rw [hS13]; exact blk_set_self _ _ _
 have fY12 : S.next ≤ Y2 ∧ Y2 ≠ q ∧ Value.blkOf ax12 ≠ some Y2 ∧ Value.blkOf x10 ≠ some Y2 := ⟨fY.1, fY.2.1, fun e => by
  rcases n12 _ e with h1 | h1
  ·exact fY.2.2.1 h1
  ·have := hL11 _ _ bY11; omega, fY.2.2.2⟩
 have C13 := C12.keeps hlo hL13 fY12 kk13
 rw [← hS13]
 have l13 := agN_eq C13.ag
 have G13 := fun (es' : List En) (hp : es'.Perm es9) => G9.step (by rw [← hm]; exact hl9) hp rfl hns1
 refine hN9 _ _ ⟨x10, _, ax12, es12, d9 ++ [(m, ns)], Y2, ⟨k13, u13, n13⟩, b12, C13, fun hb => ?_, fun hb => ?_, fun z hz => ?_, fun m' hm' hb => ?_, fun z hz => ?_, ?_, bY13, fY12, ?_, ?_⟩ ?_
 ·obtain ⟨r, h1, h2, h3⟩ := ht12 hb
  rw [← List.append_assoc]
  exact ⟨G13 _ (by rw [h1]; exact h2.cons _), fun z hz => h3 z (h2.mem_iff.1 hz)⟩
 ·obtain ⟨h1, h2⟩ := hf12 hb
  rw [← List.append_assoc]
  exact ⟨h2, G13 [] (by rw [h1])⟩
 ·rcases List.mem_append.1 hz with hz | hz
  ·exact pos9 z hz
  ·simp only [List.mem_singleton] at hz; subst hz; exact hz9
 ·obtain ⟨r, h1, h2, h3⟩ := ht12 hb
  exact pz9 m' (List.mem_cons_of_mem _ (by rw [h1]; exact (h2.cons _).mem_iff.1 hm')) rfl
 ·rcases List.mem_append.1 hz with hz | hz
  ·exact len9 z hz
  ·simp only [List.mem_singleton] at hz; subst hz; exact hns2
 ·rw [ho9, List.append_assoc]
  congr 1
  rw [← List.flatMap_append]
  simp
 ·cases b12 with
  | false => rw [(hf12 rfl).2]; simp
  | true => obtain ⟨r, h1, h2, _⟩ := ht12 rfl; rw [h2.length_eq]; rw [h1] at el9; simp at el9; omega
 ·simp only [go_sem, seval, Int.natCast_add, Int.natCast_succ, hs9]
 ·rw [l9, l13]
  simp only [go_sem, seval, hs9]
  cases b12 with
  | false => rw [(hf12 rfl).2]; simp [b01]
  | true => obtain ⟨r, h1, h2, _⟩ := ht12 rfl; rw [h1, h2.length_eq]; simp [b01]
/-- Every context. -/
theorem context_all (hok : ∀ x ∈ l, x.Ok) (htr : Tr (par l) l.length) (hl24 : l.length ≤ 24) : ∀ (d n : Nat), n < l.length → l.length - n ≤ d → CtxOk hi kp l P db dc dm dp lo bs cl n
 | 0, n, hn, hd => by omega
 | d + 1, n, hn, hd => context52 hok htr hl24 hn fun m h1 h2 => context_all hok htr hl24 d m h2 (by omega)
end
end Go.Proofs.YtegaklgjcicnfaaGreat
namespace Go.Proofs.YtegaklgjcicnfaaGreat
open Go Go.Proofs.YtegaklgjcicnfaaGreat.Abs
section
variable {l : List Nd}
/-- The first that leads, upwards from a place. -/
def grpL' (l : List Nd) (a : Int) : Int := match (chain (par l) a).find? (fun a => leadsL l a.toNat) with | some b => b | none => -1
theorem made_up (htr : Tr (par l) l.length) {m : Nat} (hm : m < l.length) (h : madeL l m = true) {p : Nat} (hp : par l m = p) : madeL l p = true := by
 rw [madeL_eq htr hm, hp] at h
 simp only [Bool.and_eq_true] at h
 have h2 := h.2
 rw [if_neg (by omega)] at h2
 simpa using h2
theorem grp_step (htr : Tr (par l) l.length) {m : Nat} (hm : m < l.length) : grpL l m = if leadsL l m = true then (m : Int) else grpL' l (par l m) := by
 unfold grpL grpL'
 rw [chain_pos htr (by omega) (by omega), List.find?_cons, Int.toNat_natCast]
 cases leadsL l m <;> rfl
theorem grp_at (htr : Tr (par l) l.length) {m p : Nat} (hm : m < l.length) (hl : leadsL l m = false) (hp : par l m = p) : grpL l m = grpL l p := by
 rw [grp_step htr hm, if_neg (by rw [hl]; decide), hp]
 rfl
theorem ctx_step (htr : Tr (par l) l.length) {m p : Nat} (hm : m < l.length) (hp : par l m = p) : ctxL l m = if formsL l p = true then (p : Int) else ctxL l p := by
 have h1 := htr m hm
 unfold ctxL
 rw [hp, chain_pos htr (by omega) (by omega), List.find?_cons, Int.toNat_natCast]
 cases formsL l p <;> rfl
theorem leads0 (h : madeL l 0 = true) : leadsL l 0 = true := by unfold leadsL; rw [h]; rfl
theorem forms0 (h : madeL l 0 = true) : formsL l 0 = true := by unfold formsL; rw [leads0 h]; rfl
theorem made_par (htr : Tr (par l) l.length) (hf : TForm l) {m : Nat} (h0 : 0 < m) (hm : m < l.length) (h : madeL l m = true) : ∃ p : Nat, par l m = p ∧ p < m ∧ madeL l p = true := by
 obtain ⟨p, h1, h2⟩ := par_nat hf h0 hm
 exact ⟨p, h1, h2, made_up htr hm h h1⟩
theorem grp_nat (htr : Tr (par l) l.length) (hf : TForm l) : ∀ (d m : Nat), m ≤ d → m < l.length → madeL l m = true → ∃ g : Nat, grpL l m = g ∧ g ≤ m
 | 0, m, hd, hm, h => by
  obtain rfl : m = 0 := by omega
  exact ⟨0, by rw [grp_step htr hm, if_pos (leads0 h)], Nat.le_refl _⟩
 | d + 1, m, hd, hm, h => by
  by_cases h0 : m = 0
  ·subst h0
   exact ⟨0, by rw [grp_step htr hm, if_pos (leads0 h)], Nat.le_refl _⟩
  ·cases hl : leadsL l m with
   | true => exact ⟨m, by rw [grp_step htr hm, if_pos hl], Nat.le_refl _⟩
   | false =>
    obtain ⟨p, h1, h2, h3⟩ := made_par htr hf (by omega) hm h
    obtain ⟨g, h4, h5⟩ := grp_nat htr hf d p (by omega) (by omega) h3
    exact ⟨g, by rw [grp_at htr hm hl h1, h4], by omega⟩
theorem ctx_nat (htr : Tr (par l) l.length) (hf : TForm l) : ∀ (d m : Nat), m ≤ d → 0 < m → m < l.length → madeL l m = true → ∃ g : Nat, ctxL l m = g ∧ g < m
 | 0, m, hd, h0, hm, h => by omega
 | d + 1, m, hd, h0, hm, h => by
  obtain ⟨p, h1, h2, h3⟩ := made_par htr hf h0 hm h
  cases hl : formsL l p with
  | true => exact ⟨p, by rw [ctx_step htr hm h1, if_pos hl], h2⟩
  | false =>
   have hp0 : 0 < p := by
    rcases Nat.eq_zero_or_pos p with e | e
    ·subst e; rw [forms0 h3] at hl; cases hl
    ·exact e
   obtain ⟨g, h4, h5⟩ := ctx_nat htr hf d p (by omega) hp0 (by omega) h3
   exact ⟨g, by rw [ctx_step htr hm h1, if_neg (by rw [hl]; decide), h4], by omega⟩
theorem memb_succ (j n : Nat) : memb l (j + 1) n = memb l j n ++ if (madeL l j && !leadsL l j && grpL l j == n) = true then [j] else [] := by
 unfold memb
 rw [List.range_succ, List.filter_append]
 congr 1
 by_cases h : (madeL l j && !leadsL l j && grpL l j == n) = true <;> simp [h, List.filter_cons]
theorem prt_succ (j n : Nat) : prt l (j + 1) n = prt l j n ++ if (leadsL l j && decide (0 < j) && ctxL l j == n) = true then [j] else [] := by
 unfold prt
 rw [List.range_succ, List.filter_append]
 congr 1
 by_cases h : (leadsL l j && decide (0 < j) && ctxL l j == n) = true <;> simp [h, List.filter_cons]
theorem memb_le (j n : Nat) : (memb l j n).length ≤ j := by
 unfold memb
 have := List.length_filter_le (fun m => madeL l m && !leadsL l m && grpL l m == n) (List.range j)
 rwa [List.length_range] at this
theorem prt_le (j n : Nat) : (prt l j n).length ≤ j := by
 unfold prt
 have := List.length_filter_le (fun m => leadsL l m && decide (0 < m) && ctxL l m == n) (List.range j)
 rwa [List.length_range] at this
end
theorem nV_app (a : List Nat) (m : Nat) : nV (a ++ [m]) = nV a ++ [.int .i64 (m : Int)] := by simp [nV, iV]
/-- A family of lists of the call's own, each in a block of its own. -/
structure Fam (S : St) (n lo : Nat) (vs : List Value) (f : Nat → List Nat) : Prop where
 len : vs.length = n
 own : ∀ (k : Nat) v, vs[k]? = some v → Own S 1 v (f k).length (nV (f k)) ∧ ∀ i, Value.blkOf v = some i → lo ≤ i
 dis : ∀ (a b : Nat) v w, a ≠ b → vs[a]? = some v → vs[b]? = some w → Dis v w
section
variable {S S' : St} {n lo : Nat} {vs ws : List Value} {f f' : Nat → List Nat}
theorem Fam.keep (h : Fam S n lo vs f) (hk : ∀ i, lo ≤ i → S'.blk i = S.blk i) : Fam S' n lo vs f :=
 ⟨h.len, fun k v hv => ⟨(h.own k v hv).1.keep fun d hd => hk d ((h.own k v hv).2 d hd), (h.own k v hv).2⟩, h.dis⟩
theorem Fam.keeps (h : Fam S n lo vs f) (hL : Live S) {P : Nat → Prop} (hk : Keeps S S' P) (hP : ∀ i, lo ≤ i → P i) : Fam S' n lo vs f :=
 ⟨h.len, fun k v hv => ⟨(h.own k v hv).1.keeps hL hk fun d hd => hP d ((h.own k v hv).2 d hd), (h.own k v hv).2⟩, h.dis⟩
theorem Fam.app (h : Fam S n lo vs f) (hL : Live S) (hlo : lo ≤ S.next) {k m : Nat} {v v' : Value} (hv : vs[k]? = some v) (hA : AppR S S' 1 v v' ((f k).length + 1) (nV (f k) ++ [.int .i64 (m : Int)])) (hf : ∀ a, f' a = if a = k then f k ++ [m] else f a) : Fam S' n lo (vs.set k v') f' := by
 have hkl : k < vs.length := (List.getElem?_eq_some_iff.1 hv).1
 have hlt : ∀ (a : Nat) w, vs[a]? = some w → ∀ i, Value.blkOf w = some i → i < S.next := fun a w hw i hi => (h.own a w hw).1.sl.lt hL hi
 refine ⟨by rw [List.length_set]; exact h.len, fun a w hw => ?_, fun a b w u hab hw hu => ?_⟩
 ·rw [List.getElem?_set] at hw
  split at hw
  ·rename_i e
   subst e
   cases hw
   rw [hf k, if_pos rfl, nV_app, List.length_append]
   refine ⟨hA.own, fun i hi => ?_⟩
   rcases hA.new i hi with h1 | h1
   ·exact (h.own k v hv).2 i h1
   ·omega
  ·rename_i e
   rw [hf a, if_neg (fun e' => e e'.symm)]
   exact ⟨hA.other hL (h.own a w hw).1 (h.dis k a v w e hv hw), (h.own a w hw).2⟩
 ·rw [List.getElem?_set] at hw hu
  split at hw
  ·rename_i e
   subst e
   cases hw
   rw [if_neg hab] at hu
   exact hA.dis (hlt b u hu) (h.dis k b v u hab hv hu)
  ·rename_i e
   split at hu
   ·rename_i e2
    subst e2
    cases hu
    exact (hA.dis (hlt a w hw) (h.dis k a v w e hv hw)).symm
   ·exact h.dis a b w u hab hw hu
/-- The other family. -/
theorem Fam.other (h : Fam S n lo ws f) (hL : Live S) {k : Nat} {v v' : Value} {c : List Value} (hA : AppR S S' 1 v v' k c) (hd : ∀ (b : Nat) w, ws[b]? = some w → Dis v w) : Fam S' n lo ws f :=
 ⟨h.len, fun a w hw => ⟨hA.other hL (h.own a w hw).1 (hd a w hw), (h.own a w hw).2⟩, h.dis⟩
def ApartL (vs ws : List Value) : Prop := ∀ (a b : Nat) v w, vs[a]? = some v → ws[b]? = some w → Dis v w
theorem ApartL.symm (h : ApartL vs ws) : ApartL ws vs := fun a b v w hv hw => (h b a w v hw hv).symm
theorem ApartL.app (h : ApartL vs ws) (hL : Live S) (hw : Fam S n lo ws f) {k m : Nat} {v v' : Value} {c : List Value} (hv : vs[k]? = some v) (hA : AppR S S' 1 v v' m c) : ApartL (vs.set k v') ws := fun a b u w hu hww => by
 rw [List.getElem?_set] at hu
 split at hu
 ·rename_i e
  subst e
  split at hu
  ·cases hu
   exact hA.dis (fun i hi => (hw.own b w hww).1.sl.lt hL hi) (h k b v w hv hww)
  ·cases hu
 ·exact h a b u w hu hww
theorem Fam.nil (S : St) (n lo : Nat) : Fam S n lo (List.replicate n (.slice none 0 0)) fun _ => [] := by
 have key : ∀ (k : Nat) v, (List.replicate n (Value.slice none 0 0))[k]? = some v → v = .slice none 0 0 := fun k v hv => by
  rw [List.getElem?_replicate] at hv
  split at hv
  ·cases hv; rfl
  ·cases hv
 refine ⟨by simp, fun k v hv => ?_, fun a b v w _ hv hw i hi => ?_⟩
 ·rw [key k v hv]
  exact ⟨.inl ⟨rfl, rfl, rfl⟩, fun i hi => by simp [Value.blkOf] at hi⟩
 ·rw [key a v hv] at hi
  simp [Value.blkOf] at hi
end
end Go.Proofs.YtegaklgjcicnfaaGreat
namespace Go.Proofs.YtegaklgjcicnfaaGreat
open Go Go.Proofs.YtegaklgjcicnfaaGreat.Abs
structure SrtAt (S0 S : St) (P B hi kp : Nat) (l : List Nd) (db dc j : Nat) (ms ps : List Value) (ld cx : List Int) : Prop where
 live : Live S
 row : S.blk P = some ⟨false, ptV kp db dc B (B + 1) l.length (.slice none 0 0)⟩
 mb : S.blk B = some ⟨false, ms⟩
 pb : S.blk (B + 1) = some ⟨false, ps⟩
 lb : S.blk (B + 2) = some ⟨false, iV ld⟩
 cb : S.blk (B + 3) = some ⟨false, iV cx⟩
 mf : Fam S l.length (B + 4) ms (memb l j)
 pf : Fam S l.length (B + 4) ps (prt l j)
 ap : ApartL ms ps
 ll : ld.length = l.length
 cl : cx.length = l.length
 lv : ∀ k, k < j → madeL l k = true → ld[k]? = some (grpL l k)
 cv : ∀ k, k < j → 0 < k → madeL l k = true → cx[k]? = some (ctxL l k)
 kin : KinAt S hi kp l
 hP : hi ≤ P
 PB : P < B
 keep : Keeps S0 S (· ≠ P)
 h0 : S0.next ≤ B
section
variable {S0 S S' : St} {P B hi kp : Nat} {l : List Nd} {db dc j : Nat} {ms ps : List Value} {ld cx : List Int}
theorem SrtAt.lo (h : SrtAt S0 S P B hi kp l db dc j ms ps ld cx) : B + 4 ≤ S.next := by have := h.live _ _ h.cb; omega
theorem SrtAt.ldSet (h : SrtAt S0 S P B hi kp l db dc j ms ps ld cx) (n : Int) : SrtAt S0 (S.set (B + 2) ⟨false, (iV ld).set j (.int .i64 n)⟩) P B hi kp l db dc j ms ps (ld.set j n) cx :=
 have hP := h.hP
 have hPB := h.PB
 have h0 := h.h0
 have ne : ∀ i, i ≠ B + 2 → (S.set (B + 2) ⟨false, (iV ld).set j (.int .i64 n)⟩).blk i = S.blk i := fun i hi => by rw [St.blk_set, if_neg hi]
 { h with
  live := h.live.set _ _ (by have := h.lo; omega)
  row := (ne P (by omega)).trans h.row
  mb := (ne B (by omega)).trans h.mb
  pb := (ne (B + 1) (by omega)).trans h.pb
  lb := by rw [blk_set_self, iV_set]
  cb := (ne (B + 3) (by omega)).trans h.cb
  mf := h.mf.keep fun i hi => ne i (by omega)
  pf := h.pf.keep fun i hi => ne i (by omega)
  ll := by rw [List.length_set]; exact h.ll
  lv := fun k hk hm => by rw [List.getElem?_set_ne (by omega)]; exact h.lv k hk hm
  kin := h.kin.keep fun i hi => ne i (by omega)
  keep := h.keep.set (fun i hi _ => by omega) _ }
theorem SrtAt.cxSet (h : SrtAt S0 S P B hi kp l db dc j ms ps ld cx) (n : Int) : SrtAt S0 (S.set (B + 3) ⟨false, (iV cx).set j (.int .i64 n)⟩) P B hi kp l db dc j ms ps ld (cx.set j n) :=
 have hP := h.hP
 have hPB := h.PB
 have h0 := h.h0
 have ne : ∀ i, i ≠ B + 3 → (S.set (B + 3) ⟨false, (iV cx).set j (.int .i64 n)⟩).blk i = S.blk i := fun i hi => by rw [St.blk_set, if_neg hi]
 { h with
  live := h.live.set _ _ (by have := h.lo; omega)
  row := (ne P (by omega)).trans h.row
  mb := (ne B (by omega)).trans h.mb
  pb := (ne (B + 1) (by omega)).trans h.pb
  lb := (ne (B + 2) (by omega)).trans h.lb
  cb := by rw [blk_set_self, iV_set]
  mf := h.mf.keep fun i hi => ne i (by omega)
  pf := h.pf.keep fun i hi => ne i (by omega)
  cl := by rw [List.length_set]; exact h.cl
  cv := fun k hk hm => by rw [List.getElem?_set_ne (by omega)]; exact h.cv k hk hm
  kin := h.kin.keep fun i hi => ne i (by omega)
  keep := h.keep.set (fun i hi _ => by omega) _ }
theorem SrtAt.up (h : SrtAt S0 S P B hi kp l db dc j ms ps ld cx) (h1 : madeL l j = true → ld[j]? = some (grpL l j)) (h2 : 0 < j → madeL l j = true → cx[j]? = some (ctxL l j)) (h3 : (madeL l j && !leadsL l j) = false) (h4 : (leadsL l j && decide (0 < j)) = false) : SrtAt S0 S P B hi kp l db dc (j + 1) ms ps ld cx :=
 { h with
  mf := by
   have : memb l (j + 1) = memb l j := by funext n; rw [memb_succ, h3]; simp
   rw [this]; exact h.mf
  pf := by
   have : prt l (j + 1) = prt l j := by funext n; rw [prt_succ, h4]; simp
   rw [this]; exact h.pf
  lv := fun k hk hm => by
   by_cases e : k = j
   ·subst e; exact h1 hm
   ·exact h.lv k (by omega) hm
  cv := fun k hk h0 hm => by
   by_cases e : k = j
   ·subst e; exact h2 h0 hm
   ·exact h.cv k (by omega) h0 hm }
theorem SrtAt.appM (h : SrtAt S0 S P B hi kp l db dc j ms ps ld cx) (h1 : ld[j]? = some (grpL l j)) (h2 : 0 < j → madeL l j = true → cx[j]? = some (ctxL l j)) (h3 : (madeL l j && !leadsL l j) = true) {k : Nat} (hg : grpL l j = k) {v v' : Value} (hv : ms[k]? = some v) {S1 : St}
  (hA : AppR S S1 1 v v' ((memb l j k).length + 1) (nV (memb l j k) ++ [.int .i64 (j : Int)])) : SrtAt S0 (S1.set B ⟨false, ms.set k v'⟩) P B hi kp l db dc (j + 1) (ms.set k v') ps ld cx := by
 have hP := h.hP
 have hPB := h.PB
 have h0 := h.h0
 have hlo := h.lo
 have hvb := (h.mf.own k v hv).2
 have ne : ∀ i, i < B + 4 → i ≠ B → (S1.set B ⟨false, ms.set k v'⟩).blk i = S.blk i := fun i hi hib => by
  rw [St.blk_set, if_neg hib]
  exact hA.keep.2 i (by omega) fun e => by have := hvb i e; omega
 have hlead : leadsL l j = false := by cases hl : leadsL l j <;> simp [hl] at h3 ⊢
 have f1 := (h.mf.app h.live hlo hv hA (f' := memb l (j + 1)) fun a => by
  rw [memb_succ, h3, hg]
  by_cases e : a = k
  ·subst e; simp
  ·rw [if_neg e, if_neg (by simp; omega), List.append_nil])
 have f2 := h.pf.other h.live hA fun b w hw => h.ap k b v w hv hw
 have hpe : prt l (j + 1) = prt l j := by funext n; rw [prt_succ, hlead]; simp
 exact ⟨hA.live.set _ _ (by have := hA.keep.1; omega), (ne P (by omega) (by omega)).trans h.row, blk_set_self _ _ _, (ne (B + 1) (by omega) (by omega)).trans h.pb, (ne (B + 2) (by omega) (by omega)).trans h.lb, (ne (B + 3) (by omega) (by omega)).trans h.cb,
  f1.keep fun i hi => by rw [St.blk_set, if_neg (by omega)], by rw [hpe]; exact f2.keep fun i hi => by rw [St.blk_set, if_neg (by omega)], h.ap.app h.live h.pf hv hA, h.ll, h.cl,
  fun k' hk hm => by
   by_cases e : k' = j
   ·subst e; exact h1
   ·exact h.lv k' (by omega) hm,
  fun k' hk h0' hm => by
   by_cases e : k' = j
   ·subst e; exact h2 h0' hm
   ·exact h.cv k' (by omega) h0' hm,
  h.kin.keep fun i hi => ne i (by omega) (by omega), hP, hPB, (h.keep.trans hA.keep fun i hi _ e => by have := hvb i e; omega).set (fun i hi _ => by omega) _, h0⟩
theorem SrtAt.appP (h : SrtAt S0 S P B hi kp l db dc j ms ps ld cx) (h1 : madeL l j = true → ld[j]? = some (grpL l j)) (h2 : cx[j]? = some (ctxL l j)) (h3 : (leadsL l j && decide (0 < j)) = true) {k : Nat} (hg : ctxL l j = k) {v v' : Value} (hv : ps[k]? = some v) {S1 : St}
  (hA : AppR S S1 1 v v' ((prt l j k).length + 1) (nV (prt l j k) ++ [.int .i64 (j : Int)])) : SrtAt S0 (S1.set (B + 1) ⟨false, ps.set k v'⟩) P B hi kp l db dc (j + 1) ms (ps.set k v') ld cx := by
 have hP := h.hP
 have hPB := h.PB
 have h0 := h.h0
 have hlo := h.lo
 have hvb := (h.pf.own k v hv).2
 have ne : ∀ i, i < B + 4 → i ≠ B + 1 → (S1.set (B + 1) ⟨false, ps.set k v'⟩).blk i = S.blk i := fun i hi hib => by
  rw [St.blk_set, if_neg hib]
  exact hA.keep.2 i (by omega) fun e => by have := hvb i e; omega
 have hlead : leadsL l j = true := by simp at h3; exact h3.1
 have f1 := (h.pf.app h.live hlo hv hA (f' := prt l (j + 1)) fun a => by
  rw [prt_succ, h3, hg]
  by_cases e : a = k
  ·subst e; simp
  ·rw [if_neg e, if_neg (by simp; omega), List.append_nil])
 have f2 := h.mf.other h.live hA fun b w hw => h.ap.symm k b v w hv hw
 have hpe : memb l (j + 1) = memb l j := by funext n; rw [memb_succ, hlead]; simp
 exact ⟨hA.live.set _ _ (by have := hA.keep.1; omega), (ne P (by omega) (by omega)).trans h.row, (ne B (by omega) (by omega)).trans h.mb, blk_set_self _ _ _, (ne (B + 2) (by omega) (by omega)).trans h.lb, (ne (B + 3) (by omega) (by omega)).trans h.cb,
  by rw [hpe]; exact f2.keep fun i hi => by rw [St.blk_set, if_neg (by omega)], f1.keep fun i hi => by rw [St.blk_set, if_neg (by omega)], (h.ap.symm.app h.live h.mf hv hA).symm, h.ll, h.cl,
  fun k' hk hm => by
   by_cases e : k' = j
   ·subst e; exact h1 hm
   ·exact h.lv k' (by omega) hm,
  fun k' hk h0' hm => by
   by_cases e : k' = j
   ·subst e; exact h2
   ·exact h.cv k' (by omega) h0' hm,
  h.kin.keep fun i hi => ne i (by omega) (by omega), hP, hPB, (h.keep.trans hA.keep fun i hi _ e => by have := hvb i e; omega).set (fun i hi _ => by omega) _, h0⟩
end
end Go.Proofs.YtegaklgjcicnfaaGreat
namespace Go.Proofs.YtegaklgjcicnfaaGreat
open Go Go.Proofs.YtegaklgjcicnfaaGreat.Abs
def pt0V (kp db dc n : Nat) : List Value := [ptr kp, .slice (some ⟨db, 0, none⟩) n 21, .slice (some ⟨dc, 0, none⟩) n 4, .slice none 0 0, .slice none 0 0, .slice none 0 0]
set_option maxHeartbeats 4000000 in
theorem sort51 {S : St} {P hi kp : Nat} {l : List Nd} {db dc : Nat} (hok : ∀ x ∈ l, x.Ok) (hform : TForm l) (htr : Tr (par l) l.length) (hl : l.length ≤ 1000000) (hrow : S.blk P = some ⟨false, pt0V kp db dc l.length⟩) (hK : KinAt S hi kp l) (hP : hi ≤ P) :
  ACalls Tryz.prog 51 [ptr P] S fun r S' => ∃ B ms ps ld cx, SrtAt S S' P B hi kp l db dc l.length ms ps ld cx := by
 refine run_of hmix Tryz.func51 cF51 rfl fun hL Q hQ => ?_
 have r0 := rd_of_blk hrow 0
 simp only [pt0V] at r0 hrow
 have lP := hL _ _ hrow
 have q1 : (P = S.next) = False := eq_false (by omega)
 have q2 : (P = S.next + 1) = False := eq_false (by omega)
 have q3 : (P = S.next + 1 + 1) = False := eq_false (by omega)
 have q4 : (P = S.next + 1 + 1 + 1) = False := eq_false (by omega)
 have a0 : (0 : Int) ≤ l.length := by omega
 have a1 : (l.length : Int) * 24 ≤ 1099511627776 := by omega
 have a2 : (l.length : Int) * 8 ≤ 1099511627776 := by omega
 simp only [go_sem, seval, aF51, r0]
 refine cK_of (len50 hK) ?_
 rintro v S1 _ hL1 ⟨rfl, hS1⟩
 obtain rfl := hS1.symm
 simp only [go_sem, seval, a0, a1, a2, Int.le_refl, Int.toNat_natCast, Nat.mul_one, toList_madeCells_one, hrow, q1, q2, q3, q4]
 obtain ⟨B, hB⟩ : ∃ B, B = S.next := ⟨_, rfl⟩
 obtain ⟨Sa, hSa⟩ : ∃ Sa, Sa = (S.new ⟨false, List.replicate l.length (.slice none 0 0)⟩).new ⟨false, List.replicate l.length (.slice none 0 0)⟩ := ⟨_, rfl⟩
 have na : Sa.next = B + 2 := by rw [hSa, hB]; rfl
 have ka : KeepsAll S Sa := by rw [hSa]; exact (Keeps.of_new _ _ _).new _
 have hLa : Live Sa := by rw [hSa]; exact (hL.new _).new _
 have ba : Sa.blk B = some ⟨false, List.replicate l.length (.slice none 0 0)⟩ := by rw [hSa, hB]; simp [St.blk_new, St.next_new]
 have bb : Sa.blk (B + 1) = some ⟨false, List.replicate l.length (.slice none 0 0)⟩ := by rw [hSa, hB]; simp [St.blk_new, St.next_new]
 obtain ⟨Sb, hSb⟩ : ∃ Sb, Sb = Sa.set P ⟨false, ptV kp db dc B (B + 1) l.length (.slice none 0 0)⟩ := ⟨_, rfl⟩
 have hLb : Live Sb := by rw [hSb]; exact hLa.set _ _ (by omega)
 have kb : Keeps S Sb (· ≠ P) := by rw [hSb]; exact ka.all.set (fun i _ h => h) _
 obtain ⟨Sm, hSm⟩ : ∃ Sm, Sm = (Sb.new ⟨false, iV (List.replicate l.length 0)⟩).new ⟨false, iV (List.replicate l.length 0)⟩ := ⟨_, rfl⟩
 have nb : Sb.next = B + 2 := by rw [hSb]; exact na
 have km : KeepsAll Sb Sm := by rw [hSm]; exact (Keeps.of_new _ _ _).new _
 have hLm : Live Sm := by rw [hSm]; exact (hLb.new _).new _
 have bc : Sm.blk (B + 2) = some ⟨false, iV (List.replicate l.length 0)⟩ := by rw [hSm, ← nb]; simp [St.blk_new, St.next_new]
 have bd : Sm.blk (B + 3) = some ⟨false, iV (List.replicate l.length 0)⟩ := by rw [hSm, show B + 3 = Sb.next + 1 by omega]; simp [St.blk_new, St.next_new]
 have hold : ∀ i, i < B + 2 → i ≠ P → Sm.blk i = Sa.blk i := fun i hi hp => by rw [km.2 i (by omega) trivial, hSb, St.blk_set, if_neg hp]
 have bP : Sm.blk P = some ⟨false, ptV kp db dc B (B + 1) l.length (.slice none 0 0)⟩ := by rw [km.2 P (by omega) trivial, hSb, blk_set_self]
 have m0 : memb l 0 = fun _ => [] := rfl
 have p0 : prt l 0 = fun _ => [] := rfl
 have hap : ApartL (List.replicate l.length (.slice none 0 0)) (List.replicate l.length (.slice none 0 0)) := fun a b v w hv hw i hi => by
  rw [List.getElem?_replicate] at hv
  split at hv
  ·cases hv; simp [Value.blkOf] at hi
  ·cases hv
 have K0 : SrtAt S Sm P B hi kp l db dc 0 (List.replicate l.length (.slice none 0 0)) (List.replicate l.length (.slice none 0 0)) (List.replicate l.length 0) (List.replicate l.length 0) :=
  ⟨hLm, bP, (hold B (by omega) (by omega)).trans ba, (hold (B + 1) (by omega) (by omega)).trans bb, bc, bd, by rw [m0]; exact Fam.nil _ _ _, by rw [p0]; exact Fam.nil _ _ _,
   hap, by simp, by simp, fun k hk => by omega, fun k hk => by omega, hK.keep fun i hi => by rw [hold i (by omega) (by omega), ka.2 i (by omega) trivial], hP, by omega, kb.trans km fun _ _ _ => trivial, by omega⟩
 have eSm : ((((((S.new ⟨false, List.replicate l.length (.slice none 0 0)⟩).new ⟨false, List.replicate l.length (.slice none 0 0)⟩).set P ⟨false, [ptr kp, .slice (some ⟨db, 0, none⟩) l.length 21, .slice (some ⟨dc, 0, none⟩) l.length 4, .slice (some ⟨S.next, 0, none⟩) l.length 1, .slice none 0 0, .slice none 0 0]⟩).set P ⟨false, [ptr kp, .slice (some ⟨db, 0, none⟩) l.length 21, .slice (some ⟨dc, 0, none⟩) l.length 4, .slice (some ⟨S.next, 0, none⟩) l.length 1, .slice (some ⟨S.next + 1, 0, none⟩) l.length 1, .slice none 0 0]⟩).new ⟨false, List.replicate l.length (.int .i64 0)⟩).new ⟨false, List.replicate l.length (.int .i64 0)⟩) = Sm := by
  rw [hSm, hSb, hSa, hB, St.set_set, iV_zero]
  rfl
 have e2 : S.next + 1 + 1 = B + 2 := by omega
 have e3 : B + 2 + 1 = B + 3 := rfl
 rw [eSm]
 refine lK_keep [0,3,4,26,27] fun t1 hk' => ?_; simp only [go_sem, seval] at hk'; have hk := hk'; clear hk'
 rw [e2, e3] at hk
 clear eSm hSm hSb hSa
 refine lK_of (fun t' S' => ∃ (j : Nat) (ms ps : List Value) (ld cx : List Int), j ≤ l.length ∧ SrtAt S S' P B hi kp l db dc j ms ps ld cx ∧ Slots t' [(0, ptr P), (3, .slice (some ⟨B + 2, 0, none⟩) l.length 1), (4, .slice (some ⟨B + 3, 0, none⟩) l.length 1), (26, .int .i64 l.length), (27, .int .i64 j)]) (fun t' _ => l.length - (RowKit.intOf (t' 27)).toNat) ?_ ?_
 ·refine ⟨0, _, _, _, _, by omega, K0, ?_⟩
  simp only [go_sem, seval, Int.natCast_add, Int.natCast_succ, hk]
 clear K0 bP hold bc bd hk
 rintro t1 S2 Q1 ⟨j, ms, ps, ld, cx, hj, K, hs⟩ hL2 hN hE
 simp only [slots_cons, slots_nil] at hs
 by_cases hjn : j = l.length
 ·subst hjn
  simp only [go_sem, seval, hs, Int.lt_irrefl]
  refine hE _ _ _ (by simp) ?_
  simp only [go_sem, seval, hs]
  refine hQ _ _ _ ?_
  rw [k_body_normal]
  simp only [go_sem, seval, aF51]
  rw [retQ_some]
  exact ⟨B, ms, ps, ld, cx, K⟩
 have hjl : (j : Int) < l.length := by omega
 have hj' : j < l.length := by omega
 have hj0 : (0 : Int) ≤ j := by omega
 have hw1 : IntKind.i64.wrap ((j : Int) + 1) = ((j + 1 : Nat) : Int) := by rw [wrap64_id (by omega) (by omega)]; omega
 have next : ∀ (S9 : St) (t9 : Env) (ms' ps' : List Value) (ld' cx' : List Int), SrtAt S S9 P B hi kp l db dc (j + 1) ms' ps' ld' cx' → Slots t9 [(0, ptr P), (3, .slice (some ⟨B + 2, 0, none⟩) l.length 1), (4, .slice (some ⟨B + 3, 0, none⟩) l.length 1), (26, .int .i64 l.length), (27, .int .i64 (j + 1 : Nat))] → Q1 .normal t9 S9 := fun S9 t9 ms' ps' ld' cx' h1 h2 => by
  refine hN _ _ ⟨j + 1, ms', ps', ld', cx', by omega, h1, h2⟩ ?_
  simp only [slots_cons, slots_nil] at h2
  rw [h2.2.2.2.2.1, hs.2.2.2.2.1]
  simp [RowKit.intOf]
  omega
 have r0 := rd_of_blk K.row 0
 simp only [ptV] at r0
 simp only [go_sem, seval, hs, hjl, r0]
 refine cK_of (made39 K.kin hj') ?_
 rintro v Sx _ hLx ⟨rfl, hSx⟩
 obtain rfl := hSx.symm
 cases hm : madeL l j
 ·simp only [go_sem, seval, hs, hw1]
  refine next _ _ ms ps ld cx (K.up (fun h => by rw [hm] at h; cases h) (fun _ h => by rw [hm] at h; cases h) (by rw [hm]; rfl) (by unfold leadsL; rw [hm]; rfl)) ?_
  simp only [go_sem, seval, Int.natCast_add, Int.natCast_succ, hs]
 simp only [go_sem, seval, hs, r0]
 refine cK_of (parent70 K.kin hok hj') ?_
 rintro v Sx _ hLx ⟨rfl, hSx⟩
 obtain rfl := hSx.symm
 simp only [go_sem, seval, hs]
 have hcl := K.cl
 have hll := K.ll
 refine iK_cut (fun t' S' => ∃ cx', SrtAt S S' P B hi kp l db dc j ms ps ld cx' ∧ (0 < j → cx'[j]? = some (ctxL l j)) ∧ Slots t' [(0, ptr P), (3, .slice (some ⟨B + 2, 0, none⟩) l.length 1), (4, .slice (some ⟨B + 3, 0, none⟩) l.length 1), (5, .int .i64 j), (6, .int .i64 (par l j)), (26, .int .i64 l.length), (27, .int .i64 j)]) ?_ ?_
 ·intro Q6 hN6 hE6
  cases h0 : decide ((j : Int) > 0)
  ·simp only [go_sem, seval, hs]
   refine hN6 _ _ ⟨cx, K, fun h => by simp at h0; omega, ?_⟩
   simp only [go_sem, seval, Int.natCast_add, Int.natCast_succ, hs]
  have h0' : 0 < j := by simp at h0; omega
  obtain ⟨p, hp, hpj, hpm⟩ := made_par htr hform h0' hj' hm
  rw [hp]
  have hpl : p < l.length := by omega
  have hpl' : (p : Int) < l.length := by omega
  have hp0 : (0 : Int) ≤ p := by omega
  obtain ⟨c, hc, hcp⟩ : ∃ c, cx[p]? = some c ∧ (0 < p → c = ctxL l p) := by
   by_cases hp00 : 0 < p
   ·exact ⟨_, K.cv p hpj hp00 hpm, fun _ => rfl⟩
   ·exact ⟨cx[p], List.getElem?_eq_getElem (by omega), fun h => absurd h hp00⟩
  have hcb := K.cb
  have hcV : (iV cx)[p]? = some (.int .i64 c) := by simp only [iV, List.getElem?_map, hc]; rfl
  have hlen : j + 1 ≤ (iV cx).length := by rw [iV_length]; omega
  have rc : rd S2 (B + 3) p = some (.int .i64 c) := by rw [rd_of_blk hcb]; exact hcV
  have K1 := K.cxSet c
  obtain ⟨S3, hS3⟩ : ∃ S3, S3 = S2.set (B + 3) ⟨false, (iV cx).set j (.int .i64 c)⟩ := ⟨_, rfl⟩
  rw [← hS3] at K1
  have nB3 : (P = B + 3) = False := eq_false (by have := K.PB; omega)
  simp only [go_sem, seval, hs, hj0, hjl, hp0, hpl', Int.toNat_natCast, Nat.mul_one, Nat.zero_add, rc, hcb, hlen, nB3, r0]
  rw [← hS3]
  refine cK_of (forms86 hok hpl K1.kin) ?_
  rintro v Sx _ hLx ⟨rfl, hSx⟩
  obtain rfl := hSx.symm
  have hst := ctx_step htr hj' hp
  cases hf : formsL l p
  ·rw [hf, if_neg (by decide)] at hst
   have hp00 : 0 < p := by
    rcases Nat.eq_zero_or_pos p with e | e
    ·subst e; rw [forms0 hpm] at hf; cases hf
    ·exact e
   simp only [go_sem, seval, hs]
   refine hN6 _ _ ⟨_, K1, fun _ => by rw [List.getElem?_set_self (by omega), hst, hcp hp00], ?_⟩
   simp only [go_sem, seval, Int.natCast_add, Int.natCast_succ, hs, hp]
  ·rw [hf, if_pos rfl] at hst
   have hcb1 := K1.cb
   have hlen1 : j + 1 ≤ (iV (cx.set j c)).length := by rw [iV_length, List.length_set]; omega
   simp only [go_sem, seval, hs, hj0, hjl, Int.toNat_natCast, Nat.mul_one, Nat.zero_add, hcb1, hlen1]
   refine hN6 _ _ ⟨_, K1.cxSet p, fun _ => by rw [List.getElem?_set_self (by rw [List.length_set]; omega), hst], ?_⟩
   simp only [go_sem, seval, Int.natCast_add, Int.natCast_succ, hs, hp]
 rintro t3 S3 ⟨cx', K3, hcx, hs3⟩
 simp only [slots_cons, slots_nil] at hs3
 clear K hs
 have hcl3 := K3.cl
 have r0 := rd_of_blk K3.row 0
 simp only [ptV] at r0
 simp only [go_sem, seval, hs3, r0]
 refine cK_of (leads87 hok hj' K3.kin) ?_
 rintro v Sx _ hLx ⟨rfl, hSx⟩
 obtain rfl := hSx.symm
 have hlb := K3.lb
 have hlenL : j + 1 ≤ (iV ld).length := by rw [iV_length]; omega
 cases hld : leadsL l j
 ·have h0' : 0 < j := by
   rcases Nat.eq_zero_or_pos j with e | e
   ·subst e; rw [leads0 hm] at hld; cases hld
   ·exact e
  obtain ⟨p, hp, hpj, hpm⟩ := made_par htr hform h0' hj' hm
  have hpl' : (p : Int) < l.length := by omega
  have hp0 : (0 : Int) ≤ p := by omega
  have hgs := grp_at htr hj' hld hp
  obtain ⟨g, hg, hgj⟩ := grp_nat htr hform j j (Nat.le_refl _) hj' hm
  have hg0 : (0 : Int) ≤ g := by omega
  have hgl : (g : Int) < l.length := by omega
  have hc := K3.lv p hpj hpm
  rw [← hgs, hg] at hc
  have rc : rd S3 (B + 2) p = some (.int .i64 g) := by rw [rd_of_blk hlb]; simp only [iV, List.getElem?_map, hc]; rfl
  have K4 := K3.ldSet g
  obtain ⟨S4, hS4⟩ : ∃ S4, S4 = S3.set (B + 2) ⟨false, (iV ld).set j (.int .i64 g)⟩ := ⟨_, rfl⟩
  rw [← hS4] at K4
  rw [hp] at hs3
  have nB2 : (P = B + 2) = False := eq_false (by have := K3.PB; omega)
  have nBB : (B = B + 2) = False := eq_false (by omega)
  have r3 := rd_of_blk K3.row 3
  simp only [ptV] at r3
  have hld4 : (ld.set j (g : Int))[j]? = some (grpL l j) := by rw [List.getElem?_set_self (by omega), hg]
  have hsj : ((iV ld).set j (Value.int .i64 g))[j]? = some (.int .i64 g) := List.getElem?_set_self (by omega)
  have hmlen := K4.mf.len
  obtain ⟨v, hv⟩ : ∃ v, ms[g]? = some v := ⟨_, List.getElem?_eq_getElem (by omega)⟩
  have hown := (K4.mf.own g v hv).1
  have hvb := (K4.mf.own g v hv).2
  have rB : rd S3 B g = some v := by rw [rd_of_blk K3.mb]; exact hv
  obtain ⟨va, ve, rfl⟩ := hown.sl.slice
  have hlo4 := K4.lo
  have lP4 := K4.PB
  simp only [go_sem, seval, hs3, hj0, hjl, hp0, hpl', hg0, hgl, Int.toNat_natCast, Nat.mul_one, Nat.zero_add, rc, hlb, hlenL, nB2, nBB, r3, hsj, rB]
  have n34 : S3.next = S4.next := by rw [hS4]; rfl
  rw [← hS4, n34]
  have hml := memb_le (l := l) j g
  refine hK_of (appN (bytes := 8) K4.live (by decide) hown rfl (by omega)) ?_
  rintro v S5 ⟨⟨wa, we, rfl⟩, hA⟩
  have n4 := hA.keep.1
  have kb : ∀ i, i < B + 4 → S5.blk i = S4.blk i := fun i hi => hA.keep.2 i (by omega) fun e => by have := hvb i e; omega
  have r35 : rd S5 P 3 = some (.slice (some ⟨B, 0, none⟩) l.length 1) := by rw [rd_congr (kb P (by omega)), rd_of_blk K4.row]; rfl
  have rj5 : rd S5 (B + 2) j = some (.int .i64 g) := by rw [rd_congr (kb (B + 2) (by omega)), rd_of_blk K4.lb]; simp only [iV, List.getElem?_map, List.getElem?_set_self (show j < ld.length by omega)]; rfl
  have bB5 : S5.blk B = some ⟨false, ms⟩ := (kb B (by omega)).trans K4.mb
  have hgm : g + 1 ≤ ms.length := by omega
  simp only [go_sem, seval, hs3, hj0, hjl, hg0, hgl, Int.toNat_natCast, Nat.mul_one, Nat.zero_add, r35, rj5, bB5, hgm, hw1]
  have K5 := K4.appM hld4 (fun h _ => hcx h) (by rw [hm, hld]; rfl) hg hv hA
  refine next _ _ _ _ _ _ K5 ?_
  simp only [go_sem, seval, Int.natCast_add, Int.natCast_succ, hs3]
 ·have hgs : grpL l j = j := by rw [grp_step htr hj', if_pos hld]
  have K4 := K3.ldSet j
  obtain ⟨S4, hS4⟩ : ∃ S4, S4 = S3.set (B + 2) ⟨false, (iV ld).set j (.int .i64 j)⟩ := ⟨_, rfl⟩
  rw [← hS4] at K4
  have hld4 : (ld.set j (j : Int))[j]? = some (grpL l j) := by rw [List.getElem?_set_self (by omega), hgs]
  cases h0 : decide ((j : Int) > 0)
  ·simp only [go_sem, seval, hs3, hj0, hjl, Int.toNat_natCast, Nat.mul_one, Nat.zero_add, hlb, hlenL, h0, hw1]
   rw [← hS4]
   refine next _ _ _ _ _ _ (K4.up (fun _ => hld4) (fun h _ => hcx h) (by rw [hld, Bool.not_true, Bool.and_false]) (by simp at h0; simp; omega)) ?_
   simp only [go_sem, seval, Int.natCast_add, Int.natCast_succ, hs3]
  have h0' : 0 < j := by simp at h0; omega
  obtain ⟨g, hg, hgj⟩ := ctx_nat htr hform j j (Nat.le_refl _) h0' hj' hm
  have hg0 : (0 : Int) ≤ g := by omega
  have hgl : (g : Int) < l.length := by omega
  have hcg := hcx h0'
  rw [hg] at hcg
  have nB2 : (P = B + 2) = False := eq_false (by have := K3.PB; omega)
  have nBB : (B + 1 = B + 2) = False := eq_false (by omega)
  have nB3 : (B + 3 = B + 2) = False := eq_false (by omega)
  have r4 := rd_of_blk K3.row 4
  simp only [ptV] at r4
  have rcx : rd S3 (B + 3) j = some (.int .i64 g) := by rw [rd_of_blk K3.cb]; simp only [iV, List.getElem?_map, hcg]; rfl
  have hmlen := K4.pf.len
  obtain ⟨v, hv⟩ : ∃ v, ps[g]? = some v := ⟨_, List.getElem?_eq_getElem (by omega)⟩
  have hown := (K4.pf.own g v hv).1
  have hvb := (K4.pf.own g v hv).2
  have rB : rd S3 (B + 1) g = some v := by rw [rd_of_blk K3.pb]; exact hv
  obtain ⟨va, ve, rfl⟩ := hown.sl.slice
  have hlo4 := K4.lo
  have lP4 := K4.PB
  simp only [go_sem, seval, hs3, hj0, hjl, hg0, hgl, Int.toNat_natCast, Nat.mul_one, Nat.zero_add, hlb, hlenL, nB2, nBB, nB3, r4, rcx, rB, h0]
  have n34 : S3.next = S4.next := by rw [hS4]; rfl
  rw [← hS4, n34]
  have hml := prt_le (l := l) j g
  refine hK_of (appN (bytes := 8) K4.live (by decide) hown rfl (by omega)) ?_
  rintro v S5 ⟨⟨wa, we, rfl⟩, hA⟩
  have n4 := hA.keep.1
  have kb : ∀ i, i < B + 4 → S5.blk i = S4.blk i := fun i hi => hA.keep.2 i (by omega) fun e => by have := hvb i e; omega
  have r45 : rd S5 P 4 = some (.slice (some ⟨B + 1, 0, none⟩) l.length 1) := by rw [rd_congr (kb P (by omega)), rd_of_blk K4.row]; rfl
  have rj5 : rd S5 (B + 3) j = some (.int .i64 g) := by rw [rd_congr (kb (B + 3) (by omega)), rd_of_blk K4.cb]; simp only [iV, List.getElem?_map, hcg]; rfl
  have bB5 : S5.blk (B + 1) = some ⟨false, ps⟩ := (kb (B + 1) (by omega)).trans K4.pb
  have hgm : g + 1 ≤ ps.length := by omega
  simp only [go_sem, seval, hs3, hj0, hjl, hg0, hgl, Int.toNat_natCast, Nat.mul_one, Nat.zero_add, r45, rj5, bB5, hgm, hw1]
  have K5 := K4.appP (fun _ => hld4) (hcx h0') (by rw [hld]; simp; omega) hg hv hA
  refine next _ _ _ _ _ _ K5 ?_
  simp only [go_sem, seval, Int.natCast_add, Int.natCast_succ, hs3]
end Go.Proofs.YtegaklgjcicnfaaGreat
namespace Go.Proofs.YtegaklgjcicnfaaGreat
open Go Go.Proofs.YtegaklgjcicnfaaGreat.Abs
/-- What is painted of a tree: its nodes in order. -/
def Painted (l : List Nd) (ns : List Nat) : Prop := (madeL l 0 = false → ns = []) ∧ (madeL l 0 = true → EmC l 0 ns)
set_option maxHeartbeats 2000000 in
theorem items25 {S : St} {hi kp : Nat} {l : List Nd} (hok : ∀ x ∈ l, x.Ok) (hform : TForm l) (htr : Tr (par l) l.length) (hl : l.length ≤ 24) (h0 : 0 < l.length) (db dc : Nat) (bs : List Value) (cl : List Rc) (hK : KinAt S hi kp l) (hh : hi ≤ S.next) (hb : S.blk db = some ⟨false, bs⟩) (hbl : bs.length = l.length * 21) (hbo : ∀ j, j < l.length → BoxOk (bxAt bs j))
  (hc : S.blk dc = some ⟨false, rcC cl⟩) (hcl : cl.length = l.length) :
  ACalls Tryz.prog 25 [ptr kp, .slice (some ⟨db, 0, none⟩) l.length 21, .slice (some ⟨dc, 0, none⟩) l.length 4] S fun r S' => ∃ ns, Painted l ns ∧ ns.length ≤ 16777216 ∧ Its S' r (itsOf l bs cl ns) ∧ KeepsAll S S' := by
 refine run_of hmix Tryz.func25 cF25 rfl fun hL Q hQ => ?_
 simp only [go_sem, seval, aF25]
 refine cK_of (len50 hK) ?_
 rintro v S1 _ hL1 ⟨rfl, hS1⟩
 obtain rfl := hS1.symm
 simp only [go_sem, seval, bne_self_eq_false]
 refine cK_of (len50 hK) ?_
 rintro v S1 _ hL1' ⟨rfl, hS1⟩
 obtain rfl := hS1.symm
 simp only [go_sem, seval, bne_self_eq_false]
 refine cK_of (made39 hK h0) ?_
 rintro v S1 _ hL1'' ⟨rfl, hS1⟩
 obtain rfl := hS1.symm
 cases hm : madeL l 0
 ·simp only [go_sem, seval]
  refine fin_at hQ rfl ?_; simp only [go_sem, seval, aF25]; rw [retQ_some]; simp only [oneOr]
  exact ⟨[], ⟨fun _ => rfl, fun h => (by rw [hm] at h; cases h)⟩, by simp, .inl ⟨rfl, rfl, rfl⟩, Keeps.refl _ _⟩
 obtain ⟨P, hP⟩ : ∃ P, P = S.next := ⟨_, rfl⟩
 obtain ⟨S1, hS1'⟩ : ∃ S1, S1 = S.new ⟨false, pt0V kp db dc l.length⟩ := ⟨_, rfl⟩
 have k1 : KeepsAll S S1 := by rw [hS1']; exact Keeps.of_new _ _ _
 have hLS1 : Live S1 := by rw [hS1']; exact hL.new _
 have b1 : S1.blk P = some ⟨false, pt0V kp db dc l.length⟩ := by rw [hS1', hP, St.blk_new, if_pos rfl]
 have e1 : S.new ⟨false, [ptr kp, .slice (some ⟨db, 0, none⟩) l.length 21, .slice (some ⟨dc, 0, none⟩) l.length 4, .slice none 0 0, .slice none 0 0, .slice none 0 0]⟩ = S1 := by rw [hS1']; rfl
 simp only [go_sem, seval]
 rw [e1, ← hP]
 refine cK_of (sort51 hok hform htr (by omega) b1 (hK.keeps hh k1) (by omega)) ?_
 rintro v S2 _ hL2 ⟨B, ms, ps, ld, cx, K⟩
 have lB := K.lo
 have PB := K.PB
 have ldb := hL _ _ hb
 have ldc := hL _ _ hc
 have kk : ∀ i, i < P → S2.blk i = S.blk i := fun i hi => by rw [K.keep.2 i (by have := k1.1; omega) (by omega), k1.2 i (by omega) trivial]
 have rows : ∀ (d : Nat) (vs : List Value) (f : Nat → List Nat), S2.blk d = some ⟨false, vs⟩ → Fam S2 l.length (B + 4) vs f → RowsAt S2 l P S2.next d f := fun d vs f h1 h2 => by
  refine ⟨vs, h1, h2.len, fun n hn => ?_⟩
  have hnv : n < vs.length := by rw [h2.len]; exact hn
  have hv : vs[n]? = some vs[n] := List.getElem?_eq_getElem hnv
  exact ⟨_, hv, (h2.own n _ hv).1.sl, fun i hi => ⟨(h2.own n _ hv).1.sl.lt hL2 hi, by have := (h2.own n _ hv).2 i hi; omega⟩⟩
 have T2 : PtAt S2 hi kp l P db dc B (B + 1) S2.next bs cl (.slice none 0 0) [] :=
  ⟨⟨K.kin, (kk db (by omega)).trans hb, hbl, hbo, (kk dc (by omega)).trans hc, hcl, rows B ms _ K.mb K.mf, rows (B + 1) ps _ K.pb K.pf, by omega, by omega, ⟨by omega, by omega⟩, ⟨by omega, by omega⟩, ⟨by omega, by omega⟩, ⟨by omega, by omega⟩⟩, K.row, .inl ⟨rfl, rfl, rfl⟩, fun i hi => by simp [Value.blkOf] at hi⟩
 have hpow : 2 ^ (l.length - 0 - 1) ≤ 2 ^ 24 := Nat.pow_le_pow_right (by omega) (by omega)
 simp only [go_sem, seval]
 refine cK_of (context_all hok htr hl l.length 0 h0 (by omega) S2 (.slice none 0 0) [] (Nat.le_refl _) (by simp only [List.length_nil]; omega) T2) ?_
 rintro v S3 _ hL3 ⟨ns, hns, hlen, x3, T3, k3, _⟩
 have r5 := rd_of_blk T3.row 5
 simp only [ptV] at r5
 simp only [go_sem, seval, r5]
 refine fin_at hQ rfl ?_; simp only [go_sem, seval, aF25]; rw [retQ_some]; simp only [oneOr]
 rw [List.nil_append] at T3
 refine ⟨ns, ⟨fun h => (by rw [hm] at h; cases h), fun _ => hns⟩, by omega, T3.own.sl, ?_⟩
 have h1 : Keeps S S2 (· ≠ P) := k1.all.trans K.keep fun i _ h => h
 exact (h1.trans k3 fun i hi hp => ⟨hp, by simp [Value.blkOf]⟩).mono fun i hi _ => by omega
/-- A tree, rendered: its boxes, all that is painted, what is left of that. -/
structure TreeOk (l : List Nd) (v0 v1 : Int) (S' : St) (b f c : Value) (bs : List Value) (ns : List Nat) : Prop where
 chk : tchk l = 0
 view : ViewOk v0 v1
 box : Sl S' 21 b l.length bs
 bl : bs.length = l.length * 21
 bok : ∀ j, j < l.length → BoxOk (bxAt bs j)
 grd : ∀ n (h : n < l.length), n + 1 = l.length → madeL l 0 = true → outL l n = true → holdOf l n = -1 → PlainC l[n].s.cells → bxAt bs n = gbox v0 v1
 pnt : Painted l ns
 nl : ns.length ≤ 16777216
 full : Its S' f (itsOf l bs (clipsTo l bs v0 v1 l.length) ns)
 cull : Its S' c (cullL (itsOf l bs (clipsTo l bs v0 v1 l.length) ns))
/-- A plan, with something more known of its boxes. -/
def PlanPX (ne : Prop) (X : List Value → Prop) (l : List Nd) (v0 v1 : Int) (S : St) (r : Value) (S' : St) : Prop := KeepsAll S S' ∧ ∃ b e, r = .tuple #[b, .int .i64 e] ∧ ((ne ∧ e ≠ 0 ∧ b = .slice none 0 0) ∨ (e = 0 ∧ tchk l = 0 ∧ ViewOk v0 v1 ∧ ∃ db bs, b = .slice (some ⟨db, 0, none⟩) l.length 21 ∧ S'.blk db = some ⟨false, bs⟩ ∧ bs.length = l.length * 21 ∧ (∀ j, j < l.length → BoxOk ((bs.drop (j * 21)).take 21)) ∧
 (∀ n (h : n < l.length), n + 1 = l.length → madeL l 0 = true → outL l n = true → holdOf l n = -1 → PlainC l[n].s.cells → (bs.drop (n * 21)).take 21 = gbox v0 v1) ∧ X bs))
def TreePX (ne : Prop) (X : List Value → Prop) (l : List Nd) (v0 v1 : Int) (S : St) (r : Value) (S' : St) : Prop := KeepsAll S S' ∧ ∃ b f c e, r = .tuple #[.agg #[b, f, c], .int .i64 e] ∧ (∃ x y z, b = .slice x y z) ∧ (∃ x y z, f = .slice x y z) ∧ (∃ x y z, c = .slice x y z) ∧ ((ne ∧ e ≠ 0 ∧ b = .slice none 0 0 ∧ f = .slice none 0 0 ∧ c = .slice none 0 0) ∨ (e = 0 ∧ ∃ bs ns, TreeOk l v0 v1 S' b f c bs ns ∧ X bs))
def TreeP (l : List Nd) (v0 v1 : Int) (S : St) (r : Value) (S' : St) : Prop := KeepsAll S S' ∧ ∃ b f c e, r = .tuple #[.agg #[b, f, c], .int .i64 e] ∧ (∃ x y z, b = .slice x y z) ∧ (∃ x y z, f = .slice x y z) ∧ (∃ x y z, c = .slice x y z) ∧ ((e ≠ 0 ∧ b = .slice none 0 0 ∧ f = .slice none 0 0 ∧ c = .slice none 0 0) ∨ (e = 0 ∧ ∃ bs ns, TreeOk l v0 v1 S' b f c bs ns))
set_option maxHeartbeats 2000000 in
theorem tree11x {ne : Prop} {X : List Value → Prop} (x : Value) (l : List Nd) (v0 v1 : Int) (S : St) (h : Ns S x l) (hok : ∀ x ∈ l, x.Ok) (hn : l.length ≤ 24) (h23 : ACalls Tryz.prog 23 [x, .agg #[.int .i64 v0, .int .i64 v1]] S (PlanPX ne X l v0 v1 S)) : ACalls Tryz.prog 11 [x, .agg #[.int .i64 v0, .int .i64 v1]] S (TreePX ne X l v0 v1 S) := by
 refine run_of hmix Tryz.func11 cF11 rfl fun hL Q hQ => ?_
 obtain ⟨xa, xe, rfl⟩ := h.slice
 simp only [go_sem, seval, aF11]
 refine cK_of h23 ?_
 rintro v S1 _ hL1 ⟨k1, b, e, rfl, hR⟩
 rcases hR with ⟨hne, he, rfl⟩ | ⟨rfl, ht, hv, db, bs, rfl, hb, hbl, hbo, hg, hX⟩
 ·have he' : (e != 0) = true := by simpa using he
  simp only [go_sem, seval, he']
  refine fin_at hQ rfl ?_; simp only [go_sem, seval, aF11]; rw [retQ_some]; simp only [oneOr]
  exact ⟨k1, _, _, _, _, rfl, ⟨_, _, _, rfl⟩, ⟨_, _, _, rfl⟩, ⟨_, _, _, rfl⟩, .inl ⟨hne, he, rfl, rfl, rfl⟩⟩
 have hform := tform_of ht
 have h0 := hform.1.1
 have htr := hform.1.2.tr
 have hz0 : ((0 : Int) != 0) = false := by decide
 simp only [go_sem, seval, hz0]
 refine cK_of (of24 _ l S1 (Sl.keeps hL h k1 fun _ _ => trivial) hok (by omega) ht) ?_
 rintro v S2 _ hL2 ⟨kp, hi, rfl, hK, hh, hSk, k2⟩
 have hb2 := (k2.2 _ (hL1 _ _ hb) trivial).trans hb
 simp only [go_sem, seval, hz0]
 refine cK_of (clip26 hok htr (by omega) db bs v0 v1 hK hh hb2 hbl hbo) ?_
 rintro v S3 _ hL3 ⟨dc, rfl, hc, hSc, k3⟩
 have hb3 := (k3.2 _ (hL2 _ _ hb2) trivial).trans hb2
 simp only [go_sem, seval]
 refine cK_of (items25 hok hform htr hn h0 db dc bs _ (hK.keeps hh k3) (by have := k3.1; omega) hb3 hbl hbo hc (clipsTo_len _ _ _ _ _)) ?_
 rintro v S4 _ hL4 ⟨ns, hpn, hnl, hits, k4⟩
 have hlen := itsOf_len l bs (clipsTo l bs v0 v1 l.length) ns
 obtain ⟨fa, fe, rfl⟩ := hits.slice
 simp only [go_sem, seval]
 refine cK_of (cull27 _ _ S4 hits (by omega)) ?_
 rintro v S5 _ hL5 ⟨hown, k5, _⟩
 obtain ⟨ca, ce, rfl⟩ := hown.sl.slice
 simp only [go_sem, seval]
 refine fin_at hQ rfl ?_; simp only [go_sem, seval, aF11]; rw [retQ_some]; simp only [oneOr]
 have k35 : KeepsAll S3 S5 := k4.trans k5 fun _ _ _ => trivial
 have hb5 := (k35.2 _ (hL3 _ _ hb3) trivial).trans hb3
 refine ⟨((k1.trans k2 fun _ _ _ => trivial).trans k3 fun _ _ _ => trivial).trans k35 fun _ _ _ => trivial, _, _, _, _, rfl, ⟨_, _, _, rfl⟩, ⟨_, _, _, rfl⟩, ⟨_, _, _, rfl⟩, .inr ⟨rfl, bs, ns, ⟨ht, hv, .inr ⟨db, 0, 21, rfl, .inr rfl, ?_⟩, hbl, hbo, hg, hpn, hnl, hits.keeps hL4 k5 fun _ _ => trivial, hown.sl⟩, hX⟩⟩
 rw [cellsOf_of_blk hb5, if_pos (by show 0 + l.length * 21 ≤ bs.length; omega), List.drop_zero]
 congr 1
 exact List.take_of_length_le (Nat.le_of_eq hbl)
theorem tree11 (x : Value) (l : List Nd) (v0 v1 : Int) (S : St) (h : Ns S x l) (hok : ∀ x ∈ l, x.Ok) (hn : l.length ≤ 24) : ACalls Tryz.prog 11 [x, .agg #[.int .i64 v0, .int .i64 v1]] S (TreeP l v0 v1 S) := by
 refine (tree11x (ne := True) (X := fun _ => True) x l v0 v1 S h hok hn ((plan23 x l v0 v1 S h hok hn).mono fun r S' _ ⟨h1, b, e, h2, h3⟩ => ⟨h1, b, e, h2, ?_⟩)).mono fun r S' _ ⟨h1, b, f, c, e, h2, h3, h4, h5, h6⟩ => ⟨h1, b, f, c, e, h2, h3, h4, h5, ?_⟩
 ·rcases h3 with ⟨a1, a2⟩ | ⟨a1, a2, a3, db, bs, a4, a5, a6, a7, a8⟩
  ·exact .inl ⟨trivial, a1, a2⟩
  ·exact .inr ⟨a1, a2, a3, db, bs, a4, a5, a6, a7, a8, trivial⟩
 ·rcases h6 with ⟨_, a⟩ | ⟨a1, bs, ns, a2, _⟩
  ·exact .inl a
  ·exact .inr ⟨a1, bs, ns, a2⟩
end Go.Proofs.YtegaklgjcicnfaaGreat
