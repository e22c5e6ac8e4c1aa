/- The document's answer: a style's bytes. -/
import Derived.Test.YtbgnaeagdneikaaN1
import Derived.Test.YtbgnaeagdneikaaSeatKKN
import Derived.Test.YtbgnaeagdneikaaCoreAm
-- pp: new
namespace Go.Proofs.Ytbgnaeagdneikaa
open Go Go.Proofs.Ytbgnaeagdneikaa.Abs
set_option linter.unusedSimpArgs false
set_option linter.unusedVariables false

theorem Sty.c0 (s : Sty) : s.cells[0]? = some (.bool s.shown) := rfl
theorem Sty.c1 (s : Sty) : s.cells[1]? = some (.int .i64 s.pos) := rfl
theorem Sty.c42 {s : Sty} (h : s.Ok) : s.cells[42]? = some (.bool s.rtl) := cells_get_tail s h.lens h.border 0
theorem Sty.c43 {s : Sty} (h : s.Ok) : s.cells[43]? = some (.bool s.hasZ) := cells_get_tail s h.lens h.border 1
theorem Sty.c44 {s : Sty} (h : s.Ok) : s.cells[44]? = some (.int .i64 s.z) := cells_get_tail s h.lens h.border 2
theorem Sty.c45 {s : Sty} (h : s.Ok) : s.cells[45]? = some (.bool s.clip) := cells_get_tail s h.lens h.border 3
theorem Sty.c46 {s : Sty} (h : s.Ok) : s.cells[46]? = some (.int .i64 s.back) := cells_get_tail s h.lens h.border 4
theorem Sty.c47 {s : Sty} (h : s.Ok) : s.cells[47]? = some (.int .i64 s.line) := cells_get_tail s h.lens h.border 5
theorem Sty.cb {s : Sty} (h : s.Ok) (k : Nat) (hk : k < s.border.length) : s.cells[38 + k]? = some (.int .i64 s.border[k]) := by
  have hl2 := lenCells_length s.lens
  have h1 := h.lens
  have h2 := h.border
  rw [cells_eq, show 38 + k = (36 + k) + 1 + 1 by omega, List.getElem?_cons_succ, List.getElem?_cons_succ, List.getElem?_append_right (by omega), List.getElem?_append_left (by simp; omega)]
  rw [show 36 + k - (lenCells s.lens).length = k by omega]
  simp [List.getElem?_eq_getElem hk]

theorem be64_length (v : Int) : (be64 v).length = 8 := be_length _ _
theorem lenBytes_length (p : Int × Int) : (lenBytes p).length ≤ 9 := by
  unfold lenBytes
  split <;> simp [be64_length]
theorem flatMap_length_le {α : Type} (f : α → List Int) (k : Nat) (h : ∀ a, (f a).length ≤ k) (l : List α) : (l.flatMap f).length ≤ l.length * k := by
  induction l with
  | nil => simp
  | cons a l ih =>
    rw [List.flatMap_cons, List.length_append, List.length_cons, Nat.succ_mul]
    have := h a
    omega

theorem refBytes (s : Sty) (hs : s.Ok) (hf : SFormed s) (S : St) : ACalls Try.prog 39 [.agg s.cells.toArray] S fun r S' => Buf S S' r (styBytes s) := by
  refine ACalls.run hmix Try.func39 cN39 kN39 rfl fun hL Q hQ => ?_
  have hlen := hs.len
  have hp : 0 ≤ s.pos ∧ s.pos ≤ 3 := ⟨hf.2.2.1, hf.2.2.2.1⟩
  have e0 : IntKind.i64.wrap (s.pos * 2) = s.pos * 2 := wrap64_id (by omega) (by omega)
  simp only [guard_undef, List.contains_cons, List.contains_nil, Nat.reduceBEq, Int.cast_ofNat_Int, and_self, k_pend_g, pendV, go_sem, i64_wrap_id, Int.reduceAdd, Int.reduceSub, Int.reduceNeg, Int.reduceMul, Nat.reduceSub, Nat.reduceEqDiff, Nat.reduceAdd, Nat.reduceMul, Nat.reduceLeDiff, ↓reduceIte, reduceCtorEq, Int.reduceToNat, Int.reduceLT, Int.reduceLE, Int.reduceEq, aN39, hlen, Sty.c0, Sty.c1, e0]
  refine iK_cut (fun t' S' => S' = S ∧ Slots t' [(1, .agg s.cells.toArray), (3, .int .i64 (s.pos * 2 + bit s.shown 1))]) (fun Q1 hN hE => iK_split (fun hc => ?_) (fun hc => ?_)) ?_
  · have e1 : IntKind.i64.wrap (s.pos * 2 + 1) = s.pos * 2 + 1 := wrap64_id (by omega) (by omega)
    simp only [guard_undef, List.contains_cons, List.contains_nil, Nat.reduceBEq, Int.cast_ofNat_Int, and_self, k_pend_g, pendV, go_sem, i64_wrap_id, Int.reduceAdd, Int.reduceSub, Int.reduceNeg, Int.reduceMul, Nat.reduceSub, Nat.reduceEqDiff, Nat.reduceAdd, Nat.reduceMul, Nat.reduceLeDiff, ↓reduceIte, reduceCtorEq, Int.reduceToNat, Int.reduceLT, Int.reduceLE, Int.reduceEq, e1]
    refine hN _ _ ⟨rfl, ?_⟩
    simp only [guard_undef, List.contains_cons, List.contains_nil, Nat.reduceBEq, Int.cast_ofNat_Int, and_self, k_pend_g, pendV, go_sem, i64_wrap_id, Int.reduceAdd, Int.reduceSub, Int.reduceNeg, Int.reduceMul, Nat.reduceSub, Nat.reduceEqDiff, Nat.reduceAdd, Nat.reduceMul, Nat.reduceLeDiff, ↓reduceIte, reduceCtorEq, Int.reduceToNat, Int.reduceLT, Int.reduceLE, Int.reduceEq, slots_cons, slots_nil, Int.natCast_add, Int.natCast_succ, Int.cast_ofNat_Int, hc, bit, Int.add_zero]
  · simp only [guard_undef, List.contains_cons, List.contains_nil, Nat.reduceBEq, Int.cast_ofNat_Int, and_self, k_pend_g, pendV, go_sem, i64_wrap_id, Int.reduceAdd, Int.reduceSub, Int.reduceNeg, Int.reduceMul, Nat.reduceSub, Nat.reduceEqDiff, Nat.reduceAdd, Nat.reduceMul, Nat.reduceLeDiff, ↓reduceIte, reduceCtorEq, Int.reduceToNat, Int.reduceLT, Int.reduceLE, Int.reduceEq]
    refine hN _ _ ⟨rfl, ?_⟩
    simp only [guard_undef, List.contains_cons, List.contains_nil, Nat.reduceBEq, Int.cast_ofNat_Int, and_self, k_pend_g, pendV, go_sem, i64_wrap_id, Int.reduceAdd, Int.reduceSub, Int.reduceNeg, Int.reduceMul, Nat.reduceSub, Nat.reduceEqDiff, Nat.reduceAdd, Nat.reduceMul, Nat.reduceLeDiff, ↓reduceIte, reduceCtorEq, Int.reduceToNat, Int.reduceLT, Int.reduceLE, Int.reduceEq, slots_cons, slots_nil, Int.natCast_add, Int.natCast_succ, Int.cast_ofNat_Int, hc, bit, Int.add_zero]
  rintro t1 S ⟨rfl, h1⟩
  simp only [slots_cons, slots_nil] at h1
  obtain ⟨n1, hn1⟩ : ∃ n1, n1 = s.pos * 2 + bit s.shown 1 := ⟨_, rfl⟩
  have b1 : 0 ≤ n1 ∧ n1 ≤ 7 := by rw [hn1]; unfold bit; split <;> omega
  rw [← hn1] at h1
  simp only [guard_undef, List.contains_cons, List.contains_nil, Nat.reduceBEq, Int.cast_ofNat_Int, and_self, k_pend_g, pendV, go_sem, i64_wrap_id, Int.reduceAdd, Int.reduceSub, Int.reduceNeg, Int.reduceMul, Nat.reduceSub, Nat.reduceEqDiff, Nat.reduceAdd, Nat.reduceMul, Nat.reduceLeDiff, ↓reduceIte, reduceCtorEq, Int.reduceToNat, Int.reduceLT, Int.reduceLE, Int.reduceEq, h1, hlen, Sty.c42 hs]
  refine iK_cut (fun t' S' => S' = S ∧ Slots t' [(1, .agg s.cells.toArray), (3, .int .i64 (n1 + bit s.rtl 8))]) (fun Q1 hN hE => iK_split (fun hc => ?_) (fun hc => ?_)) ?_
  · have e1 : IntKind.i64.wrap (n1 + 8) = n1 + 8 := wrap64_id (by omega) (by omega)
    simp only [guard_undef, List.contains_cons, List.contains_nil, Nat.reduceBEq, Int.cast_ofNat_Int, and_self, k_pend_g, pendV, go_sem, i64_wrap_id, Int.reduceAdd, Int.reduceSub, Int.reduceNeg, Int.reduceMul, Nat.reduceSub, Nat.reduceEqDiff, Nat.reduceAdd, Nat.reduceMul, Nat.reduceLeDiff, ↓reduceIte, reduceCtorEq, Int.reduceToNat, Int.reduceLT, Int.reduceLE, Int.reduceEq, h1, e1]
    refine hN _ _ ⟨rfl, ?_⟩
    simp only [guard_undef, List.contains_cons, List.contains_nil, Nat.reduceBEq, Int.cast_ofNat_Int, and_self, k_pend_g, pendV, go_sem, i64_wrap_id, Int.reduceAdd, Int.reduceSub, Int.reduceNeg, Int.reduceMul, Nat.reduceSub, Nat.reduceEqDiff, Nat.reduceAdd, Nat.reduceMul, Nat.reduceLeDiff, ↓reduceIte, reduceCtorEq, Int.reduceToNat, Int.reduceLT, Int.reduceLE, Int.reduceEq, slots_cons, slots_nil, Int.natCast_add, Int.natCast_succ, Int.cast_ofNat_Int, h1, hc, bit, Int.add_zero]
  · simp only [guard_undef, List.contains_cons, List.contains_nil, Nat.reduceBEq, Int.cast_ofNat_Int, and_self, k_pend_g, pendV, go_sem, i64_wrap_id, Int.reduceAdd, Int.reduceSub, Int.reduceNeg, Int.reduceMul, Nat.reduceSub, Nat.reduceEqDiff, Nat.reduceAdd, Nat.reduceMul, Nat.reduceLeDiff, ↓reduceIte, reduceCtorEq, Int.reduceToNat, Int.reduceLT, Int.reduceLE, Int.reduceEq, h1]
    refine hN _ _ ⟨rfl, ?_⟩
    simp only [guard_undef, List.contains_cons, List.contains_nil, Nat.reduceBEq, Int.cast_ofNat_Int, and_self, k_pend_g, pendV, go_sem, i64_wrap_id, Int.reduceAdd, Int.reduceSub, Int.reduceNeg, Int.reduceMul, Nat.reduceSub, Nat.reduceEqDiff, Nat.reduceAdd, Nat.reduceMul, Nat.reduceLeDiff, ↓reduceIte, reduceCtorEq, Int.reduceToNat, Int.reduceLT, Int.reduceLE, Int.reduceEq, slots_cons, slots_nil, Int.natCast_add, Int.natCast_succ, Int.cast_ofNat_Int, h1, hc, bit, Int.add_zero]
  rintro t2 S ⟨rfl, h2⟩
  simp only [slots_cons, slots_nil] at h2
  obtain ⟨n2, hn2⟩ : ∃ n2, n2 = n1 + bit s.rtl 8 := ⟨_, rfl⟩
  have b2 : 0 ≤ n2 ∧ n2 ≤ 15 := by rw [hn2]; unfold bit; split <;> omega
  rw [← hn2] at h2
  simp only [guard_undef, List.contains_cons, List.contains_nil, Nat.reduceBEq, Int.cast_ofNat_Int, and_self, k_pend_g, pendV, go_sem, i64_wrap_id, Int.reduceAdd, Int.reduceSub, Int.reduceNeg, Int.reduceMul, Nat.reduceSub, Nat.reduceEqDiff, Nat.reduceAdd, Nat.reduceMul, Nat.reduceLeDiff, ↓reduceIte, reduceCtorEq, Int.reduceToNat, Int.reduceLT, Int.reduceLE, Int.reduceEq, h2, hlen, Sty.c43 hs]
  refine iK_cut (fun t' S' => S' = S ∧ Slots t' [(1, .agg s.cells.toArray), (3, .int .i64 (n2 + bit s.hasZ 16))]) (fun Q1 hN hE => iK_split (fun hc => ?_) (fun hc => ?_)) ?_
  · have e1 : IntKind.i64.wrap (n2 + 16) = n2 + 16 := wrap64_id (by omega) (by omega)
    simp only [guard_undef, List.contains_cons, List.contains_nil, Nat.reduceBEq, Int.cast_ofNat_Int, and_self, k_pend_g, pendV, go_sem, i64_wrap_id, Int.reduceAdd, Int.reduceSub, Int.reduceNeg, Int.reduceMul, Nat.reduceSub, Nat.reduceEqDiff, Nat.reduceAdd, Nat.reduceMul, Nat.reduceLeDiff, ↓reduceIte, reduceCtorEq, Int.reduceToNat, Int.reduceLT, Int.reduceLE, Int.reduceEq, h2, e1]
    refine hN _ _ ⟨rfl, ?_⟩
    simp only [guard_undef, List.contains_cons, List.contains_nil, Nat.reduceBEq, Int.cast_ofNat_Int, and_self, k_pend_g, pendV, go_sem, i64_wrap_id, Int.reduceAdd, Int.reduceSub, Int.reduceNeg, Int.reduceMul, Nat.reduceSub, Nat.reduceEqDiff, Nat.reduceAdd, Nat.reduceMul, Nat.reduceLeDiff, ↓reduceIte, reduceCtorEq, Int.reduceToNat, Int.reduceLT, Int.reduceLE, Int.reduceEq, slots_cons, slots_nil, Int.natCast_add, Int.natCast_succ, Int.cast_ofNat_Int, h2, hc, bit, Int.add_zero]
  · simp only [guard_undef, List.contains_cons, List.contains_nil, Nat.reduceBEq, Int.cast_ofNat_Int, and_self, k_pend_g, pendV, go_sem, i64_wrap_id, Int.reduceAdd, Int.reduceSub, Int.reduceNeg, Int.reduceMul, Nat.reduceSub, Nat.reduceEqDiff, Nat.reduceAdd, Nat.reduceMul, Nat.reduceLeDiff, ↓reduceIte, reduceCtorEq, Int.reduceToNat, Int.reduceLT, Int.reduceLE, Int.reduceEq, h2]
    refine hN _ _ ⟨rfl, ?_⟩
    simp only [guard_undef, List.contains_cons, List.contains_nil, Nat.reduceBEq, Int.cast_ofNat_Int, and_self, k_pend_g, pendV, go_sem, i64_wrap_id, Int.reduceAdd, Int.reduceSub, Int.reduceNeg, Int.reduceMul, Nat.reduceSub, Nat.reduceEqDiff, Nat.reduceAdd, Nat.reduceMul, Nat.reduceLeDiff, ↓reduceIte, reduceCtorEq, Int.reduceToNat, Int.reduceLT, Int.reduceLE, Int.reduceEq, slots_cons, slots_nil, Int.natCast_add, Int.natCast_succ, Int.cast_ofNat_Int, h2, hc, bit, Int.add_zero]
  rintro t3 S ⟨rfl, h3⟩
  simp only [slots_cons, slots_nil] at h3
  obtain ⟨n3, hn3⟩ : ∃ n3, n3 = n2 + bit s.hasZ 16 := ⟨_, rfl⟩
  have b3 : 0 ≤ n3 ∧ n3 ≤ 31 := by rw [hn3]; unfold bit; split <;> omega
  rw [← hn3] at h3
  simp only [guard_undef, List.contains_cons, List.contains_nil, Nat.reduceBEq, Int.cast_ofNat_Int, and_self, k_pend_g, pendV, go_sem, i64_wrap_id, Int.reduceAdd, Int.reduceSub, Int.reduceNeg, Int.reduceMul, Nat.reduceSub, Nat.reduceEqDiff, Nat.reduceAdd, Nat.reduceMul, Nat.reduceLeDiff, ↓reduceIte, reduceCtorEq, Int.reduceToNat, Int.reduceLT, Int.reduceLE, Int.reduceEq, h3, hlen, Sty.c45 hs]
  refine iK_cut (fun t' S' => S' = S ∧ Slots t' [(1, .agg s.cells.toArray), (3, .int .i64 (n3 + bit s.clip 32))]) (fun Q1 hN hE => iK_split (fun hc => ?_) (fun hc => ?_)) ?_
  · have e1 : IntKind.i64.wrap (n3 + 32) = n3 + 32 := wrap64_id (by omega) (by omega)
    simp only [guard_undef, List.contains_cons, List.contains_nil, Nat.reduceBEq, Int.cast_ofNat_Int, and_self, k_pend_g, pendV, go_sem, i64_wrap_id, Int.reduceAdd, Int.reduceSub, Int.reduceNeg, Int.reduceMul, Nat.reduceSub, Nat.reduceEqDiff, Nat.reduceAdd, Nat.reduceMul, Nat.reduceLeDiff, ↓reduceIte, reduceCtorEq, Int.reduceToNat, Int.reduceLT, Int.reduceLE, Int.reduceEq, h3, e1]
    refine hN _ _ ⟨rfl, ?_⟩
    simp only [guard_undef, List.contains_cons, List.contains_nil, Nat.reduceBEq, Int.cast_ofNat_Int, and_self, k_pend_g, pendV, go_sem, i64_wrap_id, Int.reduceAdd, Int.reduceSub, Int.reduceNeg, Int.reduceMul, Nat.reduceSub, Nat.reduceEqDiff, Nat.reduceAdd, Nat.reduceMul, Nat.reduceLeDiff, ↓reduceIte, reduceCtorEq, Int.reduceToNat, Int.reduceLT, Int.reduceLE, Int.reduceEq, slots_cons, slots_nil, Int.natCast_add, Int.natCast_succ, Int.cast_ofNat_Int, h3, hc, bit, Int.add_zero]
  · simp only [guard_undef, List.contains_cons, List.contains_nil, Nat.reduceBEq, Int.cast_ofNat_Int, and_self, k_pend_g, pendV, go_sem, i64_wrap_id, Int.reduceAdd, Int.reduceSub, Int.reduceNeg, Int.reduceMul, Nat.reduceSub, Nat.reduceEqDiff, Nat.reduceAdd, Nat.reduceMul, Nat.reduceLeDiff, ↓reduceIte, reduceCtorEq, Int.reduceToNat, Int.reduceLT, Int.reduceLE, Int.reduceEq, h3]
    refine hN _ _ ⟨rfl, ?_⟩
    simp only [guard_undef, List.contains_cons, List.contains_nil, Nat.reduceBEq, Int.cast_ofNat_Int, and_self, k_pend_g, pendV, go_sem, i64_wrap_id, Int.reduceAdd, Int.reduceSub, Int.reduceNeg, Int.reduceMul, Nat.reduceSub, Nat.reduceEqDiff, Nat.reduceAdd, Nat.reduceMul, Nat.reduceLeDiff, ↓reduceIte, reduceCtorEq, Int.reduceToNat, Int.reduceLT, Int.reduceLE, Int.reduceEq, slots_cons, slots_nil, Int.natCast_add, Int.natCast_succ, Int.cast_ofNat_Int, h3, hc, bit, Int.add_zero]
  rintro t4 S ⟨rfl, h4⟩
  simp only [slots_cons, slots_nil] at h4
  have hfl : n3 + bit s.clip 32 = flagOf s := by rw [hn3, hn2, hn1]; rfl
  rw [hfl] at h4
  have b4 : 0 ≤ flagOf s ∧ flagOf s < 64 := by rw [← hfl]; unfold bit; split <;> omega
  have e4 : IntKind.u8.wrap (flagOf s) = flagOf s := by rw [wrap8]; omega
  clear hfl h1 h2 h3 hn1 hn2 hn3 b1 b2 b3
  have htk : s.cells.take 48 = s.cells := List.take_of_length_le (by omega)
  simp only [guard_undef, List.contains_cons, List.contains_nil, Nat.reduceBEq, Int.cast_ofNat_Int, and_self, k_pend_g, pendV, go_sem, i64_wrap_id, Int.reduceAdd, Int.reduceSub, Int.reduceNeg, Int.reduceMul, Nat.reduceSub, Nat.reduceEqDiff, Nat.reduceAdd, Nat.reduceMul, Nat.reduceLeDiff, ↓reduceIte, reduceCtorEq, Int.reduceToNat, Int.reduceLT, Int.reduceLE, Int.reduceEq, h4, e4, hlen, htk, ↓ow_all]
  have B0 := Buf.mk1 (S0 := S) (b := flagOf s) (Keeps.refl S _)
  have hL0 := hL
  have hL1 : Live (S.new ⟨false, [.int .u8 (flagOf s)]⟩) := hL.new _
  (first | refine cK_keep [1,4] fun t1 hk' => ?_ | refine lK_keep [1,4] fun t1 hk' => ?_ | refine iK_keep [1,4] fun t1 hk' => ?_ | refine hK_keep [1,4] fun t1 hk' => ?_); simp only [guard_undef, List.contains_cons, List.contains_nil, Nat.reduceBEq, Int.cast_ofNat_Int, and_self, k_pend_g, pendV, go_sem, i64_wrap_id, Int.reduceAdd, Int.reduceSub, Int.reduceNeg, Int.reduceMul, Nat.reduceSub, Nat.reduceEqDiff, Nat.reduceAdd, Nat.reduceMul, Nat.reduceLeDiff, ↓reduceIte, reduceCtorEq, Int.reduceToNat, Int.reduceLT, Int.reduceLE, Int.reduceEq, keepL_cons, keepL_nil, slots_cons, slots_nil, h4] at hk'; have hk := hk'; clear hk'
  refine cK_of (lens66 s hs _) ?_
  rintro r S1 hS1 hL1' ⟨hO, hK, hF⟩
  have B1 := B0.later hL1 hK
  have hoff : ∀ d, Value.blkOf r = some d → S.next < d := fun d hd => by have := hF d hd; simp [St.next_new] at this; omega
  obtain ⟨dl, hr, hbl, _⟩ := hO.ne (by omega)
  have hdl := hoff dl (by rw [hr]; rfl)
  have hlt := hL1' _ _ hbl
  have hl18 := hs.lens
  simp only [guard_undef, List.contains_cons, List.contains_nil, Nat.reduceBEq, Int.cast_ofNat_Int, and_self, k_pend_g, pendV, go_sem, i64_wrap_id, Int.reduceAdd, Int.reduceSub, Int.reduceNeg, Int.reduceMul, Nat.reduceSub, Nat.reduceEqDiff, Nat.reduceAdd, Nat.reduceMul, Nat.reduceLeDiff, ↓reduceIte, reduceCtorEq, Int.reduceToNat, Int.reduceLT, Int.reduceLE, Int.reduceEq, hk, hr]
  refine lK_of (fun t' S' => ∃ (j : Nat) (v : Value), j ≤ 18 ∧ Slots t' [(1, .agg s.cells.toArray), (4, v), (5, .slice (some ⟨dl, 0, none⟩) 18 2), (33, .int .i64 18), (34, .int .i64 j)] ∧ Live S' ∧ Buf S S' v (flagOf s :: (s.lens.take j).flatMap lenBytes) ∧ S'.blk dl = some ⟨false, lenCells s.lens⟩ ∧ Off v dl)
    (fun t' _ => (18 - RowKit.intOf (t' 34)).toNat) ?_ ?_
  · refine ⟨0, _, by omega, ?_, hL1', B1, hbl, ?_⟩
    · simp only [guard_undef, List.contains_cons, List.contains_nil, Nat.reduceBEq, Int.cast_ofNat_Int, and_self, k_pend_g, pendV, go_sem, i64_wrap_id, Int.reduceAdd, Int.reduceSub, Int.reduceNeg, Int.reduceMul, Nat.reduceSub, Nat.reduceEqDiff, Nat.reduceAdd, Nat.reduceMul, Nat.reduceLeDiff, ↓reduceIte, reduceCtorEq, Int.reduceToNat, Int.reduceLT, Int.reduceLE, Int.reduceEq, slots_cons, slots_nil, Int.natCast_add, Int.natCast_succ, Int.cast_ofNat_Int, hk]
    · simp [Off, Value.blkOf]
      omega
  · rintro t1 S2 Q1 ⟨j, v, hj, h1, hL2, hB, hb, ho⟩ _ hN hE
    simp only [slots_cons, slots_nil] at h1
    have hfl9 := flatMap_length_le lenBytes 9 lenBytes_length (s.lens.take j)
    have htl : (s.lens.take j).length ≤ 18 := by simp; omega
    by_cases hj18 : j = 18
    · subst hj18
      simp only [guard_undef, List.contains_cons, List.contains_nil, Nat.reduceBEq, Int.cast_ofNat_Int, and_self, k_pend_g, pendV, go_sem, i64_wrap_id, Int.reduceAdd, Int.reduceSub, Int.reduceNeg, Int.reduceMul, Nat.reduceSub, Nat.reduceEqDiff, Nat.reduceAdd, Nat.reduceMul, Nat.reduceLeDiff, ↓reduceIte, reduceCtorEq, Int.reduceToNat, Int.reduceLT, Int.reduceLE, Int.reduceEq, h1, show ¬ (((18 : Nat) : Int) < 18) by omega]
      refine hE _ _ _ (by simp) ?_
      clear hN hE
      rw [List.take_of_length_le (by omega)] at hB
      have hb4 := hs.border
      obtain ⟨a0, a1, a2, a3, hbe⟩ : ∃ a0 a1 a2 a3, s.border = [a0, a1, a2, a3] := by
        match hm : s.border, hb4 with
        | [a0, a1, a2, a3], _ => exact ⟨a0, a1, a2, a3, rfl⟩
      have c38 : s.cells[38]? = some (.int .i64 a0) := by have := Sty.cb hs 0 (by omega); simpa [hbe] using this
      have c39 : s.cells[39]? = some (.int .i64 a1) := by have := Sty.cb hs 1 (by omega); simpa [hbe] using this
      have c40 : s.cells[40]? = some (.int .i64 a2) := by have := Sty.cb hs 2 (by omega); simpa [hbe] using this
      have c41 : s.cells[41]? = some (.int .i64 a3) := by have := Sty.cb hs 3 (by omega); simpa [hbe] using this
      rw [List.take_of_length_le (by omega)] at hfl9
      simp only [guard_undef, List.contains_cons, List.contains_nil, Nat.reduceBEq, Int.cast_ofNat_Int, and_self, k_pend_g, pendV, go_sem, i64_wrap_id, Int.reduceAdd, Int.reduceSub, Int.reduceNeg, Int.reduceMul, Nat.reduceSub, Nat.reduceEqDiff, Nat.reduceAdd, Nat.reduceMul, Nat.reduceLeDiff, ↓reduceIte, reduceCtorEq, Int.reduceToNat, Int.reduceLT, Int.reduceLE, Int.reduceEq, h1]
      refine lK_unroll ?_
      simp only [guard_undef, List.contains_cons, List.contains_nil, Nat.reduceBEq, Int.cast_ofNat_Int, and_self, k_pend_g, pendV, go_sem, i64_wrap_id, Int.reduceAdd, Int.reduceSub, Int.reduceNeg, Int.reduceMul, Nat.reduceSub, Nat.reduceEqDiff, Nat.reduceAdd, Nat.reduceMul, Nat.reduceLeDiff, ↓reduceIte, reduceCtorEq, Int.reduceToNat, Int.reduceLT, Int.reduceLE, Int.reduceEq, h1, hlen, c38, c39, c40, c41]
      refine cK_of (eight71 a0 S2) ?_
      rintro r6 S6 hS6 hL6 ⟨g6a, g6b, g6c⟩
      have hB6 := hB.later hL2 g6b
      simp only [guard_undef, List.contains_cons, List.contains_nil, Nat.reduceBEq, Int.cast_ofNat_Int, and_self, k_pend_g, pendV, go_sem, i64_wrap_id, Int.reduceAdd, Int.reduceSub, Int.reduceNeg, Int.reduceMul, Nat.reduceSub, Nat.reduceEqDiff, Nat.reduceAdd, Nat.reduceMul, Nat.reduceLeDiff, ↓reduceIte, reduceCtorEq, Int.reduceToNat, Int.reduceLT, Int.reduceLE, Int.reduceEq, h1]
      (first | refine cK_keep [1,61] fun t1 hk0' => ?_ | refine lK_keep [1,61] fun t1 hk0' => ?_ | refine iK_keep [1,61] fun t1 hk0' => ?_ | refine hK_keep [1,61] fun t1 hk0' => ?_); simp only [guard_undef, List.contains_cons, List.contains_nil, Nat.reduceBEq, Int.cast_ofNat_Int, and_self, k_pend_g, pendV, go_sem, i64_wrap_id, Int.reduceAdd, Int.reduceSub, Int.reduceNeg, Int.reduceMul, Nat.reduceSub, Nat.reduceEqDiff, Nat.reduceAdd, Nat.reduceMul, Nat.reduceLeDiff, ↓reduceIte, reduceCtorEq, Int.reduceToNat, Int.reduceLT, Int.reduceLE, Int.reduceEq, keepL_cons, keepL_nil, slots_cons, slots_nil, h1] at hk0'; have hk0 := hk0'; clear hk0'
      refine hK_of (hB6.app hL6 hL0 g6a.sl (by simp only [List.length_cons, List.length_nil, List.length_append, be64_length]; omega)) ?_
      rintro v7 S7 ⟨hL7, hB7, hn7, hk7x⟩
      simp only [guard_undef, List.contains_cons, List.contains_nil, Nat.reduceBEq, Int.cast_ofNat_Int, and_self, k_pend_g, pendV, go_sem, i64_wrap_id, Int.reduceAdd, Int.reduceSub, Int.reduceNeg, Int.reduceMul, Nat.reduceSub, Nat.reduceEqDiff, Nat.reduceAdd, Nat.reduceMul, Nat.reduceLeDiff, ↓reduceIte, reduceCtorEq, Int.reduceToNat, Int.reduceLT, Int.reduceLE, Int.reduceEq, hk0]
      refine lK_unroll ?_
      simp only [guard_undef, List.contains_cons, List.contains_nil, Nat.reduceBEq, Int.cast_ofNat_Int, and_self, k_pend_g, pendV, go_sem, i64_wrap_id, Int.reduceAdd, Int.reduceSub, Int.reduceNeg, Int.reduceMul, Nat.reduceSub, Nat.reduceEqDiff, Nat.reduceAdd, Nat.reduceMul, Nat.reduceLeDiff, ↓reduceIte, reduceCtorEq, Int.reduceToNat, Int.reduceLT, Int.reduceLE, Int.reduceEq, hk0, hlen, c38, c39, c40, c41]
      refine cK_of (eight71 a1 S7) ?_
      rintro r8 S8 hS8 hL8 ⟨g8a, g8b, g8c⟩
      have hB8 := hB7.later hL7 g8b
      simp only [guard_undef, List.contains_cons, List.contains_nil, Nat.reduceBEq, Int.cast_ofNat_Int, and_self, k_pend_g, pendV, go_sem, i64_wrap_id, Int.reduceAdd, Int.reduceSub, Int.reduceNeg, Int.reduceMul, Nat.reduceSub, Nat.reduceEqDiff, Nat.reduceAdd, Nat.reduceMul, Nat.reduceLeDiff, ↓reduceIte, reduceCtorEq, Int.reduceToNat, Int.reduceLT, Int.reduceLE, Int.reduceEq, hk0]
      (first | refine cK_keep [1,61] fun t1 hk1' => ?_ | refine lK_keep [1,61] fun t1 hk1' => ?_ | refine iK_keep [1,61] fun t1 hk1' => ?_ | refine hK_keep [1,61] fun t1 hk1' => ?_); simp only [guard_undef, List.contains_cons, List.contains_nil, Nat.reduceBEq, Int.cast_ofNat_Int, and_self, k_pend_g, pendV, go_sem, i64_wrap_id, Int.reduceAdd, Int.reduceSub, Int.reduceNeg, Int.reduceMul, Nat.reduceSub, Nat.reduceEqDiff, Nat.reduceAdd, Nat.reduceMul, Nat.reduceLeDiff, ↓reduceIte, reduceCtorEq, Int.reduceToNat, Int.reduceLT, Int.reduceLE, Int.reduceEq, keepL_cons, keepL_nil, slots_cons, slots_nil, hk0] at hk1'; have hk1 := hk1'; clear hk1'
      refine hK_of (hB8.app hL8 hL0 g8a.sl (by simp only [List.length_cons, List.length_nil, List.length_append, be64_length]; omega)) ?_
      rintro v9 S9 ⟨hL9, hB9, hn9, hk9x⟩
      simp only [guard_undef, List.contains_cons, List.contains_nil, Nat.reduceBEq, Int.cast_ofNat_Int, and_self, k_pend_g, pendV, go_sem, i64_wrap_id, Int.reduceAdd, Int.reduceSub, Int.reduceNeg, Int.reduceMul, Nat.reduceSub, Nat.reduceEqDiff, Nat.reduceAdd, Nat.reduceMul, Nat.reduceLeDiff, ↓reduceIte, reduceCtorEq, Int.reduceToNat, Int.reduceLT, Int.reduceLE, Int.reduceEq, hk1]
      refine lK_unroll ?_
      simp only [guard_undef, List.contains_cons, List.contains_nil, Nat.reduceBEq, Int.cast_ofNat_Int, and_self, k_pend_g, pendV, go_sem, i64_wrap_id, Int.reduceAdd, Int.reduceSub, Int.reduceNeg, Int.reduceMul, Nat.reduceSub, Nat.reduceEqDiff, Nat.reduceAdd, Nat.reduceMul, Nat.reduceLeDiff, ↓reduceIte, reduceCtorEq, Int.reduceToNat, Int.reduceLT, Int.reduceLE, Int.reduceEq, hk1, hlen, c38, c39, c40, c41]
      refine cK_of (eight71 a2 S9) ?_
      rintro r10 S10 hS10 hL10 ⟨g10a, g10b, g10c⟩
      have hB10 := hB9.later hL9 g10b
      simp only [guard_undef, List.contains_cons, List.contains_nil, Nat.reduceBEq, Int.cast_ofNat_Int, and_self, k_pend_g, pendV, go_sem, i64_wrap_id, Int.reduceAdd, Int.reduceSub, Int.reduceNeg, Int.reduceMul, Nat.reduceSub, Nat.reduceEqDiff, Nat.reduceAdd, Nat.reduceMul, Nat.reduceLeDiff, ↓reduceIte, reduceCtorEq, Int.reduceToNat, Int.reduceLT, Int.reduceLE, Int.reduceEq, hk1]
      (first | refine cK_keep [1,61] fun t1 hk2' => ?_ | refine lK_keep [1,61] fun t1 hk2' => ?_ | refine iK_keep [1,61] fun t1 hk2' => ?_ | refine hK_keep [1,61] fun t1 hk2' => ?_); simp only [guard_undef, List.contains_cons, List.contains_nil, Nat.reduceBEq, Int.cast_ofNat_Int, and_self, k_pend_g, pendV, go_sem, i64_wrap_id, Int.reduceAdd, Int.reduceSub, Int.reduceNeg, Int.reduceMul, Nat.reduceSub, Nat.reduceEqDiff, Nat.reduceAdd, Nat.reduceMul, Nat.reduceLeDiff, ↓reduceIte, reduceCtorEq, Int.reduceToNat, Int.reduceLT, Int.reduceLE, Int.reduceEq, keepL_cons, keepL_nil, slots_cons, slots_nil, hk1] at hk2'; have hk2 := hk2'; clear hk2'
      refine hK_of (hB10.app hL10 hL0 g10a.sl (by simp only [List.length_cons, List.length_nil, List.length_append, be64_length]; omega)) ?_
      rintro v11 S11 ⟨hL11, hB11, hn11, hk11x⟩
      simp only [guard_undef, List.contains_cons, List.contains_nil, Nat.reduceBEq, Int.cast_ofNat_Int, and_self, k_pend_g, pendV, go_sem, i64_wrap_id, Int.reduceAdd, Int.reduceSub, Int.reduceNeg, Int.reduceMul, Nat.reduceSub, Nat.reduceEqDiff, Nat.reduceAdd, Nat.reduceMul, Nat.reduceLeDiff, ↓reduceIte, reduceCtorEq, Int.reduceToNat, Int.reduceLT, Int.reduceLE, Int.reduceEq, hk2]
      refine lK_unroll ?_
      simp only [guard_undef, List.contains_cons, List.contains_nil, Nat.reduceBEq, Int.cast_ofNat_Int, and_self, k_pend_g, pendV, go_sem, i64_wrap_id, Int.reduceAdd, Int.reduceSub, Int.reduceNeg, Int.reduceMul, Nat.reduceSub, Nat.reduceEqDiff, Nat.reduceAdd, Nat.reduceMul, Nat.reduceLeDiff, ↓reduceIte, reduceCtorEq, Int.reduceToNat, Int.reduceLT, Int.reduceLE, Int.reduceEq, hk2, hlen, c38, c39, c40, c41]
      refine cK_of (eight71 a3 S11) ?_
      rintro r12 S12 hS12 hL12 ⟨g12a, g12b, g12c⟩
      have hB12 := hB11.later hL11 g12b
      simp only [guard_undef, List.contains_cons, List.contains_nil, Nat.reduceBEq, Int.cast_ofNat_Int, and_self, k_pend_g, pendV, go_sem, i64_wrap_id, Int.reduceAdd, Int.reduceSub, Int.reduceNeg, Int.reduceMul, Nat.reduceSub, Nat.reduceEqDiff, Nat.reduceAdd, Nat.reduceMul, Nat.reduceLeDiff, ↓reduceIte, reduceCtorEq, Int.reduceToNat, Int.reduceLT, Int.reduceLE, Int.reduceEq, hk2]
      (first | refine cK_keep [1,61] fun t1 hk3' => ?_ | refine lK_keep [1,61] fun t1 hk3' => ?_ | refine iK_keep [1,61] fun t1 hk3' => ?_ | refine hK_keep [1,61] fun t1 hk3' => ?_); simp only [guard_undef, List.contains_cons, List.contains_nil, Nat.reduceBEq, Int.cast_ofNat_Int, and_self, k_pend_g, pendV, go_sem, i64_wrap_id, Int.reduceAdd, Int.reduceSub, Int.reduceNeg, Int.reduceMul, Nat.reduceSub, Nat.reduceEqDiff, Nat.reduceAdd, Nat.reduceMul, Nat.reduceLeDiff, ↓reduceIte, reduceCtorEq, Int.reduceToNat, Int.reduceLT, Int.reduceLE, Int.reduceEq, keepL_cons, keepL_nil, slots_cons, slots_nil, hk2] at hk3'; have hk3 := hk3'; clear hk3'
      refine hK_of (hB12.app hL12 hL0 g12a.sl (by simp only [List.length_cons, List.length_nil, List.length_append, be64_length]; omega)) ?_
      rintro v13 S13 ⟨hL13, hB13, hn13, hk13x⟩
      simp only [guard_undef, List.contains_cons, List.contains_nil, Nat.reduceBEq, Int.cast_ofNat_Int, and_self, k_pend_g, pendV, go_sem, i64_wrap_id, Int.reduceAdd, Int.reduceSub, Int.reduceNeg, Int.reduceMul, Nat.reduceSub, Nat.reduceEqDiff, Nat.reduceAdd, Nat.reduceMul, Nat.reduceLeDiff, ↓reduceIte, reduceCtorEq, Int.reduceToNat, Int.reduceLT, Int.reduceLE, Int.reduceEq, hk3]
      refine lK_unroll ?_
      simp only [guard_undef, List.contains_cons, List.contains_nil, Nat.reduceBEq, Int.cast_ofNat_Int, and_self, k_pend_g, pendV, go_sem, i64_wrap_id, Int.reduceAdd, Int.reduceSub, Int.reduceNeg, Int.reduceMul, Nat.reduceSub, Nat.reduceEqDiff, Nat.reduceAdd, Nat.reduceMul, Nat.reduceLeDiff, ↓reduceIte, reduceCtorEq, Int.reduceToNat, Int.reduceLT, Int.reduceLE, Int.reduceEq, hk3, hlen, Sty.c43 hs]
      obtain ⟨X, hX⟩ : ∃ X, X = ((((flagOf s :: s.lens.flatMap lenBytes) ++ be64 a0) ++ be64 a1) ++ be64 a2) ++ be64 a3 := ⟨_, rfl⟩
      have hXl : X.length ≤ 300 := by rw [hX]; simp only [List.length_cons, List.length_nil, List.length_append, be64_length]; omega
      have hB13' : Buf S S13 v13 X := by rw [hX]; exact hB13
      refine iK_cut (fun t' S' => ∃ v', Slots t' [(1, .agg s.cells.toArray), (4, v')] ∧ Live S' ∧ Buf S S' v' (X ++ (if s.hasZ = true then be64 s.z else []))) (fun Q1 hN hE => iK_split (fun hc => ?_) (fun hc => ?_)) ?_
      · simp only [guard_undef, List.contains_cons, List.contains_nil, Nat.reduceBEq, Int.cast_ofNat_Int, and_self, k_pend_g, pendV, go_sem, i64_wrap_id, Int.reduceAdd, Int.reduceSub, Int.reduceNeg, Int.reduceMul, Nat.reduceSub, Nat.reduceEqDiff, Nat.reduceAdd, Nat.reduceMul, Nat.reduceLeDiff, ↓reduceIte, reduceCtorEq, Int.reduceToNat, Int.reduceLT, Int.reduceLE, Int.reduceEq, hk3, hlen, Sty.c44 hs]
        refine cK_of (eight71 s.z S13) ?_
        rintro r14 S14 hS14 hL14 ⟨g14a, g14b, g14c⟩
        simp only [guard_undef, List.contains_cons, List.contains_nil, Nat.reduceBEq, Int.cast_ofNat_Int, and_self, k_pend_g, pendV, go_sem, i64_wrap_id, Int.reduceAdd, Int.reduceSub, Int.reduceNeg, Int.reduceMul, Nat.reduceSub, Nat.reduceEqDiff, Nat.reduceAdd, Nat.reduceMul, Nat.reduceLeDiff, ↓reduceIte, reduceCtorEq, Int.reduceToNat, Int.reduceLT, Int.reduceLE, Int.reduceEq, hk3]
        refine hK_of ((hB13'.later hL13 g14b).app hL14 hL0 g14a.sl (by simp only [be64_length]; omega)) ?_
        rintro v15 S15 ⟨hL15, hB15, hn15, hk15⟩
        simp only [guard_undef, List.contains_cons, List.contains_nil, Nat.reduceBEq, Int.cast_ofNat_Int, and_self, k_pend_g, pendV, go_sem, i64_wrap_id, Int.reduceAdd, Int.reduceSub, Int.reduceNeg, Int.reduceMul, Nat.reduceSub, Nat.reduceEqDiff, Nat.reduceAdd, Nat.reduceMul, Nat.reduceLeDiff, ↓reduceIte, reduceCtorEq, Int.reduceToNat, Int.reduceLT, Int.reduceLE, Int.reduceEq, hk3]
        refine hN _ _ ⟨v15, ?_, hL15, by rw [if_pos hc]; exact hB15⟩
        simp only [guard_undef, List.contains_cons, List.contains_nil, Nat.reduceBEq, Int.cast_ofNat_Int, and_self, k_pend_g, pendV, go_sem, i64_wrap_id, Int.reduceAdd, Int.reduceSub, Int.reduceNeg, Int.reduceMul, Nat.reduceSub, Nat.reduceEqDiff, Nat.reduceAdd, Nat.reduceMul, Nat.reduceLeDiff, ↓reduceIte, reduceCtorEq, Int.reduceToNat, Int.reduceLT, Int.reduceLE, Int.reduceEq, slots_cons, slots_nil, Int.natCast_add, Int.natCast_succ, Int.cast_ofNat_Int, hk3]
      · simp only [guard_undef, List.contains_cons, List.contains_nil, Nat.reduceBEq, Int.cast_ofNat_Int, and_self, k_pend_g, pendV, go_sem, i64_wrap_id, Int.reduceAdd, Int.reduceSub, Int.reduceNeg, Int.reduceMul, Nat.reduceSub, Nat.reduceEqDiff, Nat.reduceAdd, Nat.reduceMul, Nat.reduceLeDiff, ↓reduceIte, reduceCtorEq, Int.reduceToNat, Int.reduceLT, Int.reduceLE, Int.reduceEq, hk3]
        refine hN _ _ ⟨v13, ?_, hL13, by rw [if_neg (by simp [hc]), List.append_nil]; exact hB13'⟩
        simp only [guard_undef, List.contains_cons, List.contains_nil, Nat.reduceBEq, Int.cast_ofNat_Int, and_self, k_pend_g, pendV, go_sem, i64_wrap_id, Int.reduceAdd, Int.reduceSub, Int.reduceNeg, Int.reduceMul, Nat.reduceSub, Nat.reduceEqDiff, Nat.reduceAdd, Nat.reduceMul, Nat.reduceLeDiff, ↓reduceIte, reduceCtorEq, Int.reduceToNat, Int.reduceLT, Int.reduceLE, Int.reduceEq, slots_cons, slots_nil, Int.natCast_add, Int.natCast_succ, Int.cast_ofNat_Int, hk3]
      rintro t5 S16 ⟨v16, h5, hL16, hB16⟩
      simp only [slots_cons, slots_nil] at h5
      have hzl : (if s.hasZ = true then be64 s.z else []).length ≤ 8 := by split <;> simp [be64_length]
      simp only [guard_undef, List.contains_cons, List.contains_nil, Nat.reduceBEq, Int.cast_ofNat_Int, and_self, k_pend_g, pendV, go_sem, i64_wrap_id, Int.reduceAdd, Int.reduceSub, Int.reduceNeg, Int.reduceMul, Nat.reduceSub, Nat.reduceEqDiff, Nat.reduceAdd, Nat.reduceMul, Nat.reduceLeDiff, ↓reduceIte, reduceCtorEq, Int.reduceToNat, Int.reduceLT, Int.reduceLE, Int.reduceEq, h5, hlen, Sty.c46 hs, Sty.c47 hs]
      refine cK_of (eight71 s.back S16) ?_
      rintro r17 S17 hS17 hL17 ⟨g17a, g17b, g17c⟩
      simp only [guard_undef, List.contains_cons, List.contains_nil, Nat.reduceBEq, Int.cast_ofNat_Int, and_self, k_pend_g, pendV, go_sem, i64_wrap_id, Int.reduceAdd, Int.reduceSub, Int.reduceNeg, Int.reduceMul, Nat.reduceSub, Nat.reduceEqDiff, Nat.reduceAdd, Nat.reduceMul, Nat.reduceLeDiff, ↓reduceIte, reduceCtorEq, Int.reduceToNat, Int.reduceLT, Int.reduceLE, Int.reduceEq, h5]
      refine hK_of ((hB16.later hL16 g17b).app hL17 hL0 g17a.sl (by simp only [List.length_append, be64_length]; omega)) ?_
      rintro v18 S18 ⟨hL18, hB18, hn18, hk18⟩
      simp only [guard_undef, List.contains_cons, List.contains_nil, Nat.reduceBEq, Int.cast_ofNat_Int, and_self, k_pend_g, pendV, go_sem, i64_wrap_id, Int.reduceAdd, Int.reduceSub, Int.reduceNeg, Int.reduceMul, Nat.reduceSub, Nat.reduceEqDiff, Nat.reduceAdd, Nat.reduceMul, Nat.reduceLeDiff, ↓reduceIte, reduceCtorEq, Int.reduceToNat, Int.reduceLT, Int.reduceLE, Int.reduceEq, h5]
      refine cK_of (eight71 s.line S18) ?_
      rintro r19 S19 hS19 hL19 ⟨g19a, g19b, g19c⟩
      simp only [guard_undef, List.contains_cons, List.contains_nil, Nat.reduceBEq, Int.cast_ofNat_Int, and_self, k_pend_g, pendV, go_sem, i64_wrap_id, Int.reduceAdd, Int.reduceSub, Int.reduceNeg, Int.reduceMul, Nat.reduceSub, Nat.reduceEqDiff, Nat.reduceAdd, Nat.reduceMul, Nat.reduceLeDiff, ↓reduceIte, reduceCtorEq, Int.reduceToNat, Int.reduceLT, Int.reduceLE, Int.reduceEq, h5]
      refine hK_of ((hB18.later hL18 g19b).app hL19 hL0 g19a.sl (by simp only [List.length_append, be64_length]; omega)) ?_
      rintro v20 S20 ⟨hL20, hB20, hn20, hk20⟩
      simp only [guard_undef, List.contains_cons, List.contains_nil, Nat.reduceBEq, Int.cast_ofNat_Int, and_self, k_pend_g, pendV, go_sem, i64_wrap_id, Int.reduceAdd, Int.reduceSub, Int.reduceNeg, Int.reduceMul, Nat.reduceSub, Nat.reduceEqDiff, Nat.reduceAdd, Nat.reduceMul, Nat.reduceLeDiff, ↓reduceIte, reduceCtorEq, Int.reduceToNat, Int.reduceLT, Int.reduceLE, Int.reduceEq, h5]
      refine hQ _ _ _ ?_; (first | rw [k_body_ret] | rw [k_body_normal]); simp only [resVals, resVal, ev, Env.get_put, ↓reduceIte, Nat.reduceEqDiff, Option.bind_some, Option.map_some, reduceCtorEq, ldv_true, ldv_false, lloadV_agg, partL, List.toList_toArray, cellsOf_set, cellsOf_new, rd_set, rd_new, List.length_cons, List.length_nil, Nat.reduceAdd, Nat.reduceLeDiff, Nat.le_refl, List.take_succ_cons, List.take_zero, List.drop_zero, Nat.add_eq_left, Nat.left_eq_add, List.getElem?_cons_zero, List.getElem?_cons_succ, aN39, h5]; rw [retQ_some]; simp only [oneOr]
      have hfin : styBytes s = ((X ++ (if s.hasZ = true then be64 s.z else [])) ++ be64 s.back) ++ be64 s.line := by
        rw [hX]
        unfold styBytes
        rw [hbe]
        simp only [List.flatMap_cons, List.flatMap_nil, List.append_nil, List.cons_append, List.append_assoc]
      rw [hfin]
      exact hB20
    · have hjl : j < s.lens.length := by omega
      have hlt : ((j : Int) < 18) := by omega
      have hj0 : (0 : Int) ≤ j := by omega
      have hj1 : IntKind.i64.wrap ((j : Int) + 1) = j + 1 := wrap64_id (by omega) (by omega)
      obtain ⟨ek, en⟩ := lens_rd hb j hjl
      obtain ⟨p, hp⟩ : ∃ p, p = s.lens[j] := ⟨_, rfl⟩
      rw [← hp] at ek en
      have hpf := hf.1 j (by omega)
      simp only [← hp] at hpf
      have hw8 : IntKind.u8.wrap p.1 = p.1 := by rw [wrap8]; have := hpf.1; omega
      have htk1 : s.lens.take (j + 1) = s.lens.take j ++ [p] := by rw [hp]; exact List.take_succ_eq_append_getElem hjl
      have hlp := lenBytes_length p
      simp only [guard_undef, List.contains_cons, List.contains_nil, Nat.reduceBEq, Int.cast_ofNat_Int, and_self, k_pend_g, pendV, go_sem, i64_wrap_id, Int.reduceAdd, Int.reduceSub, Int.reduceNeg, Int.reduceMul, Nat.reduceSub, Nat.reduceEqDiff, Nat.reduceAdd, Nat.reduceMul, Nat.reduceLeDiff, ↓reduceIte, reduceCtorEq, Int.reduceToNat, Int.reduceLT, Int.reduceLE, Int.reduceEq, h1, hlt, hj0, Int.toNat_natCast, ek, en, hw8, ↓ow_all]
      refine hK_of ((hB.laterNew hL2 ⟨false, [.int .u8 p.1]⟩).app (hL2.new _) hL0 (bs_new1 S2 p.1) (by simp only [List.length_cons, List.length_nil]; omega)) ?_
      rintro v3 S3 ⟨hL3, hB3, hn3, hk3⟩
      have hdl3 := hk3 dl (by simp [St.next_new]; have := hL2 _ _ hb; omega) ho
      have hb3 : S3.blk dl = some ⟨false, lenCells s.lens⟩ := by rw [hdl3.1, St.blk_new, if_neg (by have := hL2 _ _ hb; omega)]; exact hb
      obtain ⟨ek3, en3⟩ := lens_rd hb3 j hjl
      rw [← hp] at ek3 en3
      simp only [guard_undef, List.contains_cons, List.contains_nil, Nat.reduceBEq, Int.cast_ofNat_Int, and_self, k_pend_g, pendV, go_sem, i64_wrap_id, Int.reduceAdd, Int.reduceSub, Int.reduceNeg, Int.reduceMul, Nat.reduceSub, Nat.reduceEqDiff, Nat.reduceAdd, Nat.reduceMul, Nat.reduceLeDiff, ↓reduceIte, reduceCtorEq, Int.reduceToNat, Int.reduceLT, Int.reduceLE, Int.reduceEq, h1, hlt, hj0, Int.toNat_natCast, ek3, en3]
      have next : ∀ (t' : Env) (S' : St) (v' : Value), Slots t' [(1, .agg s.cells.toArray), (4, v'), (5, .slice (some ⟨dl, 0, none⟩) 18 2), (33, .int .i64 18), (34, .int .i64 ((j : Int) + 1))] → Live S' → Buf S S' v' ((flagOf s :: (s.lens.take j).flatMap lenBytes) ++ lenBytes p) → S'.blk dl = some ⟨false, lenCells s.lens⟩ → Off v' dl → Q1 .normal t' S' := by
        intro t' S' v' q1 q2 q3 q4 q5
        refine hN _ _ ⟨j + 1, v', by omega, ?_, q2, ?_, q4, q5⟩ ?_
        · rw [Int.natCast_succ]; exact q1
        · rw [htk1, List.flatMap_append, List.flatMap_cons, List.flatMap_nil, List.append_nil, ← List.cons_append]; exact q3
        · simp only [slots_cons] at q1
          rw [q1.2.2.2.2.1, h1.2.2.2.2.1]
          simp [RowKit.intOf]
          omega
      refine iK_split (fun hc => ?_) (fun hc => ?_)
      · have hp0 : ¬ p.1 = 0 := by simpa using hc
        have hlb : lenBytes p = [p.1] ++ be64 p.2 := by unfold lenBytes; rw [if_neg hp0]; rfl
        simp only [guard_undef, List.contains_cons, List.contains_nil, Nat.reduceBEq, Int.cast_ofNat_Int, and_self, k_pend_g, pendV, go_sem, i64_wrap_id, Int.reduceAdd, Int.reduceSub, Int.reduceNeg, Int.reduceMul, Nat.reduceSub, Nat.reduceEqDiff, Nat.reduceAdd, Nat.reduceMul, Nat.reduceLeDiff, ↓reduceIte, reduceCtorEq, Int.reduceToNat, Int.reduceLT, Int.reduceLE, Int.reduceEq, h1, hlt, hj0, Int.toNat_natCast, ek3, en3]
        refine cK_of (eight71 p.2 S3) ?_
        rintro r4 S4 hS4 hL4 ⟨h4a, h4b, h4c⟩
        have hB4 := hB3.later hL3 h4b
        have hb4 : S4.blk dl = some ⟨false, lenCells s.lens⟩ := by rw [h4b.2 _ (hL3 _ _ hb3) trivial]; exact hb3
        simp only [guard_undef, List.contains_cons, List.contains_nil, Nat.reduceBEq, Int.cast_ofNat_Int, and_self, k_pend_g, pendV, go_sem, i64_wrap_id, Int.reduceAdd, Int.reduceSub, Int.reduceNeg, Int.reduceMul, Nat.reduceSub, Nat.reduceEqDiff, Nat.reduceAdd, Nat.reduceMul, Nat.reduceLeDiff, ↓reduceIte, reduceCtorEq, Int.reduceToNat, Int.reduceLT, Int.reduceLE, Int.reduceEq, h1]
        refine hK_of (hB4.app hL4 hL0 h4a.sl (by simp only [List.length_cons, List.length_nil, List.length_append, be64_length]; omega)) ?_
        rintro v5 S5 ⟨hL5, hB5, hn5, hk5⟩
        have hdl5 := hk5 dl (hL4 _ _ hb4) hdl3.2
        have hb5 : S5.blk dl = some ⟨false, lenCells s.lens⟩ := by rw [hdl5.1]; exact hb4
        simp only [guard_undef, List.contains_cons, List.contains_nil, Nat.reduceBEq, Int.cast_ofNat_Int, and_self, k_pend_g, pendV, go_sem, i64_wrap_id, Int.reduceAdd, Int.reduceSub, Int.reduceNeg, Int.reduceMul, Nat.reduceSub, Nat.reduceEqDiff, Nat.reduceAdd, Nat.reduceMul, Nat.reduceLeDiff, ↓reduceIte, reduceCtorEq, Int.reduceToNat, Int.reduceLT, Int.reduceLE, Int.reduceEq, h1, hj1]
        refine next _ _ v5 ?_ hL5 (by rw [hlb, ← List.append_assoc]; exact hB5) hb5 hdl5.2
        simp only [guard_undef, List.contains_cons, List.contains_nil, Nat.reduceBEq, Int.cast_ofNat_Int, and_self, k_pend_g, pendV, go_sem, i64_wrap_id, Int.reduceAdd, Int.reduceSub, Int.reduceNeg, Int.reduceMul, Nat.reduceSub, Nat.reduceEqDiff, Nat.reduceAdd, Nat.reduceMul, Nat.reduceLeDiff, ↓reduceIte, reduceCtorEq, Int.reduceToNat, Int.reduceLT, Int.reduceLE, Int.reduceEq, slots_cons, slots_nil, Int.natCast_add, Int.natCast_succ, Int.cast_ofNat_Int, h1]
      · have hp0 : p.1 = 0 := by simpa using hc
        have hlb : lenBytes p = [p.1] := by unfold lenBytes; rw [if_pos hp0]
        simp only [guard_undef, List.contains_cons, List.contains_nil, Nat.reduceBEq, Int.cast_ofNat_Int, and_self, k_pend_g, pendV, go_sem, i64_wrap_id, Int.reduceAdd, Int.reduceSub, Int.reduceNeg, Int.reduceMul, Nat.reduceSub, Nat.reduceEqDiff, Nat.reduceAdd, Nat.reduceMul, Nat.reduceLeDiff, ↓reduceIte, reduceCtorEq, Int.reduceToNat, Int.reduceLT, Int.reduceLE, Int.reduceEq, h1, hj1]
        refine next _ _ v3 ?_ hL3 (by rw [hlb]; exact hB3) hb3 hdl3.2
        simp only [guard_undef, List.contains_cons, List.contains_nil, Nat.reduceBEq, Int.cast_ofNat_Int, and_self, k_pend_g, pendV, go_sem, i64_wrap_id, Int.reduceAdd, Int.reduceSub, Int.reduceNeg, Int.reduceMul, Nat.reduceSub, Nat.reduceEqDiff, Nat.reduceAdd, Nat.reduceMul, Nat.reduceLeDiff, ↓reduceIte, reduceCtorEq, Int.reduceToNat, Int.reduceLT, Int.reduceLE, Int.reduceEq, slots_cons, slots_nil, Int.natCast_add, Int.natCast_succ, Int.cast_ofNat_Int, h1]
end Go.Proofs.Ytbgnaeagdneikaa
