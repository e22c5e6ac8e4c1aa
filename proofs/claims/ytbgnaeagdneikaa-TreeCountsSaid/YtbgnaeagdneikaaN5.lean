/- The statement StylePuts. -/
import Derived.Test.YtbgnaeagdneikaaN4
import Derived.Test.YtbgnaeagdneikaaSeatKKN
-- pp: new
namespace Go.Proofs.Ytbgnaeagdneikaa
open Go Go.Proofs.Ytbgnaeagdneikaa.Abs
set_option linter.unusedSimpArgs false
set_option linter.unusedVariables false

theorem good_of (s : Sty) (hs : s.Ok) (hf : SFormed s) (m : List Int) : Good (styBytes s ++ m, false) ∧ pSty (styBytes s ++ m, false) = s ∧ pT5 (styBytes s ++ m, false) = (m, false) := by
  obtain ⟨h1, h2, h3⟩ := roundtrip s hs hf m
  obtain ⟨g0, g1, _⟩ := flag_facts s ⟨hf.2.2.1, hf.2.2.2.1⟩
  exact ⟨⟨by rw [h2], by rw [h3]; exact g1, by rw [h1]; exact hf⟩, h1, h2⟩

set_option maxHeartbeats 2000000 in
theorem stylePuts (s : Sty) (hs : s.Ok) (x : Value) (xs : List Int) (S : St) (h : Bs S x xs) (hx : Byt xs) : ACalls Try.prog 15 [.agg s.cells.toArray, x] S fun r S' => r = .bool true := by
  refine ACalls.run hmix Try.func15 cN15 kN15 rfl fun hL Q hQ => ?_
  have hlen := hs.len
  have htk : s.cells.take 48 = s.cells := List.take_of_length_le (by omega)
  simp only [guard_undef, List.contains_cons, List.contains_nil, Nat.reduceBEq, Int.cast_ofNat_Int, and_self, k_pend_g, pendV, go_sem, i64_wrap_id, Int.reduceAdd, Int.reduceSub, Int.reduceNeg, Int.reduceMul, Nat.reduceSub, Nat.reduceEqDiff, Nat.reduceAdd, Nat.reduceMul, Nat.reduceLeDiff, ↓reduceIte, reduceCtorEq, Int.reduceToNat, Int.reduceLT, Int.reduceLE, Int.reduceEq, aN15]
  refine cK_of (awake06 S) ?_
  rintro r0 S0 hS0 hL0 ⟨rfl, hK0⟩
  obtain ⟨a, e, rfl⟩ := h.slice
  by_cases hl : (50 : Int) < xs.length
  · simp only [guard_undef, List.contains_cons, List.contains_nil, Nat.reduceBEq, Int.cast_ofNat_Int, and_self, k_pend_g, pendV, go_sem, i64_wrap_id, Int.reduceAdd, Int.reduceSub, Int.reduceNeg, Int.reduceMul, Nat.reduceSub, Nat.reduceEqDiff, Nat.reduceAdd, Nat.reduceMul, Nat.reduceLeDiff, ↓reduceIte, reduceCtorEq, Int.reduceToNat, Int.reduceLT, Int.reduceLE, Int.reduceEq, hl]
    refine cK_of (awake06 S0) ?_
    rintro r2 S2 hS2 hL2 ⟨rfl, hK2⟩
    simp only [guard_undef, List.contains_cons, List.contains_nil, Nat.reduceBEq, Int.cast_ofNat_Int, and_self, k_pend_g, pendV, go_sem, i64_wrap_id, Int.reduceAdd, Int.reduceSub, Int.reduceNeg, Int.reduceMul, Nat.reduceSub, Nat.reduceEqDiff, Nat.reduceAdd, Nat.reduceMul, Nat.reduceLeDiff, ↓reduceIte, reduceCtorEq, Int.reduceToNat, Int.reduceLT, Int.reduceLE, Int.reduceEq]
    refine hQ _ _ _ ?_; (first | rw [k_body_ret] | rw [k_body_normal]); simp only [resVals, resVal, ev, Env.get_put, ↓reduceIte, Nat.reduceEqDiff, Option.bind_some, Option.map_some, reduceCtorEq, ldv_true, ldv_false, lloadV_agg, partL, List.toList_toArray, cellsOf_set, cellsOf_new, rd_set, rd_new, List.length_cons, List.length_nil, Nat.reduceAdd, Nat.reduceLeDiff, Nat.le_refl, List.take_succ_cons, List.take_zero, List.drop_zero, Nat.add_eq_left, Nat.left_eq_add, List.getElem?_cons_zero, List.getElem?_cons_succ, aN15]; rw [retQ_some]; simp only [oneOr]
  have h0 := Sl.keeps hL h hK0 fun _ _ => trivial
  simp only [guard_undef, List.contains_cons, List.contains_nil, Nat.reduceBEq, Int.cast_ofNat_Int, and_self, k_pend_g, pendV, go_sem, i64_wrap_id, Int.reduceAdd, Int.reduceSub, Int.reduceNeg, Int.reduceMul, Nat.reduceSub, Nat.reduceEqDiff, Nat.reduceAdd, Nat.reduceMul, Nat.reduceLeDiff, ↓reduceIte, reduceCtorEq, Int.reduceToNat, Int.reduceLT, Int.reduceLE, Int.reduceEq, hl, hlen, htk]
  refine cK_of (put56 S0.next (.slice none 0 0) [] s hs _ ⟨by simp [St.blk_new], .inl ⟨rfl, rfl, rfl⟩, by simp [Value.blkOf]⟩ (by simp)) ?_
  rintro r1 S1 hS1 hL1 ⟨rfl, d1, b1, hO1, s1, hb1, hb1'⟩
  rw [List.nil_append] at hO1
  have hbl : b1.length ≤ 300 := by
    by_cases hf : SFormed s
    · rw [hb1 hf]; exact (styBytes_length s hs).2
    · rw [hb1' hf]; simp
  have hk01 : KeepsAll S0 S1 := (Keeps.of_new S0 ⟨false, [.slice none 0 0]⟩ fun _ => True).trans s1.keep fun i hi _ => ⟨by omega, by simp [Value.blkOf]⟩
  have h1 := Sl.keeps hL0 h0 hk01 fun _ _ => trivial
  simp only [guard_undef, List.contains_cons, List.contains_nil, Nat.reduceBEq, Int.cast_ofNat_Int, and_self, k_pend_g, pendV, go_sem, i64_wrap_id, Int.reduceAdd, Int.reduceSub, Int.reduceNeg, Int.reduceMul, Nat.reduceSub, Nat.reduceEqDiff, Nat.reduceAdd, Nat.reduceMul, Nat.reduceLeDiff, ↓reduceIte, reduceCtorEq, Int.reduceToNat, Int.reduceLT, Int.reduceLE, Int.reduceEq]
  refine cK_of (outBytes S0.next d1 b1 S1 hO1 (by omega)) ?_
  rintro r2 S2 hS2 hL2 ⟨hO2, hK2, hF2⟩
  have h2 := Sl.keeps hL1 h1 hK2 fun _ _ => trivial
  simp only [guard_undef, List.contains_cons, List.contains_nil, Nat.reduceBEq, Int.cast_ofNat_Int, and_self, k_pend_g, pendV, go_sem, i64_wrap_id, Int.reduceAdd, Int.reduceSub, Int.reduceNeg, Int.reduceMul, Nat.reduceSub, Nat.reduceEqDiff, Nat.reduceAdd, Nat.reduceMul, Nat.reduceLeDiff, ↓reduceIte, reduceCtorEq, Int.reduceToNat, Int.reduceLT, Int.reduceLE, Int.reduceEq, hlen, htk]
  refine cK_of (refFormed s hs S2) ?_
  rintro r3 S3 hS3 hL3 ⟨⟨c, rfl, hc⟩, hK3⟩
  have h3 := Sl.keeps hL2 h2 hK3 fun _ _ => trivial
  have hO3 := Own.keeps hL2 hO2 hK3 fun _ _ => trivial
  cases c
  · have hnf : ¬ SFormed s := fun hf => by have := hc.2 hf; cases this
    obtain ⟨a2, e2, rfl⟩ := hO2.sl.slice
    rw [hb1' hnf]
    simp only [guard_undef, List.contains_cons, List.contains_nil, Nat.reduceBEq, Int.cast_ofNat_Int, and_self, k_pend_g, pendV, go_sem, i64_wrap_id, Int.reduceAdd, Int.reduceSub, Int.reduceNeg, Int.reduceMul, Nat.reduceSub, Nat.reduceEqDiff, Nat.reduceAdd, Nat.reduceMul, Nat.reduceLeDiff, ↓reduceIte, reduceCtorEq, Int.reduceToNat, Int.reduceLT, Int.reduceLE, Int.reduceEq]
    refine hQ _ _ _ ?_; (first | rw [k_body_ret] | rw [k_body_normal]); simp only [resVals, resVal, ev, Env.get_put, ↓reduceIte, Nat.reduceEqDiff, Option.bind_some, Option.map_some, reduceCtorEq, ldv_true, ldv_false, lloadV_agg, partL, List.toList_toArray, cellsOf_set, cellsOf_new, rd_set, rd_new, List.length_cons, List.length_nil, Nat.reduceAdd, Nat.reduceLeDiff, Nat.le_refl, List.take_succ_cons, List.take_zero, List.drop_zero, Nat.add_eq_left, Nat.left_eq_add, List.getElem?_cons_zero, List.getElem?_cons_succ, aN15]; rw [retQ_some]; simp only [oneOr]
  have hf := hc.1 rfl
  rw [hb1 hf] at hO3
  obtain ⟨n0, n1⟩ := styBytes_length s hs
  have hgood := good_of s hs hf xs
  have hrb := fun S => refBytes s hs hf S
  have hbyt := styBytes_byt hs hf
  obtain ⟨W, hW⟩ : ∃ W, W = styBytes s := ⟨_, rfl⟩
  rw [← hW] at hO3 n0 n1 hgood hrb hbyt
  simp only [guard_undef, List.contains_cons, List.contains_nil, Nat.reduceBEq, Int.cast_ofNat_Int, and_self, k_pend_g, pendV, go_sem, i64_wrap_id, Int.reduceAdd, Int.reduceSub, Int.reduceNeg, Int.reduceMul, Nat.reduceSub, Nat.reduceEqDiff, Nat.reduceAdd, Nat.reduceMul, Nat.reduceLeDiff, ↓reduceIte, reduceCtorEq, Int.reduceToNat, Int.reduceLT, Int.reduceLE, Int.reduceEq]
  have hE : OwnBs (S3.new ⟨false, []⟩) (.slice (some ⟨S3.next, 0, none⟩) 0 1) [] := .inr ⟨S3.next, rfl, by simp [St.blk_new, bytesV], rfl⟩
  have hkn := Keeps.of_new S3 ⟨false, []⟩ fun _ => True
  refine hK_of (append_live (hL3.new _) (append_bs hE (Sl.keeps hL3 hO3.sl hkn fun _ _ => trivial) (by simp; omega))) ?_
  rintro v4 S4 ⟨hL4, hO4, hK4, hF4⟩
  rw [List.nil_append] at hO4
  have hn34 : S3.next < S4.next := by have := hK4.1; simp [St.next_new] at this; omega
  have hK34 : KeepsAll S3 S4 := hkn.trans hK4 fun i hi _ e => by simp [Value.blkOf] at e; omega
  have h4 := Sl.keeps hL3 h3 hK34 fun _ _ => trivial
  have hO3' := Own.keeps hL3 hO3 hK34 fun _ _ => trivial
  have hv4 : ∀ i, Value.blkOf v4 = some i → S3.next ≤ i := fun i hi => by
    rcases hF4 i hi with hh | hh
    · simp [Value.blkOf] at hh; omega
    · simp [St.next_new] at hh; omega
  simp only [guard_undef, List.contains_cons, List.contains_nil, Nat.reduceBEq, Int.cast_ofNat_Int, and_self, k_pend_g, pendV, go_sem, i64_wrap_id, Int.reduceAdd, Int.reduceSub, Int.reduceNeg, Int.reduceMul, Nat.reduceSub, Nat.reduceEqDiff, Nat.reduceAdd, Nat.reduceMul, Nat.reduceLeDiff, ↓reduceIte, reduceCtorEq, Int.reduceToNat, Int.reduceLT, Int.reduceLE, Int.reduceEq]
  refine hK_of (append_live hL4 (append_bs hO4 h4 (by omega))) ?_
  rintro v5 S5 ⟨hL5, hO5, hK5, hF5⟩
  have hK35 : KeepsAll S3 S5 := hK34.trans hK5 fun i hi _ e => by have := hv4 i e; omega
  have hO3'' := Own.keeps hL3 hO3 hK35 fun _ _ => trivial
  simp only [guard_undef, List.contains_cons, List.contains_nil, Nat.reduceBEq, Int.cast_ofNat_Int, and_self, k_pend_g, pendV, go_sem, i64_wrap_id, Int.reduceAdd, Int.reduceSub, Int.reduceNeg, Int.reduceMul, Nat.reduceSub, Nat.reduceEqDiff, Nat.reduceAdd, Nat.reduceMul, Nat.reduceLeDiff, ↓reduceIte, reduceCtorEq, Int.reduceToNat, Int.reduceLT, Int.reduceLE, Int.reduceEq]
  refine cK_of (newIn v5 (W ++ xs) S5 hO5.sl (fun c hc => by rcases List.mem_append.1 hc with hc | hc; exact hbyt c hc; exact hx c hc) (by simp only [List.length_append]; omega)) ?_
  rintro r6 S6 hS6 hL6 ⟨i, y, rfl, hI, hK6, hi6, hx6⟩
  have hO6 := Own.keeps hL5 hO3'' hK6 fun _ _ => trivial
  have hb32 := b2s_bs (show Bs S6 r2 W from hO6.sl)
  (first | refine cK_keep [0,1,2,4,6,7,31,33] fun t1 hk' => ?_ | refine lK_keep [0,1,2,4,6,7,31,33] fun t1 hk' => ?_ | refine iK_keep [0,1,2,4,6,7,31,33] fun t1 hk' => ?_ | refine hK_keep [0,1,2,4,6,7,31,33] fun t1 hk' => ?_); simp only [guard_undef, List.contains_cons, List.contains_nil, Nat.reduceBEq, Int.cast_ofNat_Int, and_self, k_pend_g, pendV, go_sem, i64_wrap_id, Int.reduceAdd, Int.reduceSub, Int.reduceNeg, Int.reduceMul, Nat.reduceSub, Nat.reduceEqDiff, Nat.reduceAdd, Nat.reduceMul, Nat.reduceLeDiff, ↓reduceIte, reduceCtorEq, Int.reduceToNat, Int.reduceLT, Int.reduceLE, Int.reduceEq, keepL_cons, keepL_nil, slots_cons, slots_nil] at hk'; have hk := hk'; clear hk'
  simp only [guard_undef, List.contains_cons, List.contains_nil, Nat.reduceBEq, Int.cast_ofNat_Int, and_self, k_pend_g, pendV, go_sem, i64_wrap_id, Int.reduceAdd, Int.reduceSub, Int.reduceNeg, Int.reduceMul, Nat.reduceSub, Nat.reduceEqDiff, Nat.reduceAdd, Nat.reduceMul, Nat.reduceLeDiff, ↓reduceIte, reduceCtorEq, Int.reduceToNat, Int.reduceLT, Int.reduceLE, Int.reduceEq, hk, hb32, hlen, htk]
  refine cK_of (hrb S6) ?_
  rintro r7 S7 hS7 hL7 hB7
  have hO7 := Own.keeps hL6 hO6 hB7.keep fun _ _ => trivial
  have hb32' := b2s_bs (show Bs S7 r2 W from hO7.sl)
  have hb35 := b2s_bs hB7.own.sl
  have hI7 := hI.keeps hL6 hB7.keep trivial fun _ _ => trivial
  simp only [guard_undef, List.contains_cons, List.contains_nil, Nat.reduceBEq, Int.cast_ofNat_Int, and_self, k_pend_g, pendV, go_sem, i64_wrap_id, Int.reduceAdd, Int.reduceSub, Int.reduceNeg, Int.reduceMul, Nat.reduceSub, Nat.reduceEqDiff, Nat.reduceAdd, Nat.reduceMul, Nat.reduceLeDiff, ↓reduceIte, reduceCtorEq, Int.reduceToNat, Int.reduceLT, Int.reduceLE, Int.reduceEq, hk, hb32', hb35, hlen, htk]
  refine cK_of (get40 i y _ false S7 hI7) ?_
  rintro r8 S8 hS8 hL8 hG
  unfold GetPost at hG
  rcases hG with hG | hG
  rotate_left
  · exact absurd hgood.1 hG.1
  obtain ⟨hg, hr8, y8, hI8, hs8⟩ := hG
  rw [hgood.2.1] at hr8
  rw [hgood.2.2] at hI8
  subst hr8
  have hq := sty_same hs
  simp only [guard_undef, List.contains_cons, List.contains_nil, Nat.reduceBEq, Int.cast_ofNat_Int, and_self, k_pend_g, pendV, go_sem, i64_wrap_id, Int.reduceAdd, Int.reduceSub, Int.reduceNeg, Int.reduceMul, Nat.reduceSub, Nat.reduceEqDiff, Nat.reduceAdd, Nat.reduceMul, Nat.reduceLeDiff, ↓reduceIte, reduceCtorEq, Int.reduceToNat, Int.reduceLT, Int.reduceLE, Int.reduceEq, hk, hq, hlen, htk]
  refine cK_of (inBad i y8 _ _ S8 hI8) ?_
  rintro r9 S9 hS9 hL9 ⟨rfl, rfl⟩
  simp only [guard_undef, List.contains_cons, List.contains_nil, Nat.reduceBEq, Int.cast_ofNat_Int, and_self, k_pend_g, pendV, go_sem, i64_wrap_id, Int.reduceAdd, Int.reduceSub, Int.reduceNeg, Int.reduceMul, Nat.reduceSub, Nat.reduceEqDiff, Nat.reduceAdd, Nat.reduceMul, Nat.reduceLeDiff, ↓reduceIte, reduceCtorEq, Int.reduceToNat, Int.reduceLT, Int.reduceLE, Int.reduceEq, hk]
  refine cK_of (inLeft i y8 _ _ S9 hI8) ?_
  rintro r10 S10 hS10 hL10 ⟨rfl, rfl⟩
  simp only [guard_undef, List.contains_cons, List.contains_nil, Nat.reduceBEq, Int.cast_ofNat_Int, and_self, k_pend_g, pendV, go_sem, i64_wrap_id, Int.reduceAdd, Int.reduceSub, Int.reduceNeg, Int.reduceMul, Nat.reduceSub, Nat.reduceEqDiff, Nat.reduceAdd, Nat.reduceMul, Nat.reduceLeDiff, ↓reduceIte, reduceCtorEq, Int.reduceToNat, Int.reduceLT, Int.reduceLE, Int.reduceEq, hk]
  refine hQ _ _ _ ?_; (first | rw [k_body_ret] | rw [k_body_normal]); simp only [resVals, resVal, ev, Env.get_put, ↓reduceIte, Nat.reduceEqDiff, Option.bind_some, Option.map_some, reduceCtorEq, ldv_true, ldv_false, lloadV_agg, partL, List.toList_toArray, cellsOf_set, cellsOf_new, rd_set, rd_new, List.length_cons, List.length_nil, Nat.reduceAdd, Nat.reduceLeDiff, Nat.le_refl, List.take_succ_cons, List.take_zero, List.drop_zero, Nat.add_eq_left, Nat.left_eq_add, List.getElem?_cons_zero, List.getElem?_cons_succ, aN15, hk]; rw [retQ_some]; simp only [oneOr]

theorem stylePuts' (cs : List Value) (x : Value) (n : Nat) (ds : List Value) (S : St) (h : FlatOk styleSh cs) (hx : Sl S 1 x n ds) (hr : RowsOk byteSh n ds) : ACalls Try.prog 15 [.agg cs.toArray, x] S fun r S' => r = .bool true := by
  obtain ⟨s, hs, rfl⟩ := sty_of h
  obtain ⟨xs, rfl, hX, hxb⟩ := Bs.of_rows hx hr
  exact stylePuts s hs x xs S hX hxb
end Go.Proofs.Ytbgnaeagdneikaa
