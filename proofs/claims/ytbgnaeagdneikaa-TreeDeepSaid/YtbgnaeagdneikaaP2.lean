/- The plate: what is taken, what may be written. -/
import Derived.Test.YtbgnaeagdneikaaP1
import Derived.Test.YtbgnaeagdneikaaSeatKKP
-- pp: new
namespace Go.Proofs.Ytbgnaeagdneikaa
open Go Go.Proofs.Ytbgnaeagdneikaa.Abs
set_option linter.unusedSimpArgs false
set_option linter.unusedVariables false

theorem inEightP (i : Nat) (x : Value) (t : Pst) (S : St) (h : IsIn S i x t.1 t.2) : ACalls Try.prog 31 [ptr i] S (InPost S i x (.int .i64 (pEight t).1) (pEight t).2) := inEight i x t.1 t.2 S h
theorem inByteP (i : Nat) (x : Value) (t : Pst) (S : St) (h : IsIn S i x t.1 t.2) : ACalls Try.prog 32 [ptr i] S (InPost S i x (.int .u8 (pByte t).1) (pByte t).2) := inByte i x t.1 t.2 S h
theorem inFourP (i : Nat) (x : Value) (t : Pst) (S : St) (h : IsIn S i x t.1 t.2) : ACalls Try.prog 36 [ptr i] S (InPost S i x (.int .u32 (pFour t).1) (pFour t).2) := inFour i x t.1 t.2 S h

theorem get81 (i : Nat) (x : Value) (t : Pst) (S : St) (h : IsIn S i x t.1 t.2) : ACalls Try.prog 81 [ptr i] S (InPost S i x (.agg (pRc t).1.cells.toArray) (pRc t).2) := by
  refine ACalls.run hmix Try.func81 cN81 kN81 rfl fun hL Q hQ => ?_
  simp only [guard_undef, List.contains_cons, List.contains_nil, Nat.reduceBEq, Int.cast_ofNat_Int, and_self, k_pend_g, pendV, go_sem, i64_wrap_id, Int.reduceAdd, Int.reduceSub, Int.reduceNeg, Int.reduceMul, Nat.reduceSub, Nat.reduceEqDiff, Nat.reduceAdd, Nat.reduceMul, Nat.reduceLeDiff, ↓reduceIte, reduceCtorEq, Int.reduceToNat, Int.reduceLT, Int.reduceLE, Int.reduceEq, aN81]
  refine cK_of (inEightP i x t S h) ?_
  rintro r1 S1 hS1 hL1 hP
  obtain ⟨rfl, x1, h1, s1⟩ := hP
  simp only [guard_undef, List.contains_cons, List.contains_nil, Nat.reduceBEq, Int.cast_ofNat_Int, and_self, k_pend_g, pendV, go_sem, i64_wrap_id, Int.reduceAdd, Int.reduceSub, Int.reduceNeg, Int.reduceMul, Nat.reduceSub, Nat.reduceEqDiff, Nat.reduceAdd, Nat.reduceMul, Nat.reduceLeDiff, ↓reduceIte, reduceCtorEq, Int.reduceToNat, Int.reduceLT, Int.reduceLE, Int.reduceEq]
  refine cK_of (inEightP i x1 _ S1 h1) ?_
  rintro r2 S2 hS2 hL2 hP
  obtain ⟨rfl, x2, h2, s2⟩ := hP
  simp only [guard_undef, List.contains_cons, List.contains_nil, Nat.reduceBEq, Int.cast_ofNat_Int, and_self, k_pend_g, pendV, go_sem, i64_wrap_id, Int.reduceAdd, Int.reduceSub, Int.reduceNeg, Int.reduceMul, Nat.reduceSub, Nat.reduceEqDiff, Nat.reduceAdd, Nat.reduceMul, Nat.reduceLeDiff, ↓reduceIte, reduceCtorEq, Int.reduceToNat, Int.reduceLT, Int.reduceLE, Int.reduceEq]
  refine cK_of (inEightP i x2 _ S2 h2) ?_
  rintro r3 S3 hS3 hL3 hP
  obtain ⟨rfl, x3, h3, s3⟩ := hP
  simp only [guard_undef, List.contains_cons, List.contains_nil, Nat.reduceBEq, Int.cast_ofNat_Int, and_self, k_pend_g, pendV, go_sem, i64_wrap_id, Int.reduceAdd, Int.reduceSub, Int.reduceNeg, Int.reduceMul, Nat.reduceSub, Nat.reduceEqDiff, Nat.reduceAdd, Nat.reduceMul, Nat.reduceLeDiff, ↓reduceIte, reduceCtorEq, Int.reduceToNat, Int.reduceLT, Int.reduceLE, Int.reduceEq]
  refine cK_of (inEightP i x3 _ S3 h3) ?_
  rintro r4 S4 hS4 hL4 hP
  obtain ⟨rfl, x4, h4, s4⟩ := hP
  simp only [guard_undef, List.contains_cons, List.contains_nil, Nat.reduceBEq, Int.cast_ofNat_Int, and_self, k_pend_g, pendV, go_sem, i64_wrap_id, Int.reduceAdd, Int.reduceSub, Int.reduceNeg, Int.reduceMul, Nat.reduceSub, Nat.reduceEqDiff, Nat.reduceAdd, Nat.reduceMul, Nat.reduceLeDiff, ↓reduceIte, reduceCtorEq, Int.reduceToNat, Int.reduceLT, Int.reduceLE, Int.reduceEq]
  refine hQ _ _ _ ?_; (first | rw [k_body_ret] | rw [k_body_normal]); simp only [resVals, resVal, ev, Env.get_put, ↓reduceIte, Nat.reduceEqDiff, Option.bind_some, Option.map_some, reduceCtorEq, ldv_true, ldv_false, lloadV_agg, partL, List.toList_toArray, cellsOf_set, cellsOf_new, rd_set, rd_new, List.length_cons, List.length_nil, Nat.reduceAdd, Nat.reduceLeDiff, Nat.le_refl, List.take_succ_cons, List.take_zero, List.drop_zero, Nat.add_eq_left, Nat.left_eq_add, List.getElem?_cons_zero, List.getElem?_cons_succ, aN81]; rw [retQ_some]; simp only [oneOr]
  exact ⟨rfl, x4, h4, ((s1.trans s2).trans s3).trans s4⟩

theorem flatEq4 (a b c d a' b' c' d' : Int) : flatEq [true, true, true, true] [.int .i64 a, .int .i64 b, .int .i64 c, .int .i64 d] [.int .i64 a', .int .i64 b', .int .i64 c', .int .i64 d'] = some (a == a' && (b == b' && (c == c' && (d == d' && true)))) := by simp [flatEq]
theorem zeroR_iff (r : Rc) : (r.a == 0 && (r.b == 0 && (r.c == 0 && (r.d == 0 && true)))) = true ↔ r = zeroR := by
  obtain ⟨a, b, c, d⟩ := r
  simp [zeroR]

def BoolIs (p : Prop) (S : St) (r : Value) (S' : St) : Prop := S' = S ∧ ∃ c, r = .bool c ∧ (c = true ↔ p)

set_option maxHeartbeats 1000000 in
theorem right44 (x : Itm) (S : St) : ACalls Try.prog 44 [.agg x.cells.toArray] S (BoolIs (RightP x) S) := by
  refine ACalls.run hmix Try.func44 cN44 kN44 rfl fun hL Q hQ => ?_
  unfold Itm.cells
  have no : ¬ RightP x → bodyQ aN44.results (BoolIs (RightP x) S) = bodyQ aN44.results (BoolIs False S) := fun h => by rw [eq_false h]
  by_cases h1 : x.node < 0
  · have hn : ¬ RightP x := fun h => by have := h.1.1; omega
    simp only [guard_undef, List.contains_cons, List.contains_nil, Nat.reduceBEq, Int.cast_ofNat_Int, and_self, k_pend_g, pendV, go_sem, i64_wrap_id, Int.reduceAdd, Int.reduceSub, Int.reduceNeg, Int.reduceMul, Nat.reduceSub, Nat.reduceEqDiff, Nat.reduceAdd, Nat.reduceMul, Nat.reduceLeDiff, ↓reduceIte, reduceCtorEq, Int.reduceToNat, Int.reduceLT, Int.reduceLE, Int.reduceEq, aN44, h1]
    refine hQ _ _ _ ?_; (first | rw [k_body_ret] | rw [k_body_normal]); simp only [resVals, resVal, ev, Env.get_put, ↓reduceIte, Nat.reduceEqDiff, Option.bind_some, Option.map_some, reduceCtorEq, ldv_true, ldv_false, lloadV_agg, partL, List.toList_toArray, cellsOf_set, cellsOf_new, rd_set, rd_new, List.length_cons, List.length_nil, Nat.reduceAdd, Nat.reduceLeDiff, Nat.le_refl, List.take_succ_cons, List.take_zero, List.drop_zero, Nat.add_eq_left, Nat.left_eq_add, List.getElem?_cons_zero, List.getElem?_cons_succ, aN44]; rw [retQ_some]; simp only [oneOr]
    exact ⟨rfl, false, rfl, by simp [hn]⟩
  by_cases h2 : x.node > 65535
  · have hn : ¬ RightP x := fun h => by have := h.1.2.1; omega
    simp only [guard_undef, List.contains_cons, List.contains_nil, Nat.reduceBEq, Int.cast_ofNat_Int, and_self, k_pend_g, pendV, go_sem, i64_wrap_id, Int.reduceAdd, Int.reduceSub, Int.reduceNeg, Int.reduceMul, Nat.reduceSub, Nat.reduceEqDiff, Nat.reduceAdd, Nat.reduceMul, Nat.reduceLeDiff, ↓reduceIte, reduceCtorEq, Int.reduceToNat, Int.reduceLT, Int.reduceLE, Int.reduceEq, aN44, h1, h2]
    refine hQ _ _ _ ?_; (first | rw [k_body_ret] | rw [k_body_normal]); simp only [resVals, resVal, ev, Env.get_put, ↓reduceIte, Nat.reduceEqDiff, Option.bind_some, Option.map_some, reduceCtorEq, ldv_true, ldv_false, lloadV_agg, partL, List.toList_toArray, cellsOf_set, cellsOf_new, rd_set, rd_new, List.length_cons, List.length_nil, Nat.reduceAdd, Nat.reduceLeDiff, Nat.le_refl, List.take_succ_cons, List.take_zero, List.drop_zero, Nat.add_eq_left, Nat.left_eq_add, List.getElem?_cons_zero, List.getElem?_cons_succ, aN44]; rw [retQ_some]; simp only [oneOr]
    exact ⟨rfl, false, rfl, by simp [hn]⟩
  by_cases h3 : x.color < 1
  · have hn : ¬ RightP x := fun h => by have := h.1.2.2.1; omega
    simp only [guard_undef, List.contains_cons, List.contains_nil, Nat.reduceBEq, Int.cast_ofNat_Int, and_self, k_pend_g, pendV, go_sem, i64_wrap_id, Int.reduceAdd, Int.reduceSub, Int.reduceNeg, Int.reduceMul, Nat.reduceSub, Nat.reduceEqDiff, Nat.reduceAdd, Nat.reduceMul, Nat.reduceLeDiff, ↓reduceIte, reduceCtorEq, Int.reduceToNat, Int.reduceLT, Int.reduceLE, Int.reduceEq, aN44, h1, h2, h3]
    refine hQ _ _ _ ?_; (first | rw [k_body_ret] | rw [k_body_normal]); simp only [resVals, resVal, ev, Env.get_put, ↓reduceIte, Nat.reduceEqDiff, Option.bind_some, Option.map_some, reduceCtorEq, ldv_true, ldv_false, lloadV_agg, partL, List.toList_toArray, cellsOf_set, cellsOf_new, rd_set, rd_new, List.length_cons, List.length_nil, Nat.reduceAdd, Nat.reduceLeDiff, Nat.le_refl, List.take_succ_cons, List.take_zero, List.drop_zero, Nat.add_eq_left, Nat.left_eq_add, List.getElem?_cons_zero, List.getElem?_cons_succ, aN44]; rw [retQ_some]; simp only [oneOr]
    exact ⟨rfl, false, rfl, by simp [hn]⟩
  by_cases h4 : x.color > 16777216
  · have hn : ¬ RightP x := fun h => by have := h.1.2.2.2; omega
    simp only [guard_undef, List.contains_cons, List.contains_nil, Nat.reduceBEq, Int.cast_ofNat_Int, and_self, k_pend_g, pendV, go_sem, i64_wrap_id, Int.reduceAdd, Int.reduceSub, Int.reduceNeg, Int.reduceMul, Nat.reduceSub, Nat.reduceEqDiff, Nat.reduceAdd, Nat.reduceMul, Nat.reduceLeDiff, ↓reduceIte, reduceCtorEq, Int.reduceToNat, Int.reduceLT, Int.reduceLE, Int.reduceEq, aN44, h1, h2, h3, h4]
    refine hQ _ _ _ ?_; (first | rw [k_body_ret] | rw [k_body_normal]); simp only [resVals, resVal, ev, Env.get_put, ↓reduceIte, Nat.reduceEqDiff, Option.bind_some, Option.map_some, reduceCtorEq, ldv_true, ldv_false, lloadV_agg, partL, List.toList_toArray, cellsOf_set, cellsOf_new, rd_set, rd_new, List.length_cons, List.length_nil, Nat.reduceAdd, Nat.reduceLeDiff, Nat.le_refl, List.take_succ_cons, List.take_zero, List.drop_zero, Nat.add_eq_left, Nat.left_eq_add, List.getElem?_cons_zero, List.getElem?_cons_succ, aN44]; rw [retQ_some]; simp only [oneOr]
    exact ⟨rfl, false, rfl, by simp [hn]⟩
  simp only [guard_undef, List.contains_cons, List.contains_nil, Nat.reduceBEq, Int.cast_ofNat_Int, and_self, k_pend_g, pendV, go_sem, i64_wrap_id, Int.reduceAdd, Int.reduceSub, Int.reduceNeg, Int.reduceMul, Nat.reduceSub, Nat.reduceEqDiff, Nat.reduceAdd, Nat.reduceMul, Nat.reduceLeDiff, ↓reduceIte, reduceCtorEq, Int.reduceToNat, Int.reduceLT, Int.reduceLE, Int.reduceEq, aN44, h1, h2, h3, h4]
  refine cK_of (fits77 x.r S) ?_
  rintro v1 S' hS hL' ⟨rfl, rfl⟩
  cases hb1 : x.r.fitB
  · have hn : ¬ RightP x := fun h => by have := x.r.fitB_iff.2 h.2.1.1; rw [hb1] at this; cases this
    simp only [guard_undef, List.contains_cons, List.contains_nil, Nat.reduceBEq, Int.cast_ofNat_Int, and_self, k_pend_g, pendV, go_sem, i64_wrap_id, Int.reduceAdd, Int.reduceSub, Int.reduceNeg, Int.reduceMul, Nat.reduceSub, Nat.reduceEqDiff, Nat.reduceAdd, Nat.reduceMul, Nat.reduceLeDiff, ↓reduceIte, reduceCtorEq, Int.reduceToNat, Int.reduceLT, Int.reduceLE, Int.reduceEq]
    refine hQ _ _ _ ?_; (first | rw [k_body_ret] | rw [k_body_normal]); simp only [resVals, resVal, ev, Env.get_put, ↓reduceIte, Nat.reduceEqDiff, Option.bind_some, Option.map_some, reduceCtorEq, ldv_true, ldv_false, lloadV_agg, partL, List.toList_toArray, cellsOf_set, cellsOf_new, rd_set, rd_new, List.length_cons, List.length_nil, Nat.reduceAdd, Nat.reduceLeDiff, Nat.le_refl, List.take_succ_cons, List.take_zero, List.drop_zero, Nat.add_eq_left, Nat.left_eq_add, List.getElem?_cons_zero, List.getElem?_cons_succ, aN44]; rw [retQ_some]; simp only [oneOr]
    exact ⟨rfl, false, rfl, by simp [hn]⟩
  simp only [guard_undef, List.contains_cons, List.contains_nil, Nat.reduceBEq, Int.cast_ofNat_Int, and_self, k_pend_g, pendV, go_sem, i64_wrap_id, Int.reduceAdd, Int.reduceSub, Int.reduceNeg, Int.reduceMul, Nat.reduceSub, Nat.reduceEqDiff, Nat.reduceAdd, Nat.reduceMul, Nat.reduceLeDiff, ↓reduceIte, reduceCtorEq, Int.reduceToNat, Int.reduceLT, Int.reduceLE, Int.reduceEq]
  refine cK_of (fits77 x.h _) ?_
  rintro v2 S' hS hL' ⟨rfl, rfl⟩
  cases hb2 : x.h.fitB
  · have hn : ¬ RightP x := fun h => by have := x.h.fitB_iff.2 h.2.1.2.1; rw [hb2] at this; cases this
    simp only [guard_undef, List.contains_cons, List.contains_nil, Nat.reduceBEq, Int.cast_ofNat_Int, and_self, k_pend_g, pendV, go_sem, i64_wrap_id, Int.reduceAdd, Int.reduceSub, Int.reduceNeg, Int.reduceMul, Nat.reduceSub, Nat.reduceEqDiff, Nat.reduceAdd, Nat.reduceMul, Nat.reduceLeDiff, ↓reduceIte, reduceCtorEq, Int.reduceToNat, Int.reduceLT, Int.reduceLE, Int.reduceEq]
    refine hQ _ _ _ ?_; (first | rw [k_body_ret] | rw [k_body_normal]); simp only [resVals, resVal, ev, Env.get_put, ↓reduceIte, Nat.reduceEqDiff, Option.bind_some, Option.map_some, reduceCtorEq, ldv_true, ldv_false, lloadV_agg, partL, List.toList_toArray, cellsOf_set, cellsOf_new, rd_set, rd_new, List.length_cons, List.length_nil, Nat.reduceAdd, Nat.reduceLeDiff, Nat.le_refl, List.take_succ_cons, List.take_zero, List.drop_zero, Nat.add_eq_left, Nat.left_eq_add, List.getElem?_cons_zero, List.getElem?_cons_succ, aN44]; rw [retQ_some]; simp only [oneOr]
    exact ⟨rfl, false, rfl, by simp [hn]⟩
  simp only [guard_undef, List.contains_cons, List.contains_nil, Nat.reduceBEq, Int.cast_ofNat_Int, and_self, k_pend_g, pendV, go_sem, i64_wrap_id, Int.reduceAdd, Int.reduceSub, Int.reduceNeg, Int.reduceMul, Nat.reduceSub, Nat.reduceEqDiff, Nat.reduceAdd, Nat.reduceMul, Nat.reduceLeDiff, ↓reduceIte, reduceCtorEq, Int.reduceToNat, Int.reduceLT, Int.reduceLE, Int.reduceEq]
  refine cK_of (fits77 x.c _) ?_
  rintro v3 S' hS hL' ⟨rfl, rfl⟩
  cases hb3 : x.c.fitB
  · have hn : ¬ RightP x := fun h => by have := x.c.fitB_iff.2 h.2.1.2.2; rw [hb3] at this; cases this
    simp only [guard_undef, List.contains_cons, List.contains_nil, Nat.reduceBEq, Int.cast_ofNat_Int, and_self, k_pend_g, pendV, go_sem, i64_wrap_id, Int.reduceAdd, Int.reduceSub, Int.reduceNeg, Int.reduceMul, Nat.reduceSub, Nat.reduceEqDiff, Nat.reduceAdd, Nat.reduceMul, Nat.reduceLeDiff, ↓reduceIte, reduceCtorEq, Int.reduceToNat, Int.reduceLT, Int.reduceLE, Int.reduceEq]
    refine hQ _ _ _ ?_; (first | rw [k_body_ret] | rw [k_body_normal]); simp only [resVals, resVal, ev, Env.get_put, ↓reduceIte, Nat.reduceEqDiff, Option.bind_some, Option.map_some, reduceCtorEq, ldv_true, ldv_false, lloadV_agg, partL, List.toList_toArray, cellsOf_set, cellsOf_new, rd_set, rd_new, List.length_cons, List.length_nil, Nat.reduceAdd, Nat.reduceLeDiff, Nat.le_refl, List.take_succ_cons, List.take_zero, List.drop_zero, Nat.add_eq_left, Nat.left_eq_add, List.getElem?_cons_zero, List.getElem?_cons_succ, aN44]; rw [retQ_some]; simp only [oneOr]
    exact ⟨rfl, false, rfl, by simp [hn]⟩
  have hbase : (0 ≤ x.node ∧ x.node ≤ 65535 ∧ 1 ≤ x.color ∧ x.color ≤ 16777216) ∧ (x.r.Fit ∧ x.h.Fit ∧ x.c.Fit) := ⟨⟨by omega, by omega, by omega, by omega⟩, x.r.fitB_iff.1 hb1, x.h.fitB_iff.1 hb2, x.c.fitB_iff.1 hb3⟩
  have hz := zeroR_iff x.h
  simp only [Bool.and_true] at hz
  by_cases h5 : x.kind = 1
  · have hn : RightP x := ⟨hbase.1, hbase.2, .inl h5⟩
    simp only [guard_undef, List.contains_cons, List.contains_nil, Nat.reduceBEq, Int.cast_ofNat_Int, and_self, k_pend_g, pendV, go_sem, i64_wrap_id, Int.reduceAdd, Int.reduceSub, Int.reduceNeg, Int.reduceMul, Nat.reduceSub, Nat.reduceEqDiff, Nat.reduceAdd, Nat.reduceMul, Nat.reduceLeDiff, ↓reduceIte, reduceCtorEq, Int.reduceToNat, Int.reduceLT, Int.reduceLE, Int.reduceEq, h5]
    refine hQ _ _ _ ?_; (first | rw [k_body_ret] | rw [k_body_normal]); simp only [resVals, resVal, ev, Env.get_put, ↓reduceIte, Nat.reduceEqDiff, Option.bind_some, Option.map_some, reduceCtorEq, ldv_true, ldv_false, lloadV_agg, partL, List.toList_toArray, cellsOf_set, cellsOf_new, rd_set, rd_new, List.length_cons, List.length_nil, Nat.reduceAdd, Nat.reduceLeDiff, Nat.le_refl, List.take_succ_cons, List.take_zero, List.drop_zero, Nat.add_eq_left, Nat.left_eq_add, List.getElem?_cons_zero, List.getElem?_cons_succ, aN44]; rw [retQ_some]; simp only [oneOr]
    exact ⟨rfl, true, rfl, by simp [hn]⟩
  by_cases h6 : x.kind = 0
  · simp only [guard_undef, List.contains_cons, List.contains_nil, Nat.reduceBEq, Int.cast_ofNat_Int, and_self, k_pend_g, pendV, go_sem, i64_wrap_id, Int.reduceAdd, Int.reduceSub, Int.reduceNeg, Int.reduceMul, Nat.reduceSub, Nat.reduceEqDiff, Nat.reduceAdd, Nat.reduceMul, Nat.reduceLeDiff, ↓reduceIte, reduceCtorEq, Int.reduceToNat, Int.reduceLT, Int.reduceLE, Int.reduceEq, h6, Int.reduceBEq, flatEq4]
    refine hQ _ _ _ ?_; (first | rw [k_body_ret] | rw [k_body_normal]); simp only [resVals, resVal, ev, Env.get_put, ↓reduceIte, Nat.reduceEqDiff, Option.bind_some, Option.map_some, reduceCtorEq, ldv_true, ldv_false, lloadV_agg, partL, List.toList_toArray, cellsOf_set, cellsOf_new, rd_set, rd_new, List.length_cons, List.length_nil, Nat.reduceAdd, Nat.reduceLeDiff, Nat.le_refl, List.take_succ_cons, List.take_zero, List.drop_zero, Nat.add_eq_left, Nat.left_eq_add, List.getElem?_cons_zero, List.getElem?_cons_succ, aN44]; rw [retQ_some]; simp only [oneOr]
    refine ⟨rfl, _, rfl, ?_⟩
    rw [hz]
    exact ⟨fun h => ⟨hbase.1, hbase.2, .inr ⟨h6, h⟩⟩, fun h => by rcases h.2.2 with hk | hk; exact absurd hk h5; exact hk.2⟩
  · have hn : ¬ RightP x := fun h => by rcases h.2.2 with hk | hk; exact h5 hk; exact h6 hk.1
    simp only [guard_undef, List.contains_cons, List.contains_nil, Nat.reduceBEq, Int.cast_ofNat_Int, and_self, k_pend_g, pendV, go_sem, i64_wrap_id, Int.reduceAdd, Int.reduceSub, Int.reduceNeg, Int.reduceMul, Nat.reduceSub, Nat.reduceEqDiff, Nat.reduceAdd, Nat.reduceMul, Nat.reduceLeDiff, ↓reduceIte, reduceCtorEq, Int.reduceToNat, Int.reduceLT, Int.reduceLE, Int.reduceEq, show (x.kind == 1) = false by simpa using h5, show (x.kind == 0) = false by simpa using h6]
    refine hQ _ _ _ ?_; (first | rw [k_body_ret] | rw [k_body_normal]); simp only [resVals, resVal, ev, Env.get_put, ↓reduceIte, Nat.reduceEqDiff, Option.bind_some, Option.map_some, reduceCtorEq, ldv_true, ldv_false, lloadV_agg, partL, List.toList_toArray, cellsOf_set, cellsOf_new, rd_set, rd_new, List.length_cons, List.length_nil, Nat.reduceAdd, Nat.reduceLeDiff, Nat.le_refl, List.take_succ_cons, List.take_zero, List.drop_zero, Nat.add_eq_left, Nat.left_eq_add, List.getElem?_cons_zero, List.getElem?_cons_succ, aN44]; rw [retQ_some]; simp only [oneOr]
    exact ⟨rfl, false, rfl, by simp [hn]⟩

set_option maxHeartbeats 1000000 in
theorem right43 (x : Itm) (S : St) : ACalls Try.prog 43 [.agg x.cells.toArray] S (BoolIs (RightP x) S) := by
  refine ACalls.run hmix Try.func43 cN43 kN43 rfl fun hL Q hQ => ?_
  unfold Itm.cells
  have hno : ∀ r : Rc, (r = x.r ∨ r = x.h ∨ r = x.c) → r.fitB = false → ¬ RightP x := by
    intro r hr hf h
    have : r.Fit := by rcases hr with rfl | rfl | rfl; exact h.2.1.1; exact h.2.1.2.1; exact h.2.1.2.2
    rw [← Rc.fitB_iff, hf] at this
    cases this
  simp only [guard_undef, List.contains_cons, List.contains_nil, Nat.reduceBEq, Int.cast_ofNat_Int, and_self, k_pend_g, pendV, go_sem, i64_wrap_id, Int.reduceAdd, Int.reduceSub, Int.reduceNeg, Int.reduceMul, Nat.reduceSub, Nat.reduceEqDiff, Nat.reduceAdd, Nat.reduceMul, Nat.reduceLeDiff, ↓reduceIte, reduceCtorEq, Int.reduceToNat, Int.reduceLT, Int.reduceLE, Int.reduceEq, aN43]
  refine lK_unroll ?_
  simp only [guard_undef, List.contains_cons, List.contains_nil, Nat.reduceBEq, Int.cast_ofNat_Int, and_self, k_pend_g, pendV, go_sem, i64_wrap_id, Int.reduceAdd, Int.reduceSub, Int.reduceNeg, Int.reduceMul, Nat.reduceSub, Nat.reduceEqDiff, Nat.reduceAdd, Nat.reduceMul, Nat.reduceLeDiff, ↓reduceIte, reduceCtorEq, Int.reduceToNat, Int.reduceLT, Int.reduceLE, Int.reduceEq]
  refine cK_of (four75 x.r _) ?_
  rintro w0 S' hS hL' ⟨rfl, rfl⟩
  unfold Rc.cells
  simp only [guard_undef, List.contains_cons, List.contains_nil, Nat.reduceBEq, Int.cast_ofNat_Int, and_self, k_pend_g, pendV, go_sem, i64_wrap_id, Int.reduceAdd, Int.reduceSub, Int.reduceNeg, Int.reduceMul, Nat.reduceSub, Nat.reduceEqDiff, Nat.reduceAdd, Nat.reduceMul, Nat.reduceLeDiff, ↓reduceIte, reduceCtorEq, Int.reduceToNat, Int.reduceLT, Int.reduceLE, Int.reduceEq]
  refine lK_unroll ?_
  simp only [guard_undef, List.contains_cons, List.contains_nil, Nat.reduceBEq, Int.cast_ofNat_Int, and_self, k_pend_g, pendV, go_sem, i64_wrap_id, Int.reduceAdd, Int.reduceSub, Int.reduceNeg, Int.reduceMul, Nat.reduceSub, Nat.reduceEqDiff, Nat.reduceAdd, Nat.reduceMul, Nat.reduceLeDiff, ↓reduceIte, reduceCtorEq, Int.reduceToNat, Int.reduceLT, Int.reduceLE, Int.reduceEq]
  refine cK_of (fits76 x.r.a _) ?_
  rintro v00 S' hS hL' ⟨rfl, rfl⟩
  cases hb00 : fitB x.r.a
  · have hn := hno x.r (by simp) (by simp [Rc.fitB, hb00])
    simp only [guard_undef, List.contains_cons, List.contains_nil, Nat.reduceBEq, Int.cast_ofNat_Int, and_self, k_pend_g, pendV, go_sem, i64_wrap_id, Int.reduceAdd, Int.reduceSub, Int.reduceNeg, Int.reduceMul, Nat.reduceSub, Nat.reduceEqDiff, Nat.reduceAdd, Nat.reduceMul, Nat.reduceLeDiff, ↓reduceIte, reduceCtorEq, Int.reduceToNat, Int.reduceLT, Int.reduceLE, Int.reduceEq]
    refine hQ _ _ _ ?_; (first | rw [k_body_ret] | rw [k_body_normal]); simp only [resVals, resVal, ev, Env.get_put, ↓reduceIte, Nat.reduceEqDiff, Option.bind_some, Option.map_some, reduceCtorEq, ldv_true, ldv_false, lloadV_agg, partL, List.toList_toArray, cellsOf_set, cellsOf_new, rd_set, rd_new, List.length_cons, List.length_nil, Nat.reduceAdd, Nat.reduceLeDiff, Nat.le_refl, List.take_succ_cons, List.take_zero, List.drop_zero, Nat.add_eq_left, Nat.left_eq_add, List.getElem?_cons_zero, List.getElem?_cons_succ, aN43]; rw [retQ_some]; simp only [oneOr]
    exact ⟨rfl, false, rfl, by simp [hn]⟩
  simp only [guard_undef, List.contains_cons, List.contains_nil, Nat.reduceBEq, Int.cast_ofNat_Int, and_self, k_pend_g, pendV, go_sem, i64_wrap_id, Int.reduceAdd, Int.reduceSub, Int.reduceNeg, Int.reduceMul, Nat.reduceSub, Nat.reduceEqDiff, Nat.reduceAdd, Nat.reduceMul, Nat.reduceLeDiff, ↓reduceIte, reduceCtorEq, Int.reduceToNat, Int.reduceLT, Int.reduceLE, Int.reduceEq]
  refine lK_unroll ?_
  simp only [guard_undef, List.contains_cons, List.contains_nil, Nat.reduceBEq, Int.cast_ofNat_Int, and_self, k_pend_g, pendV, go_sem, i64_wrap_id, Int.reduceAdd, Int.reduceSub, Int.reduceNeg, Int.reduceMul, Nat.reduceSub, Nat.reduceEqDiff, Nat.reduceAdd, Nat.reduceMul, Nat.reduceLeDiff, ↓reduceIte, reduceCtorEq, Int.reduceToNat, Int.reduceLT, Int.reduceLE, Int.reduceEq]
  refine cK_of (fits76 x.r.b _) ?_
  rintro v01 S' hS hL' ⟨rfl, rfl⟩
  cases hb01 : fitB x.r.b
  · have hn := hno x.r (by simp) (by simp [Rc.fitB, hb00, hb01])
    simp only [guard_undef, List.contains_cons, List.contains_nil, Nat.reduceBEq, Int.cast_ofNat_Int, and_self, k_pend_g, pendV, go_sem, i64_wrap_id, Int.reduceAdd, Int.reduceSub, Int.reduceNeg, Int.reduceMul, Nat.reduceSub, Nat.reduceEqDiff, Nat.reduceAdd, Nat.reduceMul, Nat.reduceLeDiff, ↓reduceIte, reduceCtorEq, Int.reduceToNat, Int.reduceLT, Int.reduceLE, Int.reduceEq]
    refine hQ _ _ _ ?_; (first | rw [k_body_ret] | rw [k_body_normal]); simp only [resVals, resVal, ev, Env.get_put, ↓reduceIte, Nat.reduceEqDiff, Option.bind_some, Option.map_some, reduceCtorEq, ldv_true, ldv_false, lloadV_agg, partL, List.toList_toArray, cellsOf_set, cellsOf_new, rd_set, rd_new, List.length_cons, List.length_nil, Nat.reduceAdd, Nat.reduceLeDiff, Nat.le_refl, List.take_succ_cons, List.take_zero, List.drop_zero, Nat.add_eq_left, Nat.left_eq_add, List.getElem?_cons_zero, List.getElem?_cons_succ, aN43]; rw [retQ_some]; simp only [oneOr]
    exact ⟨rfl, false, rfl, by simp [hn]⟩
  simp only [guard_undef, List.contains_cons, List.contains_nil, Nat.reduceBEq, Int.cast_ofNat_Int, and_self, k_pend_g, pendV, go_sem, i64_wrap_id, Int.reduceAdd, Int.reduceSub, Int.reduceNeg, Int.reduceMul, Nat.reduceSub, Nat.reduceEqDiff, Nat.reduceAdd, Nat.reduceMul, Nat.reduceLeDiff, ↓reduceIte, reduceCtorEq, Int.reduceToNat, Int.reduceLT, Int.reduceLE, Int.reduceEq]
  refine lK_unroll ?_
  simp only [guard_undef, List.contains_cons, List.contains_nil, Nat.reduceBEq, Int.cast_ofNat_Int, and_self, k_pend_g, pendV, go_sem, i64_wrap_id, Int.reduceAdd, Int.reduceSub, Int.reduceNeg, Int.reduceMul, Nat.reduceSub, Nat.reduceEqDiff, Nat.reduceAdd, Nat.reduceMul, Nat.reduceLeDiff, ↓reduceIte, reduceCtorEq, Int.reduceToNat, Int.reduceLT, Int.reduceLE, Int.reduceEq]
  refine cK_of (fits76 x.r.c _) ?_
  rintro v02 S' hS hL' ⟨rfl, rfl⟩
  cases hb02 : fitB x.r.c
  · have hn := hno x.r (by simp) (by simp [Rc.fitB, hb00, hb01, hb02])
    simp only [guard_undef, List.contains_cons, List.contains_nil, Nat.reduceBEq, Int.cast_ofNat_Int, and_self, k_pend_g, pendV, go_sem, i64_wrap_id, Int.reduceAdd, Int.reduceSub, Int.reduceNeg, Int.reduceMul, Nat.reduceSub, Nat.reduceEqDiff, Nat.reduceAdd, Nat.reduceMul, Nat.reduceLeDiff, ↓reduceIte, reduceCtorEq, Int.reduceToNat, Int.reduceLT, Int.reduceLE, Int.reduceEq]
    refine hQ _ _ _ ?_; (first | rw [k_body_ret] | rw [k_body_normal]); simp only [resVals, resVal, ev, Env.get_put, ↓reduceIte, Nat.reduceEqDiff, Option.bind_some, Option.map_some, reduceCtorEq, ldv_true, ldv_false, lloadV_agg, partL, List.toList_toArray, cellsOf_set, cellsOf_new, rd_set, rd_new, List.length_cons, List.length_nil, Nat.reduceAdd, Nat.reduceLeDiff, Nat.le_refl, List.take_succ_cons, List.take_zero, List.drop_zero, Nat.add_eq_left, Nat.left_eq_add, List.getElem?_cons_zero, List.getElem?_cons_succ, aN43]; rw [retQ_some]; simp only [oneOr]
    exact ⟨rfl, false, rfl, by simp [hn]⟩
  simp only [guard_undef, List.contains_cons, List.contains_nil, Nat.reduceBEq, Int.cast_ofNat_Int, and_self, k_pend_g, pendV, go_sem, i64_wrap_id, Int.reduceAdd, Int.reduceSub, Int.reduceNeg, Int.reduceMul, Nat.reduceSub, Nat.reduceEqDiff, Nat.reduceAdd, Nat.reduceMul, Nat.reduceLeDiff, ↓reduceIte, reduceCtorEq, Int.reduceToNat, Int.reduceLT, Int.reduceLE, Int.reduceEq]
  refine lK_unroll ?_
  simp only [guard_undef, List.contains_cons, List.contains_nil, Nat.reduceBEq, Int.cast_ofNat_Int, and_self, k_pend_g, pendV, go_sem, i64_wrap_id, Int.reduceAdd, Int.reduceSub, Int.reduceNeg, Int.reduceMul, Nat.reduceSub, Nat.reduceEqDiff, Nat.reduceAdd, Nat.reduceMul, Nat.reduceLeDiff, ↓reduceIte, reduceCtorEq, Int.reduceToNat, Int.reduceLT, Int.reduceLE, Int.reduceEq]
  refine cK_of (fits76 x.r.d _) ?_
  rintro v03 S' hS hL' ⟨rfl, rfl⟩
  cases hb03 : fitB x.r.d
  · have hn := hno x.r (by simp) (by simp [Rc.fitB, hb00, hb01, hb02, hb03])
    simp only [guard_undef, List.contains_cons, List.contains_nil, Nat.reduceBEq, Int.cast_ofNat_Int, and_self, k_pend_g, pendV, go_sem, i64_wrap_id, Int.reduceAdd, Int.reduceSub, Int.reduceNeg, Int.reduceMul, Nat.reduceSub, Nat.reduceEqDiff, Nat.reduceAdd, Nat.reduceMul, Nat.reduceLeDiff, ↓reduceIte, reduceCtorEq, Int.reduceToNat, Int.reduceLT, Int.reduceLE, Int.reduceEq]
    refine hQ _ _ _ ?_; (first | rw [k_body_ret] | rw [k_body_normal]); simp only [resVals, resVal, ev, Env.get_put, ↓reduceIte, Nat.reduceEqDiff, Option.bind_some, Option.map_some, reduceCtorEq, ldv_true, ldv_false, lloadV_agg, partL, List.toList_toArray, cellsOf_set, cellsOf_new, rd_set, rd_new, List.length_cons, List.length_nil, Nat.reduceAdd, Nat.reduceLeDiff, Nat.le_refl, List.take_succ_cons, List.take_zero, List.drop_zero, Nat.add_eq_left, Nat.left_eq_add, List.getElem?_cons_zero, List.getElem?_cons_succ, aN43]; rw [retQ_some]; simp only [oneOr]
    exact ⟨rfl, false, rfl, by simp [hn]⟩
  simp only [guard_undef, List.contains_cons, List.contains_nil, Nat.reduceBEq, Int.cast_ofNat_Int, and_self, k_pend_g, pendV, go_sem, i64_wrap_id, Int.reduceAdd, Int.reduceSub, Int.reduceNeg, Int.reduceMul, Nat.reduceSub, Nat.reduceEqDiff, Nat.reduceAdd, Nat.reduceMul, Nat.reduceLeDiff, ↓reduceIte, reduceCtorEq, Int.reduceToNat, Int.reduceLT, Int.reduceLE, Int.reduceEq]
  refine lK_unroll ?_
  simp only [guard_undef, List.contains_cons, List.contains_nil, Nat.reduceBEq, Int.cast_ofNat_Int, and_self, k_pend_g, pendV, go_sem, i64_wrap_id, Int.reduceAdd, Int.reduceSub, Int.reduceNeg, Int.reduceMul, Nat.reduceSub, Nat.reduceEqDiff, Nat.reduceAdd, Nat.reduceMul, Nat.reduceLeDiff, ↓reduceIte, reduceCtorEq, Int.reduceToNat, Int.reduceLT, Int.reduceLE, Int.reduceEq]
  have hf0 : x.r.Fit := by rw [← Rc.fitB_iff]; simp [Rc.fitB, hb00, hb01, hb02, hb03]
  (first | refine cK_keep [1,2,13,14] fun t1 hk' => ?_ | refine lK_keep [1,2,13,14] fun t1 hk' => ?_ | refine iK_keep [1,2,13,14] fun t1 hk' => ?_ | refine hK_keep [1,2,13,14] fun t1 hk' => ?_); simp only [guard_undef, List.contains_cons, List.contains_nil, Nat.reduceBEq, Int.cast_ofNat_Int, and_self, k_pend_g, pendV, go_sem, i64_wrap_id, Int.reduceAdd, Int.reduceSub, Int.reduceNeg, Int.reduceMul, Nat.reduceSub, Nat.reduceEqDiff, Nat.reduceAdd, Nat.reduceMul, Nat.reduceLeDiff, ↓reduceIte, reduceCtorEq, Int.reduceToNat, Int.reduceLT, Int.reduceLE, Int.reduceEq, keepL_cons, keepL_nil, slots_cons, slots_nil] at hk'; have hk := hk'; clear hk'
  refine lK_unroll ?_
  simp only [guard_undef, List.contains_cons, List.contains_nil, Nat.reduceBEq, Int.cast_ofNat_Int, and_self, k_pend_g, pendV, go_sem, i64_wrap_id, Int.reduceAdd, Int.reduceSub, Int.reduceNeg, Int.reduceMul, Nat.reduceSub, Nat.reduceEqDiff, Nat.reduceAdd, Nat.reduceMul, Nat.reduceLeDiff, ↓reduceIte, reduceCtorEq, Int.reduceToNat, Int.reduceLT, Int.reduceLE, Int.reduceEq, hk]
  refine cK_of (four75 x.h _) ?_
  rintro w1 S' hS hL' ⟨rfl, rfl⟩
  unfold Rc.cells
  simp only [guard_undef, List.contains_cons, List.contains_nil, Nat.reduceBEq, Int.cast_ofNat_Int, and_self, k_pend_g, pendV, go_sem, i64_wrap_id, Int.reduceAdd, Int.reduceSub, Int.reduceNeg, Int.reduceMul, Nat.reduceSub, Nat.reduceEqDiff, Nat.reduceAdd, Nat.reduceMul, Nat.reduceLeDiff, ↓reduceIte, reduceCtorEq, Int.reduceToNat, Int.reduceLT, Int.reduceLE, Int.reduceEq, hk]
  refine lK_unroll ?_
  simp only [guard_undef, List.contains_cons, List.contains_nil, Nat.reduceBEq, Int.cast_ofNat_Int, and_self, k_pend_g, pendV, go_sem, i64_wrap_id, Int.reduceAdd, Int.reduceSub, Int.reduceNeg, Int.reduceMul, Nat.reduceSub, Nat.reduceEqDiff, Nat.reduceAdd, Nat.reduceMul, Nat.reduceLeDiff, ↓reduceIte, reduceCtorEq, Int.reduceToNat, Int.reduceLT, Int.reduceLE, Int.reduceEq, hk]
  refine cK_of (fits76 x.h.a _) ?_
  rintro v10 S' hS hL' ⟨rfl, rfl⟩
  cases hb10 : fitB x.h.a
  · have hn := hno x.h (by simp) (by simp [Rc.fitB, hb10])
    simp only [guard_undef, List.contains_cons, List.contains_nil, Nat.reduceBEq, Int.cast_ofNat_Int, and_self, k_pend_g, pendV, go_sem, i64_wrap_id, Int.reduceAdd, Int.reduceSub, Int.reduceNeg, Int.reduceMul, Nat.reduceSub, Nat.reduceEqDiff, Nat.reduceAdd, Nat.reduceMul, Nat.reduceLeDiff, ↓reduceIte, reduceCtorEq, Int.reduceToNat, Int.reduceLT, Int.reduceLE, Int.reduceEq, hk]
    refine hQ _ _ _ ?_; (first | rw [k_body_ret] | rw [k_body_normal]); simp only [resVals, resVal, ev, Env.get_put, ↓reduceIte, Nat.reduceEqDiff, Option.bind_some, Option.map_some, reduceCtorEq, ldv_true, ldv_false, lloadV_agg, partL, List.toList_toArray, cellsOf_set, cellsOf_new, rd_set, rd_new, List.length_cons, List.length_nil, Nat.reduceAdd, Nat.reduceLeDiff, Nat.le_refl, List.take_succ_cons, List.take_zero, List.drop_zero, Nat.add_eq_left, Nat.left_eq_add, List.getElem?_cons_zero, List.getElem?_cons_succ, aN43, hk]; rw [retQ_some]; simp only [oneOr]
    exact ⟨rfl, false, rfl, by simp [hn]⟩
  simp only [guard_undef, List.contains_cons, List.contains_nil, Nat.reduceBEq, Int.cast_ofNat_Int, and_self, k_pend_g, pendV, go_sem, i64_wrap_id, Int.reduceAdd, Int.reduceSub, Int.reduceNeg, Int.reduceMul, Nat.reduceSub, Nat.reduceEqDiff, Nat.reduceAdd, Nat.reduceMul, Nat.reduceLeDiff, ↓reduceIte, reduceCtorEq, Int.reduceToNat, Int.reduceLT, Int.reduceLE, Int.reduceEq, hk]
  refine lK_unroll ?_
  simp only [guard_undef, List.contains_cons, List.contains_nil, Nat.reduceBEq, Int.cast_ofNat_Int, and_self, k_pend_g, pendV, go_sem, i64_wrap_id, Int.reduceAdd, Int.reduceSub, Int.reduceNeg, Int.reduceMul, Nat.reduceSub, Nat.reduceEqDiff, Nat.reduceAdd, Nat.reduceMul, Nat.reduceLeDiff, ↓reduceIte, reduceCtorEq, Int.reduceToNat, Int.reduceLT, Int.reduceLE, Int.reduceEq, hk]
  refine cK_of (fits76 x.h.b _) ?_
  rintro v11 S' hS hL' ⟨rfl, rfl⟩
  cases hb11 : fitB x.h.b
  · have hn := hno x.h (by simp) (by simp [Rc.fitB, hb10, hb11])
    simp only [guard_undef, List.contains_cons, List.contains_nil, Nat.reduceBEq, Int.cast_ofNat_Int, and_self, k_pend_g, pendV, go_sem, i64_wrap_id, Int.reduceAdd, Int.reduceSub, Int.reduceNeg, Int.reduceMul, Nat.reduceSub, Nat.reduceEqDiff, Nat.reduceAdd, Nat.reduceMul, Nat.reduceLeDiff, ↓reduceIte, reduceCtorEq, Int.reduceToNat, Int.reduceLT, Int.reduceLE, Int.reduceEq, hk]
    refine hQ _ _ _ ?_; (first | rw [k_body_ret] | rw [k_body_normal]); simp only [resVals, resVal, ev, Env.get_put, ↓reduceIte, Nat.reduceEqDiff, Option.bind_some, Option.map_some, reduceCtorEq, ldv_true, ldv_false, lloadV_agg, partL, List.toList_toArray, cellsOf_set, cellsOf_new, rd_set, rd_new, List.length_cons, List.length_nil, Nat.reduceAdd, Nat.reduceLeDiff, Nat.le_refl, List.take_succ_cons, List.take_zero, List.drop_zero, Nat.add_eq_left, Nat.left_eq_add, List.getElem?_cons_zero, List.getElem?_cons_succ, aN43, hk]; rw [retQ_some]; simp only [oneOr]
    exact ⟨rfl, false, rfl, by simp [hn]⟩
  simp only [guard_undef, List.contains_cons, List.contains_nil, Nat.reduceBEq, Int.cast_ofNat_Int, and_self, k_pend_g, pendV, go_sem, i64_wrap_id, Int.reduceAdd, Int.reduceSub, Int.reduceNeg, Int.reduceMul, Nat.reduceSub, Nat.reduceEqDiff, Nat.reduceAdd, Nat.reduceMul, Nat.reduceLeDiff, ↓reduceIte, reduceCtorEq, Int.reduceToNat, Int.reduceLT, Int.reduceLE, Int.reduceEq, hk]
  refine lK_unroll ?_
  simp only [guard_undef, List.contains_cons, List.contains_nil, Nat.reduceBEq, Int.cast_ofNat_Int, and_self, k_pend_g, pendV, go_sem, i64_wrap_id, Int.reduceAdd, Int.reduceSub, Int.reduceNeg, Int.reduceMul, Nat.reduceSub, Nat.reduceEqDiff, Nat.reduceAdd, Nat.reduceMul, Nat.reduceLeDiff, ↓reduceIte, reduceCtorEq, Int.reduceToNat, Int.reduceLT, Int.reduceLE, Int.reduceEq, hk]
  refine cK_of (fits76 x.h.c _) ?_
  rintro v12 S' hS hL' ⟨rfl, rfl⟩
  cases hb12 : fitB x.h.c
  · have hn := hno x.h (by simp) (by simp [Rc.fitB, hb10, hb11, hb12])
    simp only [guard_undef, List.contains_cons, List.contains_nil, Nat.reduceBEq, Int.cast_ofNat_Int, and_self, k_pend_g, pendV, go_sem, i64_wrap_id, Int.reduceAdd, Int.reduceSub, Int.reduceNeg, Int.reduceMul, Nat.reduceSub, Nat.reduceEqDiff, Nat.reduceAdd, Nat.reduceMul, Nat.reduceLeDiff, ↓reduceIte, reduceCtorEq, Int.reduceToNat, Int.reduceLT, Int.reduceLE, Int.reduceEq, hk]
    refine hQ _ _ _ ?_; (first | rw [k_body_ret] | rw [k_body_normal]); simp only [resVals, resVal, ev, Env.get_put, ↓reduceIte, Nat.reduceEqDiff, Option.bind_some, Option.map_some, reduceCtorEq, ldv_true, ldv_false, lloadV_agg, partL, List.toList_toArray, cellsOf_set, cellsOf_new, rd_set, rd_new, List.length_cons, List.length_nil, Nat.reduceAdd, Nat.reduceLeDiff, Nat.le_refl, List.take_succ_cons, List.take_zero, List.drop_zero, Nat.add_eq_left, Nat.left_eq_add, List.getElem?_cons_zero, List.getElem?_cons_succ, aN43, hk]; rw [retQ_some]; simp only [oneOr]
    exact ⟨rfl, false, rfl, by simp [hn]⟩
  simp only [guard_undef, List.contains_cons, List.contains_nil, Nat.reduceBEq, Int.cast_ofNat_Int, and_self, k_pend_g, pendV, go_sem, i64_wrap_id, Int.reduceAdd, Int.reduceSub, Int.reduceNeg, Int.reduceMul, Nat.reduceSub, Nat.reduceEqDiff, Nat.reduceAdd, Nat.reduceMul, Nat.reduceLeDiff, ↓reduceIte, reduceCtorEq, Int.reduceToNat, Int.reduceLT, Int.reduceLE, Int.reduceEq, hk]
  refine lK_unroll ?_
  simp only [guard_undef, List.contains_cons, List.contains_nil, Nat.reduceBEq, Int.cast_ofNat_Int, and_self, k_pend_g, pendV, go_sem, i64_wrap_id, Int.reduceAdd, Int.reduceSub, Int.reduceNeg, Int.reduceMul, Nat.reduceSub, Nat.reduceEqDiff, Nat.reduceAdd, Nat.reduceMul, Nat.reduceLeDiff, ↓reduceIte, reduceCtorEq, Int.reduceToNat, Int.reduceLT, Int.reduceLE, Int.reduceEq, hk]
  refine cK_of (fits76 x.h.d _) ?_
  rintro v13 S' hS hL' ⟨rfl, rfl⟩
  cases hb13 : fitB x.h.d
  · have hn := hno x.h (by simp) (by simp [Rc.fitB, hb10, hb11, hb12, hb13])
    simp only [guard_undef, List.contains_cons, List.contains_nil, Nat.reduceBEq, Int.cast_ofNat_Int, and_self, k_pend_g, pendV, go_sem, i64_wrap_id, Int.reduceAdd, Int.reduceSub, Int.reduceNeg, Int.reduceMul, Nat.reduceSub, Nat.reduceEqDiff, Nat.reduceAdd, Nat.reduceMul, Nat.reduceLeDiff, ↓reduceIte, reduceCtorEq, Int.reduceToNat, Int.reduceLT, Int.reduceLE, Int.reduceEq, hk]
    refine hQ _ _ _ ?_; (first | rw [k_body_ret] | rw [k_body_normal]); simp only [resVals, resVal, ev, Env.get_put, ↓reduceIte, Nat.reduceEqDiff, Option.bind_some, Option.map_some, reduceCtorEq, ldv_true, ldv_false, lloadV_agg, partL, List.toList_toArray, cellsOf_set, cellsOf_new, rd_set, rd_new, List.length_cons, List.length_nil, Nat.reduceAdd, Nat.reduceLeDiff, Nat.le_refl, List.take_succ_cons, List.take_zero, List.drop_zero, Nat.add_eq_left, Nat.left_eq_add, List.getElem?_cons_zero, List.getElem?_cons_succ, aN43, hk]; rw [retQ_some]; simp only [oneOr]
    exact ⟨rfl, false, rfl, by simp [hn]⟩
  simp only [guard_undef, List.contains_cons, List.contains_nil, Nat.reduceBEq, Int.cast_ofNat_Int, and_self, k_pend_g, pendV, go_sem, i64_wrap_id, Int.reduceAdd, Int.reduceSub, Int.reduceNeg, Int.reduceMul, Nat.reduceSub, Nat.reduceEqDiff, Nat.reduceAdd, Nat.reduceMul, Nat.reduceLeDiff, ↓reduceIte, reduceCtorEq, Int.reduceToNat, Int.reduceLT, Int.reduceLE, Int.reduceEq, hk]
  refine lK_unroll ?_
  simp only [guard_undef, List.contains_cons, List.contains_nil, Nat.reduceBEq, Int.cast_ofNat_Int, and_self, k_pend_g, pendV, go_sem, i64_wrap_id, Int.reduceAdd, Int.reduceSub, Int.reduceNeg, Int.reduceMul, Nat.reduceSub, Nat.reduceEqDiff, Nat.reduceAdd, Nat.reduceMul, Nat.reduceLeDiff, ↓reduceIte, reduceCtorEq, Int.reduceToNat, Int.reduceLT, Int.reduceLE, Int.reduceEq, hk]
  have hf1 : x.h.Fit := by rw [← Rc.fitB_iff]; simp [Rc.fitB, hb10, hb11, hb12, hb13]
  (first | refine cK_keep [1,2,13,14] fun t1 hk' => ?_ | refine lK_keep [1,2,13,14] fun t1 hk' => ?_ | refine iK_keep [1,2,13,14] fun t1 hk' => ?_ | refine hK_keep [1,2,13,14] fun t1 hk' => ?_); simp only [guard_undef, List.contains_cons, List.contains_nil, Nat.reduceBEq, Int.cast_ofNat_Int, and_self, k_pend_g, pendV, go_sem, i64_wrap_id, Int.reduceAdd, Int.reduceSub, Int.reduceNeg, Int.reduceMul, Nat.reduceSub, Nat.reduceEqDiff, Nat.reduceAdd, Nat.reduceMul, Nat.reduceLeDiff, ↓reduceIte, reduceCtorEq, Int.reduceToNat, Int.reduceLT, Int.reduceLE, Int.reduceEq, keepL_cons, keepL_nil, slots_cons, slots_nil, hk] at hk'; clear hk; have hk := hk'; clear hk'
  refine lK_unroll ?_
  simp only [guard_undef, List.contains_cons, List.contains_nil, Nat.reduceBEq, Int.cast_ofNat_Int, and_self, k_pend_g, pendV, go_sem, i64_wrap_id, Int.reduceAdd, Int.reduceSub, Int.reduceNeg, Int.reduceMul, Nat.reduceSub, Nat.reduceEqDiff, Nat.reduceAdd, Nat.reduceMul, Nat.reduceLeDiff, ↓reduceIte, reduceCtorEq, Int.reduceToNat, Int.reduceLT, Int.reduceLE, Int.reduceEq, hk]
  refine cK_of (four75 x.c _) ?_
  rintro w2 S' hS hL' ⟨rfl, rfl⟩
  unfold Rc.cells
  simp only [guard_undef, List.contains_cons, List.contains_nil, Nat.reduceBEq, Int.cast_ofNat_Int, and_self, k_pend_g, pendV, go_sem, i64_wrap_id, Int.reduceAdd, Int.reduceSub, Int.reduceNeg, Int.reduceMul, Nat.reduceSub, Nat.reduceEqDiff, Nat.reduceAdd, Nat.reduceMul, Nat.reduceLeDiff, ↓reduceIte, reduceCtorEq, Int.reduceToNat, Int.reduceLT, Int.reduceLE, Int.reduceEq, hk]
  refine lK_unroll ?_
  simp only [guard_undef, List.contains_cons, List.contains_nil, Nat.reduceBEq, Int.cast_ofNat_Int, and_self, k_pend_g, pendV, go_sem, i64_wrap_id, Int.reduceAdd, Int.reduceSub, Int.reduceNeg, Int.reduceMul, Nat.reduceSub, Nat.reduceEqDiff, Nat.reduceAdd, Nat.reduceMul, Nat.reduceLeDiff, ↓reduceIte, reduceCtorEq, Int.reduceToNat, Int.reduceLT, Int.reduceLE, Int.reduceEq, hk]
  refine cK_of (fits76 x.c.a _) ?_
  rintro v20 S' hS hL' ⟨rfl, rfl⟩
  cases hb20 : fitB x.c.a
  · have hn := hno x.c (by simp) (by simp [Rc.fitB, hb20])
    simp only [guard_undef, List.contains_cons, List.contains_nil, Nat.reduceBEq, Int.cast_ofNat_Int, and_self, k_pend_g, pendV, go_sem, i64_wrap_id, Int.reduceAdd, Int.reduceSub, Int.reduceNeg, Int.reduceMul, Nat.reduceSub, Nat.reduceEqDiff, Nat.reduceAdd, Nat.reduceMul, Nat.reduceLeDiff, ↓reduceIte, reduceCtorEq, Int.reduceToNat, Int.reduceLT, Int.reduceLE, Int.reduceEq, hk]
    refine hQ _ _ _ ?_; (first | rw [k_body_ret] | rw [k_body_normal]); simp only [resVals, resVal, ev, Env.get_put, ↓reduceIte, Nat.reduceEqDiff, Option.bind_some, Option.map_some, reduceCtorEq, ldv_true, ldv_false, lloadV_agg, partL, List.toList_toArray, cellsOf_set, cellsOf_new, rd_set, rd_new, List.length_cons, List.length_nil, Nat.reduceAdd, Nat.reduceLeDiff, Nat.le_refl, List.take_succ_cons, List.take_zero, List.drop_zero, Nat.add_eq_left, Nat.left_eq_add, List.getElem?_cons_zero, List.getElem?_cons_succ, aN43, hk]; rw [retQ_some]; simp only [oneOr]
    exact ⟨rfl, false, rfl, by simp [hn]⟩
  simp only [guard_undef, List.contains_cons, List.contains_nil, Nat.reduceBEq, Int.cast_ofNat_Int, and_self, k_pend_g, pendV, go_sem, i64_wrap_id, Int.reduceAdd, Int.reduceSub, Int.reduceNeg, Int.reduceMul, Nat.reduceSub, Nat.reduceEqDiff, Nat.reduceAdd, Nat.reduceMul, Nat.reduceLeDiff, ↓reduceIte, reduceCtorEq, Int.reduceToNat, Int.reduceLT, Int.reduceLE, Int.reduceEq, hk]
  refine lK_unroll ?_
  simp only [guard_undef, List.contains_cons, List.contains_nil, Nat.reduceBEq, Int.cast_ofNat_Int, and_self, k_pend_g, pendV, go_sem, i64_wrap_id, Int.reduceAdd, Int.reduceSub, Int.reduceNeg, Int.reduceMul, Nat.reduceSub, Nat.reduceEqDiff, Nat.reduceAdd, Nat.reduceMul, Nat.reduceLeDiff, ↓reduceIte, reduceCtorEq, Int.reduceToNat, Int.reduceLT, Int.reduceLE, Int.reduceEq, hk]
  refine cK_of (fits76 x.c.b _) ?_
  rintro v21 S' hS hL' ⟨rfl, rfl⟩
  cases hb21 : fitB x.c.b
  · have hn := hno x.c (by simp) (by simp [Rc.fitB, hb20, hb21])
    simp only [guard_undef, List.contains_cons, List.contains_nil, Nat.reduceBEq, Int.cast_ofNat_Int, and_self, k_pend_g, pendV, go_sem, i64_wrap_id, Int.reduceAdd, Int.reduceSub, Int.reduceNeg, Int.reduceMul, Nat.reduceSub, Nat.reduceEqDiff, Nat.reduceAdd, Nat.reduceMul, Nat.reduceLeDiff, ↓reduceIte, reduceCtorEq, Int.reduceToNat, Int.reduceLT, Int.reduceLE, Int.reduceEq, hk]
    refine hQ _ _ _ ?_; (first | rw [k_body_ret] | rw [k_body_normal]); simp only [resVals, resVal, ev, Env.get_put, ↓reduceIte, Nat.reduceEqDiff, Option.bind_some, Option.map_some, reduceCtorEq, ldv_true, ldv_false, lloadV_agg, partL, List.toList_toArray, cellsOf_set, cellsOf_new, rd_set, rd_new, List.length_cons, List.length_nil, Nat.reduceAdd, Nat.reduceLeDiff, Nat.le_refl, List.take_succ_cons, List.take_zero, List.drop_zero, Nat.add_eq_left, Nat.left_eq_add, List.getElem?_cons_zero, List.getElem?_cons_succ, aN43, hk]; rw [retQ_some]; simp only [oneOr]
    exact ⟨rfl, false, rfl, by simp [hn]⟩
  simp only [guard_undef, List.contains_cons, List.contains_nil, Nat.reduceBEq, Int.cast_ofNat_Int, and_self, k_pend_g, pendV, go_sem, i64_wrap_id, Int.reduceAdd, Int.reduceSub, Int.reduceNeg, Int.reduceMul, Nat.reduceSub, Nat.reduceEqDiff, Nat.reduceAdd, Nat.reduceMul, Nat.reduceLeDiff, ↓reduceIte, reduceCtorEq, Int.reduceToNat, Int.reduceLT, Int.reduceLE, Int.reduceEq, hk]
  refine lK_unroll ?_
  simp only [guard_undef, List.contains_cons, List.contains_nil, Nat.reduceBEq, Int.cast_ofNat_Int, and_self, k_pend_g, pendV, go_sem, i64_wrap_id, Int.reduceAdd, Int.reduceSub, Int.reduceNeg, Int.reduceMul, Nat.reduceSub, Nat.reduceEqDiff, Nat.reduceAdd, Nat.reduceMul, Nat.reduceLeDiff, ↓reduceIte, reduceCtorEq, Int.reduceToNat, Int.reduceLT, Int.reduceLE, Int.reduceEq, hk]
  refine cK_of (fits76 x.c.c _) ?_
  rintro v22 S' hS hL' ⟨rfl, rfl⟩
  cases hb22 : fitB x.c.c
  · have hn := hno x.c (by simp) (by simp [Rc.fitB, hb20, hb21, hb22])
    simp only [guard_undef, List.contains_cons, List.contains_nil, Nat.reduceBEq, Int.cast_ofNat_Int, and_self, k_pend_g, pendV, go_sem, i64_wrap_id, Int.reduceAdd, Int.reduceSub, Int.reduceNeg, Int.reduceMul, Nat.reduceSub, Nat.reduceEqDiff, Nat.reduceAdd, Nat.reduceMul, Nat.reduceLeDiff, ↓reduceIte, reduceCtorEq, Int.reduceToNat, Int.reduceLT, Int.reduceLE, Int.reduceEq, hk]
    refine hQ _ _ _ ?_; (first | rw [k_body_ret] | rw [k_body_normal]); simp only [resVals, resVal, ev, Env.get_put, ↓reduceIte, Nat.reduceEqDiff, Option.bind_some, Option.map_some, reduceCtorEq, ldv_true, ldv_false, lloadV_agg, partL, List.toList_toArray, cellsOf_set, cellsOf_new, rd_set, rd_new, List.length_cons, List.length_nil, Nat.reduceAdd, Nat.reduceLeDiff, Nat.le_refl, List.take_succ_cons, List.take_zero, List.drop_zero, Nat.add_eq_left, Nat.left_eq_add, List.getElem?_cons_zero, List.getElem?_cons_succ, aN43, hk]; rw [retQ_some]; simp only [oneOr]
    exact ⟨rfl, false, rfl, by simp [hn]⟩
  simp only [guard_undef, List.contains_cons, List.contains_nil, Nat.reduceBEq, Int.cast_ofNat_Int, and_self, k_pend_g, pendV, go_sem, i64_wrap_id, Int.reduceAdd, Int.reduceSub, Int.reduceNeg, Int.reduceMul, Nat.reduceSub, Nat.reduceEqDiff, Nat.reduceAdd, Nat.reduceMul, Nat.reduceLeDiff, ↓reduceIte, reduceCtorEq, Int.reduceToNat, Int.reduceLT, Int.reduceLE, Int.reduceEq, hk]
  refine lK_unroll ?_
  simp only [guard_undef, List.contains_cons, List.contains_nil, Nat.reduceBEq, Int.cast_ofNat_Int, and_self, k_pend_g, pendV, go_sem, i64_wrap_id, Int.reduceAdd, Int.reduceSub, Int.reduceNeg, Int.reduceMul, Nat.reduceSub, Nat.reduceEqDiff, Nat.reduceAdd, Nat.reduceMul, Nat.reduceLeDiff, ↓reduceIte, reduceCtorEq, Int.reduceToNat, Int.reduceLT, Int.reduceLE, Int.reduceEq, hk]
  refine cK_of (fits76 x.c.d _) ?_
  rintro v23 S' hS hL' ⟨rfl, rfl⟩
  cases hb23 : fitB x.c.d
  · have hn := hno x.c (by simp) (by simp [Rc.fitB, hb20, hb21, hb22, hb23])
    simp only [guard_undef, List.contains_cons, List.contains_nil, Nat.reduceBEq, Int.cast_ofNat_Int, and_self, k_pend_g, pendV, go_sem, i64_wrap_id, Int.reduceAdd, Int.reduceSub, Int.reduceNeg, Int.reduceMul, Nat.reduceSub, Nat.reduceEqDiff, Nat.reduceAdd, Nat.reduceMul, Nat.reduceLeDiff, ↓reduceIte, reduceCtorEq, Int.reduceToNat, Int.reduceLT, Int.reduceLE, Int.reduceEq, hk]
    refine hQ _ _ _ ?_; (first | rw [k_body_ret] | rw [k_body_normal]); simp only [resVals, resVal, ev, Env.get_put, ↓reduceIte, Nat.reduceEqDiff, Option.bind_some, Option.map_some, reduceCtorEq, ldv_true, ldv_false, lloadV_agg, partL, List.toList_toArray, cellsOf_set, cellsOf_new, rd_set, rd_new, List.length_cons, List.length_nil, Nat.reduceAdd, Nat.reduceLeDiff, Nat.le_refl, List.take_succ_cons, List.take_zero, List.drop_zero, Nat.add_eq_left, Nat.left_eq_add, List.getElem?_cons_zero, List.getElem?_cons_succ, aN43, hk]; rw [retQ_some]; simp only [oneOr]
    exact ⟨rfl, false, rfl, by simp [hn]⟩
  simp only [guard_undef, List.contains_cons, List.contains_nil, Nat.reduceBEq, Int.cast_ofNat_Int, and_self, k_pend_g, pendV, go_sem, i64_wrap_id, Int.reduceAdd, Int.reduceSub, Int.reduceNeg, Int.reduceMul, Nat.reduceSub, Nat.reduceEqDiff, Nat.reduceAdd, Nat.reduceMul, Nat.reduceLeDiff, ↓reduceIte, reduceCtorEq, Int.reduceToNat, Int.reduceLT, Int.reduceLE, Int.reduceEq, hk]
  refine lK_unroll ?_
  simp only [guard_undef, List.contains_cons, List.contains_nil, Nat.reduceBEq, Int.cast_ofNat_Int, and_self, k_pend_g, pendV, go_sem, i64_wrap_id, Int.reduceAdd, Int.reduceSub, Int.reduceNeg, Int.reduceMul, Nat.reduceSub, Nat.reduceEqDiff, Nat.reduceAdd, Nat.reduceMul, Nat.reduceLeDiff, ↓reduceIte, reduceCtorEq, Int.reduceToNat, Int.reduceLT, Int.reduceLE, Int.reduceEq, hk]
  have hf2 : x.c.Fit := by rw [← Rc.fitB_iff]; simp [Rc.fitB, hb20, hb21, hb22, hb23]
  (first | refine cK_keep [1,2,13,14] fun t1 hk' => ?_ | refine lK_keep [1,2,13,14] fun t1 hk' => ?_ | refine iK_keep [1,2,13,14] fun t1 hk' => ?_ | refine hK_keep [1,2,13,14] fun t1 hk' => ?_); simp only [guard_undef, List.contains_cons, List.contains_nil, Nat.reduceBEq, Int.cast_ofNat_Int, and_self, k_pend_g, pendV, go_sem, i64_wrap_id, Int.reduceAdd, Int.reduceSub, Int.reduceNeg, Int.reduceMul, Nat.reduceSub, Nat.reduceEqDiff, Nat.reduceAdd, Nat.reduceMul, Nat.reduceLeDiff, ↓reduceIte, reduceCtorEq, Int.reduceToNat, Int.reduceLT, Int.reduceLE, Int.reduceEq, keepL_cons, keepL_nil, slots_cons, slots_nil, hk] at hk'; clear hk; have hk := hk'; clear hk'
  refine lK_unroll ?_
  have hz := zeroR_iff x.h
  simp only [Bool.and_true] at hz
  by_cases h5 : x.kind = 1
  · by_cases g1 : x.node ≥ 0
    · by_cases g2 : x.node ≤ 65535
      · by_cases g3 : x.color ≥ 1
        · by_cases g4 : x.color ≤ 16777216
          · have hn : RightP x := ⟨⟨by omega, by omega, by omega, by omega⟩, ⟨hf0, hf1, hf2⟩, .inl h5⟩
            simp only [guard_undef, List.contains_cons, List.contains_nil, Nat.reduceBEq, Int.cast_ofNat_Int, and_self, k_pend_g, pendV, go_sem, i64_wrap_id, Int.reduceAdd, Int.reduceSub, Int.reduceNeg, Int.reduceMul, Nat.reduceSub, Nat.reduceEqDiff, Nat.reduceAdd, Nat.reduceMul, Nat.reduceLeDiff, ↓reduceIte, reduceCtorEq, Int.reduceToNat, Int.reduceLT, Int.reduceLE, Int.reduceEq, hk, h5, g1, g2, g3, g4]
            refine hQ _ _ _ ?_; (first | rw [k_body_ret] | rw [k_body_normal]); simp only [resVals, resVal, ev, Env.get_put, ↓reduceIte, Nat.reduceEqDiff, Option.bind_some, Option.map_some, reduceCtorEq, ldv_true, ldv_false, lloadV_agg, partL, List.toList_toArray, cellsOf_set, cellsOf_new, rd_set, rd_new, List.length_cons, List.length_nil, Nat.reduceAdd, Nat.reduceLeDiff, Nat.le_refl, List.take_succ_cons, List.take_zero, List.drop_zero, Nat.add_eq_left, Nat.left_eq_add, List.getElem?_cons_zero, List.getElem?_cons_succ, aN43, hk]; rw [retQ_some]; simp only [oneOr]
            exact ⟨rfl, true, rfl, by simp [hn]⟩
          · have hn : ¬ RightP x := fun h => by have := h.1.2.2.2; omega
            simp only [guard_undef, List.contains_cons, List.contains_nil, Nat.reduceBEq, Int.cast_ofNat_Int, and_self, k_pend_g, pendV, go_sem, i64_wrap_id, Int.reduceAdd, Int.reduceSub, Int.reduceNeg, Int.reduceMul, Nat.reduceSub, Nat.reduceEqDiff, Nat.reduceAdd, Nat.reduceMul, Nat.reduceLeDiff, ↓reduceIte, reduceCtorEq, Int.reduceToNat, Int.reduceLT, Int.reduceLE, Int.reduceEq, hk, h5, g1, g2, g3, g4]
            refine hQ _ _ _ ?_; (first | rw [k_body_ret] | rw [k_body_normal]); simp only [resVals, resVal, ev, Env.get_put, ↓reduceIte, Nat.reduceEqDiff, Option.bind_some, Option.map_some, reduceCtorEq, ldv_true, ldv_false, lloadV_agg, partL, List.toList_toArray, cellsOf_set, cellsOf_new, rd_set, rd_new, List.length_cons, List.length_nil, Nat.reduceAdd, Nat.reduceLeDiff, Nat.le_refl, List.take_succ_cons, List.take_zero, List.drop_zero, Nat.add_eq_left, Nat.left_eq_add, List.getElem?_cons_zero, List.getElem?_cons_succ, aN43, hk]; rw [retQ_some]; simp only [oneOr]
            exact ⟨rfl, false, rfl, by simp [hn]⟩
        · have hn : ¬ RightP x := fun h => by have := h.1.2.2.1; omega
          simp only [guard_undef, List.contains_cons, List.contains_nil, Nat.reduceBEq, Int.cast_ofNat_Int, and_self, k_pend_g, pendV, go_sem, i64_wrap_id, Int.reduceAdd, Int.reduceSub, Int.reduceNeg, Int.reduceMul, Nat.reduceSub, Nat.reduceEqDiff, Nat.reduceAdd, Nat.reduceMul, Nat.reduceLeDiff, ↓reduceIte, reduceCtorEq, Int.reduceToNat, Int.reduceLT, Int.reduceLE, Int.reduceEq, hk, h5, g1, g2, g3]
          refine hQ _ _ _ ?_; (first | rw [k_body_ret] | rw [k_body_normal]); simp only [resVals, resVal, ev, Env.get_put, ↓reduceIte, Nat.reduceEqDiff, Option.bind_some, Option.map_some, reduceCtorEq, ldv_true, ldv_false, lloadV_agg, partL, List.toList_toArray, cellsOf_set, cellsOf_new, rd_set, rd_new, List.length_cons, List.length_nil, Nat.reduceAdd, Nat.reduceLeDiff, Nat.le_refl, List.take_succ_cons, List.take_zero, List.drop_zero, Nat.add_eq_left, Nat.left_eq_add, List.getElem?_cons_zero, List.getElem?_cons_succ, aN43, hk]; rw [retQ_some]; simp only [oneOr]
          exact ⟨rfl, false, rfl, by simp [hn]⟩
      · have hn : ¬ RightP x := fun h => by have := h.1.2.1; omega
        simp only [guard_undef, List.contains_cons, List.contains_nil, Nat.reduceBEq, Int.cast_ofNat_Int, and_self, k_pend_g, pendV, go_sem, i64_wrap_id, Int.reduceAdd, Int.reduceSub, Int.reduceNeg, Int.reduceMul, Nat.reduceSub, Nat.reduceEqDiff, Nat.reduceAdd, Nat.reduceMul, Nat.reduceLeDiff, ↓reduceIte, reduceCtorEq, Int.reduceToNat, Int.reduceLT, Int.reduceLE, Int.reduceEq, hk, h5, g1, g2]
        refine hQ _ _ _ ?_; (first | rw [k_body_ret] | rw [k_body_normal]); simp only [resVals, resVal, ev, Env.get_put, ↓reduceIte, Nat.reduceEqDiff, Option.bind_some, Option.map_some, reduceCtorEq, ldv_true, ldv_false, lloadV_agg, partL, List.toList_toArray, cellsOf_set, cellsOf_new, rd_set, rd_new, List.length_cons, List.length_nil, Nat.reduceAdd, Nat.reduceLeDiff, Nat.le_refl, List.take_succ_cons, List.take_zero, List.drop_zero, Nat.add_eq_left, Nat.left_eq_add, List.getElem?_cons_zero, List.getElem?_cons_succ, aN43, hk]; rw [retQ_some]; simp only [oneOr]
        exact ⟨rfl, false, rfl, by simp [hn]⟩
    · have hn : ¬ RightP x := fun h => by have := h.1.1; omega
      simp only [guard_undef, List.contains_cons, List.contains_nil, Nat.reduceBEq, Int.cast_ofNat_Int, and_self, k_pend_g, pendV, go_sem, i64_wrap_id, Int.reduceAdd, Int.reduceSub, Int.reduceNeg, Int.reduceMul, Nat.reduceSub, Nat.reduceEqDiff, Nat.reduceAdd, Nat.reduceMul, Nat.reduceLeDiff, ↓reduceIte, reduceCtorEq, Int.reduceToNat, Int.reduceLT, Int.reduceLE, Int.reduceEq, hk, h5, g1]
      refine hQ _ _ _ ?_; (first | rw [k_body_ret] | rw [k_body_normal]); simp only [resVals, resVal, ev, Env.get_put, ↓reduceIte, Nat.reduceEqDiff, Option.bind_some, Option.map_some, reduceCtorEq, ldv_true, ldv_false, lloadV_agg, partL, List.toList_toArray, cellsOf_set, cellsOf_new, rd_set, rd_new, List.length_cons, List.length_nil, Nat.reduceAdd, Nat.reduceLeDiff, Nat.le_refl, List.take_succ_cons, List.take_zero, List.drop_zero, Nat.add_eq_left, Nat.left_eq_add, List.getElem?_cons_zero, List.getElem?_cons_succ, aN43, hk]; rw [retQ_some]; simp only [oneOr]
      exact ⟨rfl, false, rfl, by simp [hn]⟩
  · have e5 : (x.kind != 1) = true := by simpa using h5
    by_cases h6 : x.kind = 0
    · by_cases h7 : x.h = zeroR
      · have h7' := hz.2 h7
        by_cases g1 : x.node ≥ 0
        · by_cases g2 : x.node ≤ 65535
          · by_cases g3 : x.color ≥ 1
            · by_cases g4 : x.color ≤ 16777216
              · have hn : RightP x := ⟨⟨by omega, by omega, by omega, by omega⟩, ⟨hf0, hf1, hf2⟩, .inr ⟨h6, h7⟩⟩
                simp only [guard_undef, List.contains_cons, List.contains_nil, Nat.reduceBEq, Int.cast_ofNat_Int, and_self, k_pend_g, pendV, go_sem, i64_wrap_id, Int.reduceAdd, Int.reduceSub, Int.reduceNeg, Int.reduceMul, Nat.reduceSub, Nat.reduceEqDiff, Nat.reduceAdd, Nat.reduceMul, Nat.reduceLeDiff, ↓reduceIte, reduceCtorEq, Int.reduceToNat, Int.reduceLT, Int.reduceLE, Int.reduceEq, hk, h6, flatEq4, h7', Int.reduceBNe, g1, g2, g3, g4]
                refine hQ _ _ _ ?_; (first | rw [k_body_ret] | rw [k_body_normal]); simp only [resVals, resVal, ev, Env.get_put, ↓reduceIte, Nat.reduceEqDiff, Option.bind_some, Option.map_some, reduceCtorEq, ldv_true, ldv_false, lloadV_agg, partL, List.toList_toArray, cellsOf_set, cellsOf_new, rd_set, rd_new, List.length_cons, List.length_nil, Nat.reduceAdd, Nat.reduceLeDiff, Nat.le_refl, List.take_succ_cons, List.take_zero, List.drop_zero, Nat.add_eq_left, Nat.left_eq_add, List.getElem?_cons_zero, List.getElem?_cons_succ, aN43, hk]; rw [retQ_some]; simp only [oneOr]
                exact ⟨rfl, true, rfl, by simp [hn]⟩
              · have hn : ¬ RightP x := fun h => by have := h.1.2.2.2; omega
                simp only [guard_undef, List.contains_cons, List.contains_nil, Nat.reduceBEq, Int.cast_ofNat_Int, and_self, k_pend_g, pendV, go_sem, i64_wrap_id, Int.reduceAdd, Int.reduceSub, Int.reduceNeg, Int.reduceMul, Nat.reduceSub, Nat.reduceEqDiff, Nat.reduceAdd, Nat.reduceMul, Nat.reduceLeDiff, ↓reduceIte, reduceCtorEq, Int.reduceToNat, Int.reduceLT, Int.reduceLE, Int.reduceEq, hk, h6, flatEq4, h7', Int.reduceBNe, g1, g2, g3, g4]
                refine hQ _ _ _ ?_; (first | rw [k_body_ret] | rw [k_body_normal]); simp only [resVals, resVal, ev, Env.get_put, ↓reduceIte, Nat.reduceEqDiff, Option.bind_some, Option.map_some, reduceCtorEq, ldv_true, ldv_false, lloadV_agg, partL, List.toList_toArray, cellsOf_set, cellsOf_new, rd_set, rd_new, List.length_cons, List.length_nil, Nat.reduceAdd, Nat.reduceLeDiff, Nat.le_refl, List.take_succ_cons, List.take_zero, List.drop_zero, Nat.add_eq_left, Nat.left_eq_add, List.getElem?_cons_zero, List.getElem?_cons_succ, aN43, hk]; rw [retQ_some]; simp only [oneOr]
                exact ⟨rfl, false, rfl, by simp [hn]⟩
            · have hn : ¬ RightP x := fun h => by have := h.1.2.2.1; omega
              simp only [guard_undef, List.contains_cons, List.contains_nil, Nat.reduceBEq, Int.cast_ofNat_Int, and_self, k_pend_g, pendV, go_sem, i64_wrap_id, Int.reduceAdd, Int.reduceSub, Int.reduceNeg, Int.reduceMul, Nat.reduceSub, Nat.reduceEqDiff, Nat.reduceAdd, Nat.reduceMul, Nat.reduceLeDiff, ↓reduceIte, reduceCtorEq, Int.reduceToNat, Int.reduceLT, Int.reduceLE, Int.reduceEq, hk, h6, flatEq4, h7', Int.reduceBNe, g1, g2, g3]
              refine hQ _ _ _ ?_; (first | rw [k_body_ret] | rw [k_body_normal]); simp only [resVals, resVal, ev, Env.get_put, ↓reduceIte, Nat.reduceEqDiff, Option.bind_some, Option.map_some, reduceCtorEq, ldv_true, ldv_false, lloadV_agg, partL, List.toList_toArray, cellsOf_set, cellsOf_new, rd_set, rd_new, List.length_cons, List.length_nil, Nat.reduceAdd, Nat.reduceLeDiff, Nat.le_refl, List.take_succ_cons, List.take_zero, List.drop_zero, Nat.add_eq_left, Nat.left_eq_add, List.getElem?_cons_zero, List.getElem?_cons_succ, aN43, hk]; rw [retQ_some]; simp only [oneOr]
              exact ⟨rfl, false, rfl, by simp [hn]⟩
          · have hn : ¬ RightP x := fun h => by have := h.1.2.1; omega
            simp only [guard_undef, List.contains_cons, List.contains_nil, Nat.reduceBEq, Int.cast_ofNat_Int, and_self, k_pend_g, pendV, go_sem, i64_wrap_id, Int.reduceAdd, Int.reduceSub, Int.reduceNeg, Int.reduceMul, Nat.reduceSub, Nat.reduceEqDiff, Nat.reduceAdd, Nat.reduceMul, Nat.reduceLeDiff, ↓reduceIte, reduceCtorEq, Int.reduceToNat, Int.reduceLT, Int.reduceLE, Int.reduceEq, hk, h6, flatEq4, h7', Int.reduceBNe, g1, g2]
            refine hQ _ _ _ ?_; (first | rw [k_body_ret] | rw [k_body_normal]); simp only [resVals, resVal, ev, Env.get_put, ↓reduceIte, Nat.reduceEqDiff, Option.bind_some, Option.map_some, reduceCtorEq, ldv_true, ldv_false, lloadV_agg, partL, List.toList_toArray, cellsOf_set, cellsOf_new, rd_set, rd_new, List.length_cons, List.length_nil, Nat.reduceAdd, Nat.reduceLeDiff, Nat.le_refl, List.take_succ_cons, List.take_zero, List.drop_zero, Nat.add_eq_left, Nat.left_eq_add, List.getElem?_cons_zero, List.getElem?_cons_succ, aN43, hk]; rw [retQ_some]; simp only [oneOr]
            exact ⟨rfl, false, rfl, by simp [hn]⟩
        · have hn : ¬ RightP x := fun h => by have := h.1.1; omega
          simp only [guard_undef, List.contains_cons, List.contains_nil, Nat.reduceBEq, Int.cast_ofNat_Int, and_self, k_pend_g, pendV, go_sem, i64_wrap_id, Int.reduceAdd, Int.reduceSub, Int.reduceNeg, Int.reduceMul, Nat.reduceSub, Nat.reduceEqDiff, Nat.reduceAdd, Nat.reduceMul, Nat.reduceLeDiff, ↓reduceIte, reduceCtorEq, Int.reduceToNat, Int.reduceLT, Int.reduceLE, Int.reduceEq, hk, h6, flatEq4, h7', Int.reduceBNe, g1]
          refine hQ _ _ _ ?_; (first | rw [k_body_ret] | rw [k_body_normal]); simp only [resVals, resVal, ev, Env.get_put, ↓reduceIte, Nat.reduceEqDiff, Option.bind_some, Option.map_some, reduceCtorEq, ldv_true, ldv_false, lloadV_agg, partL, List.toList_toArray, cellsOf_set, cellsOf_new, rd_set, rd_new, List.length_cons, List.length_nil, Nat.reduceAdd, Nat.reduceLeDiff, Nat.le_refl, List.take_succ_cons, List.take_zero, List.drop_zero, Nat.add_eq_left, Nat.left_eq_add, List.getElem?_cons_zero, List.getElem?_cons_succ, aN43, hk]; rw [retQ_some]; simp only [oneOr]
          exact ⟨rfl, false, rfl, by simp [hn]⟩
      · have h7' : (x.h.a == 0 && (x.h.b == 0 && (x.h.c == 0 && x.h.d == 0))) = false := by
          cases hq : (x.h.a == 0 && (x.h.b == 0 && (x.h.c == 0 && x.h.d == 0)))
          · rfl
          · exact absurd (hz.1 hq) h7
        have hn : ¬ RightP x := fun h => by rcases h.2.2 with hk | hk; exact h5 hk; exact h7 hk.2
        simp only [guard_undef, List.contains_cons, List.contains_nil, Nat.reduceBEq, Int.cast_ofNat_Int, and_self, k_pend_g, pendV, go_sem, i64_wrap_id, Int.reduceAdd, Int.reduceSub, Int.reduceNeg, Int.reduceMul, Nat.reduceSub, Nat.reduceEqDiff, Nat.reduceAdd, Nat.reduceMul, Nat.reduceLeDiff, ↓reduceIte, reduceCtorEq, Int.reduceToNat, Int.reduceLT, Int.reduceLE, Int.reduceEq, hk, h6, flatEq4, h7', Int.reduceBNe]
        refine hQ _ _ _ ?_; (first | rw [k_body_ret] | rw [k_body_normal]); simp only [resVals, resVal, ev, Env.get_put, ↓reduceIte, Nat.reduceEqDiff, Option.bind_some, Option.map_some, reduceCtorEq, ldv_true, ldv_false, lloadV_agg, partL, List.toList_toArray, cellsOf_set, cellsOf_new, rd_set, rd_new, List.length_cons, List.length_nil, Nat.reduceAdd, Nat.reduceLeDiff, Nat.le_refl, List.take_succ_cons, List.take_zero, List.drop_zero, Nat.add_eq_left, Nat.left_eq_add, List.getElem?_cons_zero, List.getElem?_cons_succ, aN43, hk]; rw [retQ_some]; simp only [oneOr]
        exact ⟨rfl, false, rfl, by simp [hn]⟩
    · have e6 : (x.kind != 0) = true := by simpa using h6
      have hn : ¬ RightP x := fun h => by rcases h.2.2 with hk | hk; exact h5 hk; exact h6 hk.1
      simp only [guard_undef, List.contains_cons, List.contains_nil, Nat.reduceBEq, Int.cast_ofNat_Int, and_self, k_pend_g, pendV, go_sem, i64_wrap_id, Int.reduceAdd, Int.reduceSub, Int.reduceNeg, Int.reduceMul, Nat.reduceSub, Nat.reduceEqDiff, Nat.reduceAdd, Nat.reduceMul, Nat.reduceLeDiff, ↓reduceIte, reduceCtorEq, Int.reduceToNat, Int.reduceLT, Int.reduceLE, Int.reduceEq, hk, e5, e6]
      refine hQ _ _ _ ?_; (first | rw [k_body_ret] | rw [k_body_normal]); simp only [resVals, resVal, ev, Env.get_put, ↓reduceIte, Nat.reduceEqDiff, Option.bind_some, Option.map_some, reduceCtorEq, ldv_true, ldv_false, lloadV_agg, partL, List.toList_toArray, cellsOf_set, cellsOf_new, rd_set, rd_new, List.length_cons, List.length_nil, Nat.reduceAdd, Nat.reduceLeDiff, Nat.le_refl, List.take_succ_cons, List.take_zero, List.drop_zero, Nat.add_eq_left, Nat.left_eq_add, List.getElem?_cons_zero, List.getElem?_cons_succ, aN43, hk]; rw [retQ_some]; simp only [oneOr]
      exact ⟨rfl, false, rfl, by simp [hn]⟩
end Go.Proofs.Ytbgnaeagdneikaa
