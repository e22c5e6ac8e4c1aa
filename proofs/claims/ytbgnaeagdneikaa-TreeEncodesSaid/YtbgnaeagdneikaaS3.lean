/- What the scroll's functions and the document's answer do. -/
import Derived.Test.YtbgnaeagdneikaaS2
namespace Go.Proofs.Ytbgnaeagdneikaa
open Go Go.Proofs.Ytbgnaeagdneikaa.Abs
set_option linter.unusedSimpArgs false
set_option linter.unusedVariables false

theorem takeN_bound {n : Nat} {xs : List Int} {bad : Bool} (h : Byt xs) : 0 ≤ (takeN n xs bad).1 ∧ (takeN n xs bad).1 < 256 ^ n := by
  unfold takeN
  split
  · exact ⟨by simp, Int.pow_pos (by omega)⟩
  · rename_i hc
    simp only [not_or, Nat.not_lt] at hc
    exact num_bound xs h n hc.2

def s64 (v : Int) : Int := IntKind.i64.wrap v

theorem inByte (i : Nat) (x : Value) (xs : List Int) (bad : Bool) (S : St) (h : IsIn S i x xs bad) :
    ACalls Try.prog 32 [ptr i] S (InPost S i x (.int .u8 (takeN 1 xs bad).1) (takeN 1 xs bad).2) := by
  refine ACalls.run hmix Try.func32 cF32 kF32 rfl fun hL Q hQ => ?_
  simp only [go_sem, i64_wrap_id, Int.reduceAdd, Int.reduceSub, Int.reduceNeg, Int.reduceMul, Nat.reduceSub, Nat.reduceEqDiff, Nat.reduceAdd, Nat.reduceMul, Nat.reduceLeDiff, ↓reduceIte, reduceCtorEq, Int.reduceToNat, Int.reduceLT, Int.reduceLE, Int.reduceEq, aF32]
  refine cK_of (win_any i x xs bad 1 S h (by omega) (by omega)) ?_
  rintro r S' hS hL' ⟨rfl, x', h1, h2⟩
  have hb := takeN_bound (n := 1) (bad := bad) h.byt
  simp only [go_sem, i64_wrap_id, Int.reduceAdd, Int.reduceSub, Int.reduceNeg, Int.reduceMul, Nat.reduceSub, Nat.reduceEqDiff, Nat.reduceAdd, Nat.reduceMul, Nat.reduceLeDiff, ↓reduceIte, reduceCtorEq, Int.reduceToNat, Int.reduceLT, Int.reduceLE, Int.reduceEq, show IntKind.u8.wrap (takeN 1 xs bad).1 = (takeN 1 xs bad).1 by rw [wrap8]; omega]
  refine hQ _ _ _ ?_; (first | rw [k_body_ret] | rw [k_body_normal]); simp only [resVals, resVal, ev, Env.get_put, ↓reduceIte, Nat.reduceEqDiff, Option.bind_some, Option.map_some, reduceCtorEq, ldv_true, ldv_false, lloadV_agg, partL, List.toList_toArray, cellsOf_set, cellsOf_new, rd_set, rd_new, List.length_cons, List.length_nil, Nat.reduceAdd, Nat.reduceLeDiff, Nat.le_refl, List.take_succ_cons, List.take_zero, List.drop_zero, Nat.add_eq_left, Nat.left_eq_add, List.getElem?_cons_zero, List.getElem?_cons_succ, aF32]; rw [retQ_some]; simp only [oneOr]
  exact ⟨rfl, x', h1, h2⟩

theorem inFour (i : Nat) (x : Value) (xs : List Int) (bad : Bool) (S : St) (h : IsIn S i x xs bad) :
    ACalls Try.prog 36 [ptr i] S (InPost S i x (.int .u32 (takeN 4 xs bad).1) (takeN 4 xs bad).2) := by
  refine ACalls.run hmix Try.func36 cF36 kF36 rfl fun hL Q hQ => ?_
  simp only [go_sem, i64_wrap_id, Int.reduceAdd, Int.reduceSub, Int.reduceNeg, Int.reduceMul, Nat.reduceSub, Nat.reduceEqDiff, Nat.reduceAdd, Nat.reduceMul, Nat.reduceLeDiff, ↓reduceIte, reduceCtorEq, Int.reduceToNat, Int.reduceLT, Int.reduceLE, Int.reduceEq, aF36]
  refine cK_of (win_any i x xs bad 4 S h (by omega) (by omega)) ?_
  rintro r S' hS hL' ⟨rfl, x', h1, h2⟩
  have hb := takeN_bound (n := 4) (bad := bad) h.byt
  simp only [go_sem, i64_wrap_id, Int.reduceAdd, Int.reduceSub, Int.reduceNeg, Int.reduceMul, Nat.reduceSub, Nat.reduceEqDiff, Nat.reduceAdd, Nat.reduceMul, Nat.reduceLeDiff, ↓reduceIte, reduceCtorEq, Int.reduceToNat, Int.reduceLT, Int.reduceLE, Int.reduceEq, show IntKind.u32.wrap (takeN 4 xs bad).1 = (takeN 4 xs bad).1 by rw [wrap32u]; omega]
  refine hQ _ _ _ ?_; (first | rw [k_body_ret] | rw [k_body_normal]); simp only [resVals, resVal, ev, Env.get_put, ↓reduceIte, Nat.reduceEqDiff, Option.bind_some, Option.map_some, reduceCtorEq, ldv_true, ldv_false, lloadV_agg, partL, List.toList_toArray, cellsOf_set, cellsOf_new, rd_set, rd_new, List.length_cons, List.length_nil, Nat.reduceAdd, Nat.reduceLeDiff, Nat.le_refl, List.take_succ_cons, List.take_zero, List.drop_zero, Nat.add_eq_left, Nat.left_eq_add, List.getElem?_cons_zero, List.getElem?_cons_succ, aF36]; rw [retQ_some]; simp only [oneOr]
  exact ⟨rfl, x', h1, h2⟩

theorem inEight (i : Nat) (x : Value) (xs : List Int) (bad : Bool) (S : St) (h : IsIn S i x xs bad) :
    ACalls Try.prog 31 [ptr i] S (InPost S i x (.int .i64 (s64 (takeN 8 xs bad).1)) (takeN 8 xs bad).2) := by
  refine ACalls.run hmix Try.func31 cF31 kF31 rfl fun hL Q hQ => ?_
  simp only [go_sem, i64_wrap_id, Int.reduceAdd, Int.reduceSub, Int.reduceNeg, Int.reduceMul, Nat.reduceSub, Nat.reduceEqDiff, Nat.reduceAdd, Nat.reduceMul, Nat.reduceLeDiff, ↓reduceIte, reduceCtorEq, Int.reduceToNat, Int.reduceLT, Int.reduceLE, Int.reduceEq, aF31]
  refine cK_of (win_any i x xs bad 8 S h (by omega) (by omega)) ?_
  rintro r S' hS hL' ⟨rfl, x', h1, h2⟩
  simp only [go_sem, i64_wrap_id, Int.reduceAdd, Int.reduceSub, Int.reduceNeg, Int.reduceMul, Nat.reduceSub, Nat.reduceEqDiff, Nat.reduceAdd, Nat.reduceMul, Nat.reduceLeDiff, ↓reduceIte, reduceCtorEq, Int.reduceToNat, Int.reduceLT, Int.reduceLE, Int.reduceEq]
  refine hQ _ _ _ ?_; (first | rw [k_body_ret] | rw [k_body_normal]); simp only [resVals, resVal, ev, Env.get_put, ↓reduceIte, Nat.reduceEqDiff, Option.bind_some, Option.map_some, reduceCtorEq, ldv_true, ldv_false, lloadV_agg, partL, List.toList_toArray, cellsOf_set, cellsOf_new, rd_set, rd_new, List.length_cons, List.length_nil, Nat.reduceAdd, Nat.reduceLeDiff, Nat.le_refl, List.take_succ_cons, List.take_zero, List.drop_zero, Nat.add_eq_left, Nat.left_eq_add, List.getElem?_cons_zero, List.getElem?_cons_succ, aF31]; rw [retQ_some]; simp only [oneOr]
  exact ⟨rfl, x', h1, h2⟩

theorem inByte_nil (S : St) : ACalls Try.prog 32 [.pointer none] S fun r S' => r = .int .u8 0 ∧ S' = S := by
  refine ACalls.run hmix Try.func32 cF32 kF32 rfl fun hL Q hQ => ?_
  simp only [go_sem, i64_wrap_id, Int.reduceAdd, Int.reduceSub, Int.reduceNeg, Int.reduceMul, Nat.reduceSub, Nat.reduceEqDiff, Nat.reduceAdd, Nat.reduceMul, Nat.reduceLeDiff, ↓reduceIte, reduceCtorEq, Int.reduceToNat, Int.reduceLT, Int.reduceLE, Int.reduceEq, aF32]
  refine cK_of (win_nil 1 S) ?_
  rintro r S' hS hL' ⟨rfl, rfl⟩
  simp only [go_sem, i64_wrap_id, Int.reduceAdd, Int.reduceSub, Int.reduceNeg, Int.reduceMul, Nat.reduceSub, Nat.reduceEqDiff, Nat.reduceAdd, Nat.reduceMul, Nat.reduceLeDiff, ↓reduceIte, reduceCtorEq, Int.reduceToNat, Int.reduceLT, Int.reduceLE, Int.reduceEq]
  refine hQ _ _ _ ?_; (first | rw [k_body_ret] | rw [k_body_normal]); simp only [resVals, resVal, ev, Env.get_put, ↓reduceIte, Nat.reduceEqDiff, Option.bind_some, Option.map_some, reduceCtorEq, ldv_true, ldv_false, lloadV_agg, partL, List.toList_toArray, cellsOf_set, cellsOf_new, rd_set, rd_new, List.length_cons, List.length_nil, Nat.reduceAdd, Nat.reduceLeDiff, Nat.le_refl, List.take_succ_cons, List.take_zero, List.drop_zero, Nat.add_eq_left, Nat.left_eq_add, List.getElem?_cons_zero, List.getElem?_cons_succ, aF32]; rw [retQ_some]; simp only [oneOr]
  simp [wrap8]

theorem inEight_nil (S : St) : ACalls Try.prog 31 [.pointer none] S fun r S' => r = .int .i64 0 ∧ S' = S := by
  refine ACalls.run hmix Try.func31 cF31 kF31 rfl fun hL Q hQ => ?_
  simp only [go_sem, i64_wrap_id, Int.reduceAdd, Int.reduceSub, Int.reduceNeg, Int.reduceMul, Nat.reduceSub, Nat.reduceEqDiff, Nat.reduceAdd, Nat.reduceMul, Nat.reduceLeDiff, ↓reduceIte, reduceCtorEq, Int.reduceToNat, Int.reduceLT, Int.reduceLE, Int.reduceEq, aF31]
  refine cK_of (win_nil 8 S) ?_
  rintro r S' hS hL' ⟨rfl, rfl⟩
  simp only [go_sem, i64_wrap_id, Int.reduceAdd, Int.reduceSub, Int.reduceNeg, Int.reduceMul, Nat.reduceSub, Nat.reduceEqDiff, Nat.reduceAdd, Nat.reduceMul, Nat.reduceLeDiff, ↓reduceIte, reduceCtorEq, Int.reduceToNat, Int.reduceLT, Int.reduceLE, Int.reduceEq]
  refine hQ _ _ _ ?_; (first | rw [k_body_ret] | rw [k_body_normal]); simp only [resVals, resVal, ev, Env.get_put, ↓reduceIte, Nat.reduceEqDiff, Option.bind_some, Option.map_some, reduceCtorEq, ldv_true, ldv_false, lloadV_agg, partL, List.toList_toArray, cellsOf_set, cellsOf_new, rd_set, rd_new, List.length_cons, List.length_nil, Nat.reduceAdd, Nat.reduceLeDiff, Nat.le_refl, List.take_succ_cons, List.take_zero, List.drop_zero, Nat.add_eq_left, Nat.left_eq_add, List.getElem?_cons_zero, List.getElem?_cons_succ, aF31]; rw [retQ_some]; simp only [oneOr]
  simp [wrap64_id]

theorem inDone (i : Nat) (x : Value) (xs : List Int) (bad : Bool) (S : St) (h : IsIn S i x xs bad) :
    ACalls Try.prog 33 [ptr i] S fun r S' => r = .bool (!bad && (xs.length : Int) == 0) ∧ S' = S := by
  refine ACalls.run hmix Try.func33 cF33 kF33 rfl fun hL Q hQ => ?_
  have hb := h.blk
  have hr0 : rd S i 0 = some x := by rw [rd_of_blk hb]; rfl
  have hr1 : rd S i 1 = some (.bool bad) := by rw [rd_of_blk hb]; rfl
  obtain ⟨a, e, hx⟩ := h.data.slice
  cases bad
  · simp only [go_sem, i64_wrap_id, Int.reduceAdd, Int.reduceSub, Int.reduceNeg, Int.reduceMul, Nat.reduceSub, Nat.reduceEqDiff, Nat.reduceAdd, Nat.reduceMul, Nat.reduceLeDiff, ↓reduceIte, reduceCtorEq, Int.reduceToNat, Int.reduceLT, Int.reduceLE, Int.reduceEq, aF33, hr0, hr1, hx]
    refine hQ _ _ _ ?_; (first | rw [k_body_ret] | rw [k_body_normal]); simp only [resVals, resVal, ev, Env.get_put, ↓reduceIte, Nat.reduceEqDiff, Option.bind_some, Option.map_some, reduceCtorEq, ldv_true, ldv_false, lloadV_agg, partL, List.toList_toArray, cellsOf_set, cellsOf_new, rd_set, rd_new, List.length_cons, List.length_nil, Nat.reduceAdd, Nat.reduceLeDiff, Nat.le_refl, List.take_succ_cons, List.take_zero, List.drop_zero, Nat.add_eq_left, Nat.left_eq_add, List.getElem?_cons_zero, List.getElem?_cons_succ, aF33]; rw [retQ_some]; simp only [oneOr]
    simp
  · simp only [go_sem, i64_wrap_id, Int.reduceAdd, Int.reduceSub, Int.reduceNeg, Int.reduceMul, Nat.reduceSub, Nat.reduceEqDiff, Nat.reduceAdd, Nat.reduceMul, Nat.reduceLeDiff, ↓reduceIte, reduceCtorEq, Int.reduceToNat, Int.reduceLT, Int.reduceLE, Int.reduceEq, aF33, hr0, hr1, hx]
    refine hQ _ _ _ ?_; (first | rw [k_body_ret] | rw [k_body_normal]); simp only [resVals, resVal, ev, Env.get_put, ↓reduceIte, Nat.reduceEqDiff, Option.bind_some, Option.map_some, reduceCtorEq, ldv_true, ldv_false, lloadV_agg, partL, List.toList_toArray, cellsOf_set, cellsOf_new, rd_set, rd_new, List.length_cons, List.length_nil, Nat.reduceAdd, Nat.reduceLeDiff, Nat.le_refl, List.take_succ_cons, List.take_zero, List.drop_zero, Nat.add_eq_left, Nat.left_eq_add, List.getElem?_cons_zero, List.getElem?_cons_succ, aF33]; rw [retQ_some]; simp only [oneOr]
    simp

theorem inDone_nil (S : St) : ACalls Try.prog 33 [.pointer none] S fun r S' => r = .bool false ∧ S' = S := by
  refine ACalls.run hmix Try.func33 cF33 kF33 rfl fun hL Q hQ => ?_
  simp only [go_sem, i64_wrap_id, Int.reduceAdd, Int.reduceSub, Int.reduceNeg, Int.reduceMul, Nat.reduceSub, Nat.reduceEqDiff, Nat.reduceAdd, Nat.reduceMul, Nat.reduceLeDiff, ↓reduceIte, reduceCtorEq, Int.reduceToNat, Int.reduceLT, Int.reduceLE, Int.reduceEq, aF33]
  refine hQ _ _ _ ?_; (first | rw [k_body_ret] | rw [k_body_normal]); simp only [resVals, resVal, ev, Env.get_put, ↓reduceIte, Nat.reduceEqDiff, Option.bind_some, Option.map_some, reduceCtorEq, ldv_true, ldv_false, lloadV_agg, partL, List.toList_toArray, cellsOf_set, cellsOf_new, rd_set, rd_new, List.length_cons, List.length_nil, Nat.reduceAdd, Nat.reduceLeDiff, Nat.le_refl, List.take_succ_cons, List.take_zero, List.drop_zero, Nat.add_eq_left, Nat.left_eq_add, List.getElem?_cons_zero, List.getElem?_cons_succ, aF33]; rw [retQ_some]; simp only [oneOr]
  simp

theorem inBad (i : Nat) (x : Value) (xs : List Int) (bad : Bool) (S : St) (h : IsIn S i x xs bad) :
    ACalls Try.prog 34 [ptr i] S fun r S' => r = .bool bad ∧ S' = S := by
  refine ACalls.run hmix Try.func34 cF34 kF34 rfl fun hL Q hQ => ?_
  have hb := h.blk
  have hr1 : rd S i 1 = some (.bool bad) := by rw [rd_of_blk hb]; rfl
  simp only [go_sem, i64_wrap_id, Int.reduceAdd, Int.reduceSub, Int.reduceNeg, Int.reduceMul, Nat.reduceSub, Nat.reduceEqDiff, Nat.reduceAdd, Nat.reduceMul, Nat.reduceLeDiff, ↓reduceIte, reduceCtorEq, Int.reduceToNat, Int.reduceLT, Int.reduceLE, Int.reduceEq, aF34, hr1]
  refine hQ _ _ _ ?_; (first | rw [k_body_ret] | rw [k_body_normal]); simp only [resVals, resVal, ev, Env.get_put, ↓reduceIte, Nat.reduceEqDiff, Option.bind_some, Option.map_some, reduceCtorEq, ldv_true, ldv_false, lloadV_agg, partL, List.toList_toArray, cellsOf_set, cellsOf_new, rd_set, rd_new, List.length_cons, List.length_nil, Nat.reduceAdd, Nat.reduceLeDiff, Nat.le_refl, List.take_succ_cons, List.take_zero, List.drop_zero, Nat.add_eq_left, Nat.left_eq_add, List.getElem?_cons_zero, List.getElem?_cons_succ, aF34]; rw [retQ_some]; simp only [oneOr]
  simp

theorem inBad_nil (S : St) : ACalls Try.prog 34 [.pointer none] S fun r S' => r = .bool false ∧ S' = S := by
  refine ACalls.run hmix Try.func34 cF34 kF34 rfl fun hL Q hQ => ?_
  simp only [go_sem, i64_wrap_id, Int.reduceAdd, Int.reduceSub, Int.reduceNeg, Int.reduceMul, Nat.reduceSub, Nat.reduceEqDiff, Nat.reduceAdd, Nat.reduceMul, Nat.reduceLeDiff, ↓reduceIte, reduceCtorEq, Int.reduceToNat, Int.reduceLT, Int.reduceLE, Int.reduceEq, aF34]
  refine hQ _ _ _ ?_; (first | rw [k_body_ret] | rw [k_body_normal]); simp only [resVals, resVal, ev, Env.get_put, ↓reduceIte, Nat.reduceEqDiff, Option.bind_some, Option.map_some, reduceCtorEq, ldv_true, ldv_false, lloadV_agg, partL, List.toList_toArray, cellsOf_set, cellsOf_new, rd_set, rd_new, List.length_cons, List.length_nil, Nat.reduceAdd, Nat.reduceLeDiff, Nat.le_refl, List.take_succ_cons, List.take_zero, List.drop_zero, Nat.add_eq_left, Nat.left_eq_add, List.getElem?_cons_zero, List.getElem?_cons_succ, aF34]; rw [retQ_some]; simp only [oneOr]
  simp

theorem inLeft (i : Nat) (x : Value) (xs : List Int) (bad : Bool) (S : St) (h : IsIn S i x xs bad) :
    ACalls Try.prog 38 [ptr i] S fun r S' => r = .int .i64 xs.length ∧ S' = S := by
  refine ACalls.run hmix Try.func38 cF38 kF38 rfl fun hL Q hQ => ?_
  have hb := h.blk
  have hr0 : rd S i 0 = some x := by rw [rd_of_blk hb]; rfl
  obtain ⟨a, e, hx⟩ := h.data.slice
  simp only [go_sem, i64_wrap_id, Int.reduceAdd, Int.reduceSub, Int.reduceNeg, Int.reduceMul, Nat.reduceSub, Nat.reduceEqDiff, Nat.reduceAdd, Nat.reduceMul, Nat.reduceLeDiff, ↓reduceIte, reduceCtorEq, Int.reduceToNat, Int.reduceLT, Int.reduceLE, Int.reduceEq, aF38, hr0, hx]
  refine hQ _ _ _ ?_; (first | rw [k_body_ret] | rw [k_body_normal]); simp only [resVals, resVal, ev, Env.get_put, ↓reduceIte, Nat.reduceEqDiff, Option.bind_some, Option.map_some, reduceCtorEq, ldv_true, ldv_false, lloadV_agg, partL, List.toList_toArray, cellsOf_set, cellsOf_new, rd_set, rd_new, List.length_cons, List.length_nil, Nat.reduceAdd, Nat.reduceLeDiff, Nat.le_refl, List.take_succ_cons, List.take_zero, List.drop_zero, Nat.add_eq_left, Nat.left_eq_add, List.getElem?_cons_zero, List.getElem?_cons_succ, aF38]; rw [retQ_some]; simp only [oneOr]
  simp

theorem inLeft_nil (S : St) : ACalls Try.prog 38 [.pointer none] S fun r S' => r = .int .i64 0 ∧ S' = S := by
  refine ACalls.run hmix Try.func38 cF38 kF38 rfl fun hL Q hQ => ?_
  simp only [go_sem, i64_wrap_id, Int.reduceAdd, Int.reduceSub, Int.reduceNeg, Int.reduceMul, Nat.reduceSub, Nat.reduceEqDiff, Nat.reduceAdd, Nat.reduceMul, Nat.reduceLeDiff, ↓reduceIte, reduceCtorEq, Int.reduceToNat, Int.reduceLT, Int.reduceLE, Int.reduceEq, aF38]
  refine hQ _ _ _ ?_; (first | rw [k_body_ret] | rw [k_body_normal]); simp only [resVals, resVal, ev, Env.get_put, ↓reduceIte, Nat.reduceEqDiff, Option.bind_some, Option.map_some, reduceCtorEq, ldv_true, ldv_false, lloadV_agg, partL, List.toList_toArray, cellsOf_set, cellsOf_new, rd_set, rd_new, List.length_cons, List.length_nil, Nat.reduceAdd, Nat.reduceLeDiff, Nat.le_refl, List.take_succ_cons, List.take_zero, List.drop_zero, Nat.add_eq_left, Nat.left_eq_add, List.getElem?_cons_zero, List.getElem?_cons_succ, aF38]; rw [retQ_some]; simp only [oneOr]
  simp

theorem be_low (v : Int) (n : Nat) : be v (n + 1) = be (v / 256) n ++ [v % 256] := by
  induction n with
  | zero => simp [be]
  | succ n ih =>
    rw [be, ih, be, List.cons_append]
    congr 2
    rw [Int.ediv_ediv_of_nonneg (by omega)]
    congr 2
    rw [show (8 * (n + 1)) = 8 + 8 * n by omega, Int.pow_add]
    rfl

theorem number (n : Nat) : ∀ (v : Int) (S : St), 0 ≤ v → v < 18446744073709551616 → n ≤ 8 →
    ACalls Try.prog 49 [.int .u64 v, .int .i64 n] S fun r S' => OwnBs S' r (be v n) ∧ KeepsAll S S' ∧ Fresh S r := by
  induction n with
  | zero =>
    intro v S h0 h1 hn
    refine ACalls.run hmix Try.func49 cF49 kF49 rfl fun hL Q hQ => ?_
    simp only [go_sem, i64_wrap_id, Int.reduceAdd, Int.reduceSub, Int.reduceNeg, Int.reduceMul, Nat.reduceSub, Nat.reduceEqDiff, Nat.reduceAdd, Nat.reduceMul, Nat.reduceLeDiff, ↓reduceIte, reduceCtorEq, Int.reduceToNat, Int.reduceLT, Int.reduceLE, Int.reduceEq, aF49]
    refine hQ _ _ _ ?_; (first | rw [k_body_ret] | rw [k_body_normal]); simp only [resVals, resVal, ev, Env.get_put, ↓reduceIte, Nat.reduceEqDiff, Option.bind_some, Option.map_some, reduceCtorEq, ldv_true, ldv_false, lloadV_agg, partL, List.toList_toArray, cellsOf_set, cellsOf_new, rd_set, rd_new, List.length_cons, List.length_nil, Nat.reduceAdd, Nat.reduceLeDiff, Nat.le_refl, List.take_succ_cons, List.take_zero, List.drop_zero, Nat.add_eq_left, Nat.left_eq_add, List.getElem?_cons_zero, List.getElem?_cons_succ, aF49]; rw [retQ_some]; simp only [oneOr]
    exact ⟨.inl ⟨rfl, rfl, rfl⟩, Keeps.refl _ _, fun d hd => by simp [Value.blkOf] at hd⟩
  | succ n ih =>
    intro v S h0 h1 hn
    refine ACalls.run hmix Try.func49 cF49 kF49 rfl fun hL Q hQ => ?_
    have hne : ((n + 1 : Nat) : Int) ≠ 0 := by omega
    have hq : IntKind.u64.wrap (v.tdiv 256) = v / 256 := by rw [Int.tdiv_eq_ediv_of_nonneg h0, wrap64u]; omega
    have hm : v.tmod 256 = v % 256 := Int.tmod_eq_emod_of_nonneg h0
    have hsub : IntKind.i64.wrap (((n + 1 : Nat) : Int) - 1) = n := by rw [wrap64_id (by omega) (by omega)]; omega
    have hw : IntKind.u8.wrap (v % 256) = v % 256 := by rw [wrap8]; omega
    simp only [go_sem, i64_wrap_id, Int.reduceAdd, Int.reduceSub, Int.reduceNeg, Int.reduceMul, Nat.reduceSub, Nat.reduceEqDiff, Nat.reduceAdd, Nat.reduceMul, Nat.reduceLeDiff, ↓reduceIte, reduceCtorEq, Int.reduceToNat, Int.reduceLT, Int.reduceLE, Int.reduceEq, aF49, show (((n + 1 : Nat) : Int) == 0) = false by simp; omega, show ¬ ((256 : Int) = 0) by omega, hq, hsub]
    refine cK_of (ih (v / 256) S (by omega) (by omega) (by omega)) ?_
    rintro r S' hS hL' ⟨h2, h3, h4⟩
    simp only [go_sem, i64_wrap_id, Int.reduceAdd, Int.reduceSub, Int.reduceNeg, Int.reduceMul, Nat.reduceSub, Nat.reduceEqDiff, Nat.reduceAdd, Nat.reduceMul, Nat.reduceLeDiff, ↓reduceIte, reduceCtorEq, Int.reduceToNat, Int.reduceLT, Int.reduceLE, Int.reduceEq, show ¬ ((256 : Int) = 0) by omega, hm, hw]
    refine hK_of (append_own (k := 1) (ds := bytesV [v % 256]) (by omega) (h2.keeps hL' (Keeps.of_new _ _ fun _ => True) fun _ _ => trivial) (.inr ⟨S'.next, 0, 1, rfl, .inr rfl, by simp [cellsOf_new, bytesV]⟩) (by simp [be_length]; omega)
      (R := fun r S' => OwnBs S' r (be v (n + 1)) ∧ KeepsAll S S' ∧ Fresh S r) ?_) ?_
    · intro v' S'' k1 k2 k3
      refine ⟨?_, ?_, fun d hd => ?_⟩
      · rw [be_low]
        unfold OwnBs
        rw [bytesV_append]
        simpa using k1
      · refine (h3.new _).trans k2 (fun i hi _ e => ?_)
        have := h4 i e
        omega
      · rcases k3 d hd with h | h
        · exact h4 d h
        · simp [St.next_new] at h; omega
    · rintro r' S'' hR
      simp only [go_sem, i64_wrap_id, Int.reduceAdd, Int.reduceSub, Int.reduceNeg, Int.reduceMul, Nat.reduceSub, Nat.reduceEqDiff, Nat.reduceAdd, Nat.reduceMul, Nat.reduceLeDiff, ↓reduceIte, reduceCtorEq, Int.reduceToNat, Int.reduceLT, Int.reduceLE, Int.reduceEq]
      refine hQ _ _ _ ?_; (first | rw [k_body_ret] | rw [k_body_normal]); simp only [resVals, resVal, ev, Env.get_put, ↓reduceIte, Nat.reduceEqDiff, Option.bind_some, Option.map_some, reduceCtorEq, ldv_true, ldv_false, lloadV_agg, partL, List.toList_toArray, cellsOf_set, cellsOf_new, rd_set, rd_new, List.length_cons, List.length_nil, Nat.reduceAdd, Nat.reduceLeDiff, Nat.le_refl, List.take_succ_cons, List.take_zero, List.drop_zero, Nat.add_eq_left, Nat.left_eq_add, List.getElem?_cons_zero, List.getElem?_cons_succ, aF49]; rw [retQ_some]; simp only [oneOr]
      exact hR

end Go.Proofs.Ytbgnaeagdneikaa
