/- What the scroll's functions do. -/
import Derived.Test.YtbgnaeagdneikaaS1
namespace Go.Proofs.Ytbgnaeagdneikaa
open Go Go.Proofs.Ytbgnaeagdneikaa.Abs
set_option linter.unusedSimpArgs false
set_option linter.unusedVariables false

abbrev ptr (o : Nat) : Value := .pointer (some ⟨o, 0, none⟩)

def OutPost (S : St) (o : Nat) (d : Value) (bs : List Int) (r : Value) (S' : St) : Prop := r = .tuple #[] ∧ ∃ d', IsOut S' o d' bs ∧ OutStep S o d S' d'
def InPost (S : St) (i : Nat) (x : Value) (y : Value) (t : List Int × Bool) (r : Value) (S' : St) : Prop := r = y ∧ ∃ x', IsIn S' i x' t.1 t.2 ∧ InStep S i x S' x'

theorem wide_nil (v n : Int) (S : St) : ACalls Try.prog 68 [.pointer none, .int .u64 v, .int .i64 n] S fun r S' => r = .tuple #[] ∧ S' = S := by
  refine ACalls.run hmix Try.func68 cF68 kF68 rfl fun hL Q hQ => ?_
  simp only [go_sem, i64_wrap_id, Int.reduceAdd, Int.reduceSub, Int.reduceNeg, Int.reduceMul, Nat.reduceSub, Nat.reduceEqDiff, Nat.reduceAdd, Nat.reduceMul, Nat.reduceLeDiff, ↓reduceIte, reduceCtorEq, Int.reduceToNat, Int.reduceLT, Int.reduceLE, Int.reduceEq, aF68]
  refine hQ _ _ _ ?_; (first | rw [k_body_ret] | rw [k_body_normal]); simp only [resVals, resVal, ev, Env.get_put, ↓reduceIte, Nat.reduceEqDiff, Option.bind_some, Option.map_some, reduceCtorEq, ldv_true, ldv_false, lloadV_agg, partL, List.toList_toArray, cellsOf_set, cellsOf_new, rd_set, rd_new, List.length_cons, List.length_nil, Nat.reduceAdd, Nat.reduceLeDiff, Nat.le_refl, List.take_succ_cons, List.take_zero, List.drop_zero, Nat.add_eq_left, Nat.left_eq_add, List.getElem?_cons_zero, List.getElem?_cons_succ, aF68]; rw [retQ_some]; simp only [oneOr]
  simp

theorem outByte (o : Nat) (d : Value) (bs : List Int) (v : Int) (S : St) (h : IsOut S o d bs) (h0 : 0 ≤ v) (h1 : v < 256) (hlen : bs.length ≤ 1000000000) :
    ACalls Try.prog 25 [ptr o, .int .u8 v] S (OutPost S o d (bs ++ [v])) := by
  refine ACalls.run hmix Try.func25 cF25 kF25 rfl fun hL Q hQ => ?_
  simp only [go_sem, i64_wrap_id, Int.reduceAdd, Int.reduceSub, Int.reduceNeg, Int.reduceMul, Nat.reduceSub, Nat.reduceEqDiff, Nat.reduceAdd, Nat.reduceMul, Nat.reduceLeDiff, ↓reduceIte, reduceCtorEq, Int.reduceToNat, Int.reduceLT, Int.reduceLE, Int.reduceEq, aF25]
  rw [conv64 h0 h1]
  refine cK_of (wide_any o d bs v 1 S h (by omega) hlen) ?_
  rintro r S' hS hL' ⟨rfl, d', h2, h3⟩
  simp only [go_sem, i64_wrap_id, Int.reduceAdd, Int.reduceSub, Int.reduceNeg, Int.reduceMul, Nat.reduceSub, Nat.reduceEqDiff, Nat.reduceAdd, Nat.reduceMul, Nat.reduceLeDiff, ↓reduceIte, reduceCtorEq, Int.reduceToNat, Int.reduceLT, Int.reduceLE, Int.reduceEq]
  refine hQ _ _ _ ?_; (first | rw [k_body_ret] | rw [k_body_normal]); simp only [resVals, resVal, ev, Env.get_put, ↓reduceIte, Nat.reduceEqDiff, Option.bind_some, Option.map_some, reduceCtorEq, ldv_true, ldv_false, lloadV_agg, partL, List.toList_toArray, cellsOf_set, cellsOf_new, rd_set, rd_new, List.length_cons, List.length_nil, Nat.reduceAdd, Nat.reduceLeDiff, Nat.le_refl, List.take_succ_cons, List.take_zero, List.drop_zero, Nat.add_eq_left, Nat.left_eq_add, List.getElem?_cons_zero, List.getElem?_cons_succ, aF25]; rw [retQ_some]; simp only [oneOr]
  have : be v 1 = [v] := by simp [be]; omega
  rw [this] at h2
  exact ⟨rfl, d', h2, h3⟩

theorem outFour (o : Nat) (d : Value) (bs : List Int) (v : Int) (S : St) (h : IsOut S o d bs) (h0 : 0 ≤ v) (h1 : v < 4294967296) (hlen : bs.length ≤ 1000000000) :
    ACalls Try.prog 26 [ptr o, .int .u32 v] S (OutPost S o d (bs ++ be v 4)) := by
  refine ACalls.run hmix Try.func26 cF26 kF26 rfl fun hL Q hQ => ?_
  simp only [go_sem, i64_wrap_id, Int.reduceAdd, Int.reduceSub, Int.reduceNeg, Int.reduceMul, Nat.reduceSub, Nat.reduceEqDiff, Nat.reduceAdd, Nat.reduceMul, Nat.reduceLeDiff, ↓reduceIte, reduceCtorEq, Int.reduceToNat, Int.reduceLT, Int.reduceLE, Int.reduceEq, aF26]
  rw [show IntKind.u64.wrap v = v by rw [wrap64u]; omega]
  refine cK_of (wide_any o d bs v 4 S h (by omega) hlen) ?_
  rintro r S' hS hL' ⟨rfl, d', h2, h3⟩
  simp only [go_sem, i64_wrap_id, Int.reduceAdd, Int.reduceSub, Int.reduceNeg, Int.reduceMul, Nat.reduceSub, Nat.reduceEqDiff, Nat.reduceAdd, Nat.reduceMul, Nat.reduceLeDiff, ↓reduceIte, reduceCtorEq, Int.reduceToNat, Int.reduceLT, Int.reduceLE, Int.reduceEq]
  refine hQ _ _ _ ?_; (first | rw [k_body_ret] | rw [k_body_normal]); simp only [resVals, resVal, ev, Env.get_put, ↓reduceIte, Nat.reduceEqDiff, Option.bind_some, Option.map_some, reduceCtorEq, ldv_true, ldv_false, lloadV_agg, partL, List.toList_toArray, cellsOf_set, cellsOf_new, rd_set, rd_new, List.length_cons, List.length_nil, Nat.reduceAdd, Nat.reduceLeDiff, Nat.le_refl, List.take_succ_cons, List.take_zero, List.drop_zero, Nat.add_eq_left, Nat.left_eq_add, List.getElem?_cons_zero, List.getElem?_cons_succ, aF26]; rw [retQ_some]; simp only [oneOr]
  exact ⟨rfl, d', h2, h3⟩

theorem outEight (o : Nat) (d : Value) (bs : List Int) (v : Int) (S : St) (h : IsOut S o d bs) (hlen : bs.length ≤ 1000000000) :
    ACalls Try.prog 27 [ptr o, .int .i64 v] S (OutPost S o d (bs ++ be (v % 18446744073709551616) 8)) := by
  refine ACalls.run hmix Try.func27 cF27 kF27 rfl fun hL Q hQ => ?_
  simp only [go_sem, i64_wrap_id, Int.reduceAdd, Int.reduceSub, Int.reduceNeg, Int.reduceMul, Nat.reduceSub, Nat.reduceEqDiff, Nat.reduceAdd, Nat.reduceMul, Nat.reduceLeDiff, ↓reduceIte, reduceCtorEq, Int.reduceToNat, Int.reduceLT, Int.reduceLE, Int.reduceEq, aF27]
  rw [wrap64u]
  refine cK_of (wide_any o d bs _ 8 S h (by omega) hlen) ?_
  rintro r S' hS hL' ⟨rfl, d', h2, h3⟩
  simp only [go_sem, i64_wrap_id, Int.reduceAdd, Int.reduceSub, Int.reduceNeg, Int.reduceMul, Nat.reduceSub, Nat.reduceEqDiff, Nat.reduceAdd, Nat.reduceMul, Nat.reduceLeDiff, ↓reduceIte, reduceCtorEq, Int.reduceToNat, Int.reduceLT, Int.reduceLE, Int.reduceEq]
  refine hQ _ _ _ ?_; (first | rw [k_body_ret] | rw [k_body_normal]); simp only [resVals, resVal, ev, Env.get_put, ↓reduceIte, Nat.reduceEqDiff, Option.bind_some, Option.map_some, reduceCtorEq, ldv_true, ldv_false, lloadV_agg, partL, List.toList_toArray, cellsOf_set, cellsOf_new, rd_set, rd_new, List.length_cons, List.length_nil, Nat.reduceAdd, Nat.reduceLeDiff, Nat.le_refl, List.take_succ_cons, List.take_zero, List.drop_zero, Nat.add_eq_left, Nat.left_eq_add, List.getElem?_cons_zero, List.getElem?_cons_succ, aF27]; rw [retQ_some]; simp only [oneOr]
  exact ⟨rfl, d', h2, h3⟩

theorem outEight_nil (v : Int) (S : St) : ACalls Try.prog 27 [.pointer none, .int .i64 v] S fun r S' => r = .tuple #[] ∧ S' = S := by
  refine ACalls.run hmix Try.func27 cF27 kF27 rfl fun hL Q hQ => ?_
  simp only [go_sem, i64_wrap_id, Int.reduceAdd, Int.reduceSub, Int.reduceNeg, Int.reduceMul, Nat.reduceSub, Nat.reduceEqDiff, Nat.reduceAdd, Nat.reduceMul, Nat.reduceLeDiff, ↓reduceIte, reduceCtorEq, Int.reduceToNat, Int.reduceLT, Int.reduceLE, Int.reduceEq, aF27]
  refine cK_of (wide_nil _ _ S) ?_
  rintro r S' hS hL' ⟨rfl, rfl⟩
  simp only [go_sem, i64_wrap_id, Int.reduceAdd, Int.reduceSub, Int.reduceNeg, Int.reduceMul, Nat.reduceSub, Nat.reduceEqDiff, Nat.reduceAdd, Nat.reduceMul, Nat.reduceLeDiff, ↓reduceIte, reduceCtorEq, Int.reduceToNat, Int.reduceLT, Int.reduceLE, Int.reduceEq]
  refine hQ _ _ _ ?_; (first | rw [k_body_ret] | rw [k_body_normal]); simp only [resVals, resVal, ev, Env.get_put, ↓reduceIte, Nat.reduceEqDiff, Option.bind_some, Option.map_some, reduceCtorEq, ldv_true, ldv_false, lloadV_agg, partL, List.toList_toArray, cellsOf_set, cellsOf_new, rd_set, rd_new, List.length_cons, List.length_nil, Nat.reduceAdd, Nat.reduceLeDiff, Nat.le_refl, List.take_succ_cons, List.take_zero, List.drop_zero, Nat.add_eq_left, Nat.left_eq_add, List.getElem?_cons_zero, List.getElem?_cons_succ, aF27]; rw [retQ_some]; simp only [oneOr]
  simp


theorem outBytes (o : Nat) (d : Value) (bs : List Int) (S : St) (h : IsOut S o d bs) (hlen : bs.length ≤ 1000000000) :
    ACalls Try.prog 29 [ptr o] S fun r S' => OwnBs S' r bs ∧ KeepsAll S S' ∧ Fresh S r := by
  refine ACalls.run hmix Try.func29 cF29 kF29 rfl fun hL Q hQ => ?_
  have hr : rd S o 0 = some d := by rw [rd_of_blk h.1]; rfl
  simp only [go_sem, i64_wrap_id, Int.reduceAdd, Int.reduceSub, Int.reduceNeg, Int.reduceMul, Nat.reduceSub, Nat.reduceEqDiff, Nat.reduceAdd, Nat.reduceMul, Nat.reduceLeDiff, ↓reduceIte, reduceCtorEq, Int.reduceToNat, Int.reduceLT, Int.reduceLE, Int.reduceEq, aF29, hr]
  refine cK_of (clone_any d bs S h.2.1.sl hlen) ?_
  rintro r S' hS hL' ⟨h1, h2, h3⟩
  simp only [go_sem, i64_wrap_id, Int.reduceAdd, Int.reduceSub, Int.reduceNeg, Int.reduceMul, Nat.reduceSub, Nat.reduceEqDiff, Nat.reduceAdd, Nat.reduceMul, Nat.reduceLeDiff, ↓reduceIte, reduceCtorEq, Int.reduceToNat, Int.reduceLT, Int.reduceLE, Int.reduceEq]
  refine hQ _ _ _ ?_; (first | rw [k_body_ret] | rw [k_body_normal]); simp only [resVals, resVal, ev, Env.get_put, ↓reduceIte, Nat.reduceEqDiff, Option.bind_some, Option.map_some, reduceCtorEq, ldv_true, ldv_false, lloadV_agg, partL, List.toList_toArray, cellsOf_set, cellsOf_new, rd_set, rd_new, List.length_cons, List.length_nil, Nat.reduceAdd, Nat.reduceLeDiff, Nat.le_refl, List.take_succ_cons, List.take_zero, List.drop_zero, Nat.add_eq_left, Nat.left_eq_add, List.getElem?_cons_zero, List.getElem?_cons_succ, aF29]; rw [retQ_some]; simp only [oneOr]
  exact ⟨h1, h2, h3⟩

theorem outBytes_nil (S : St) : ACalls Try.prog 29 [.pointer none] S fun r S' => r = .slice none 0 0 ∧ S' = S := by
  refine ACalls.run hmix Try.func29 cF29 kF29 rfl fun hL Q hQ => ?_
  simp only [go_sem, i64_wrap_id, Int.reduceAdd, Int.reduceSub, Int.reduceNeg, Int.reduceMul, Nat.reduceSub, Nat.reduceEqDiff, Nat.reduceAdd, Nat.reduceMul, Nat.reduceLeDiff, ↓reduceIte, reduceCtorEq, Int.reduceToNat, Int.reduceLT, Int.reduceLE, Int.reduceEq, aF29]
  refine hQ _ _ _ ?_; (first | rw [k_body_ret] | rw [k_body_normal]); simp only [resVals, resVal, ev, Env.get_put, ↓reduceIte, Nat.reduceEqDiff, Option.bind_some, Option.map_some, reduceCtorEq, ldv_true, ldv_false, lloadV_agg, partL, List.toList_toArray, cellsOf_set, cellsOf_new, rd_set, rd_new, List.length_cons, List.length_nil, Nat.reduceAdd, Nat.reduceLeDiff, Nat.le_refl, List.take_succ_cons, List.take_zero, List.drop_zero, Nat.add_eq_left, Nat.left_eq_add, List.getElem?_cons_zero, List.getElem?_cons_succ, aF29]; rw [retQ_some]; simp only [oneOr]
  simp

theorem newIn (v : Value) (xs : List Int) (S : St) (h : Bs S v xs) (hx : Byt xs) (hlen : xs.length ≤ 1000000000) :
    ACalls Try.prog 30 [v] S fun r S' => ∃ i x, r = ptr i ∧ IsIn S' i x xs false ∧ KeepsAll S S' ∧ S.next ≤ i ∧ Fresh S x := by
  refine ACalls.run hmix Try.func30 cF30 kF30 rfl fun hL Q hQ => ?_
  simp only [go_sem, i64_wrap_id, Int.reduceAdd, Int.reduceSub, Int.reduceNeg, Int.reduceMul, Nat.reduceSub, Nat.reduceEqDiff, Nat.reduceAdd, Nat.reduceMul, Nat.reduceLeDiff, ↓reduceIte, reduceCtorEq, Int.reduceToNat, Int.reduceLT, Int.reduceLE, Int.reduceEq, aF30]
  refine cK_of (clone_any v xs S h hlen) ?_
  rintro r S' hS hL' ⟨h1, h2, h3⟩
  obtain ⟨a, e, rfl⟩ := h1.sl.slice
  simp only [go_sem, i64_wrap_id, Int.reduceAdd, Int.reduceSub, Int.reduceNeg, Int.reduceMul, Nat.reduceSub, Nat.reduceEqDiff, Nat.reduceAdd, Nat.reduceMul, Nat.reduceLeDiff, ↓reduceIte, reduceCtorEq, Int.reduceToNat, Int.reduceLT, Int.reduceLE, Int.reduceEq]
  refine hQ _ _ _ ?_; (first | rw [k_body_ret] | rw [k_body_normal]); simp only [resVals, resVal, ev, Env.get_put, ↓reduceIte, Nat.reduceEqDiff, Option.bind_some, Option.map_some, reduceCtorEq, ldv_true, ldv_false, lloadV_agg, partL, List.toList_toArray, cellsOf_set, cellsOf_new, rd_set, rd_new, List.length_cons, List.length_nil, Nat.reduceAdd, Nat.reduceLeDiff, Nat.le_refl, List.take_succ_cons, List.take_zero, List.drop_zero, Nat.add_eq_left, Nat.left_eq_add, List.getElem?_cons_zero, List.getElem?_cons_succ, aF30]; rw [retQ_some]; simp only [oneOr]
  refine ⟨_, _, rfl, ⟨by simp [St.blk_new], ?_, ?_, hx, by simp⟩, h2.new _, hS, h3⟩
  · exact Sl.keeps hL' h1.sl (Keeps.of_new _ _ fun _ => True) (fun _ _ => trivial)
  · intro e
    exact absurd (h1.sl.lt hL' e) (Nat.lt_irrefl _)

end Go.Proofs.Ytbgnaeagdneikaa
