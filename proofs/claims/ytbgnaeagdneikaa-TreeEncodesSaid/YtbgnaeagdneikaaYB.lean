/- The document's answer: a style from bytes. -/
import Derived.Test.YtbgnaeagdneikaaYA
namespace Go.Proofs.Ytbgnaeagdneikaa
open Go Go.Proofs.Ytbgnaeagdneikaa.Abs
set_option linter.unusedSimpArgs false
set_option linter.unusedVariables false

theorem eight71 (v : Int) (S : St) : ACalls Try.prog 71 [.int .i64 v] S fun r S' => OwnBs S' r (be64 v) ∧ KeepsAll S S' ∧ Fresh S r := by
  refine ACalls.run hmix Try.func71 cF71 kF71 rfl fun hL Q hQ => ?_
  simp only [go_sem, i64_wrap_id, Int.reduceAdd, Int.reduceSub, Int.reduceNeg, Int.reduceMul, Nat.reduceSub, Nat.reduceEqDiff, Nat.reduceAdd, Nat.reduceMul, Nat.reduceLeDiff, ↓reduceIte, reduceCtorEq, Int.reduceToNat, Int.reduceLT, Int.reduceLE, Int.reduceEq, aF71, wrap64u]
  refine cK_of (number 8 _ S (by omega) (by omega) (by omega)) ?_
  rintro r S' hS hL' ⟨h2, h3, h4⟩
  simp only [go_sem, i64_wrap_id, Int.reduceAdd, Int.reduceSub, Int.reduceNeg, Int.reduceMul, Nat.reduceSub, Nat.reduceEqDiff, Nat.reduceAdd, Nat.reduceMul, Nat.reduceLeDiff, ↓reduceIte, reduceCtorEq, Int.reduceToNat, Int.reduceLT, Int.reduceLE, Int.reduceEq]
  refine hQ _ _ _ ?_; (first | rw [k_body_ret] | rw [k_body_normal]); simp only [resVals, resVal, ev, Env.get_put, ↓reduceIte, Nat.reduceEqDiff, Option.bind_some, Option.map_some, reduceCtorEq, ldv_true, ldv_false, lloadV_agg, partL, List.toList_toArray, cellsOf_set, cellsOf_new, rd_set, rd_new, List.length_cons, List.length_nil, Nat.reduceAdd, Nat.reduceLeDiff, Nat.le_refl, List.take_succ_cons, List.take_zero, List.drop_zero, Nat.add_eq_left, Nat.left_eq_add, List.getElem?_cons_zero, List.getElem?_cons_succ, aF71]; rw [retQ_some]; simp only [oneOr]
  exact ⟨h2, h3, h4⟩

def LenPost (S : St) (x : Value) (q : (Int × Int) × Pst) (r : Value) (S' : St) : Prop :=
  ∃ x', r = .tuple #[.agg #[.int .i64 q.1.1, .int .i64 q.1.2], .agg #[x', .bool q.2.2]] ∧ Bs S' x' q.2.1 ∧ KeepsAll S S' ∧ ∀ d, Value.blkOf x' = some d → Value.blkOf x = some d

theorem length73 (x : Value) (xs : List Int) (bad : Bool) (S : St) (h : Bs S x xs) (hx : Byt xs) : ACalls Try.prog 73 [.agg #[x, .bool bad]] S (LenPost S x (pLen (xs, bad))) := by
  refine ACalls.run hmix Try.func73 cF73 kF73 rfl fun hL Q hQ => ?_
  obtain ⟨a, e, hxv⟩ := h.slice
  have hk0' : KeepsAll S (((S.new ⟨false, [x, .bool bad]⟩).new ⟨false, [.int .i64 0, .int .i64 0]⟩).new ⟨false, [.slice none 0 0, .bool false]⟩) := ((Keeps.of_new _ _ _).new _).new _
  have hS0 : Bs (((S.new ⟨false, [x, .bool bad]⟩).new ⟨false, [.int .i64 0, .int .i64 0]⟩).new ⟨false, [.slice none 0 0, .bool false]⟩) x xs := Sl.keeps hL h hk0' fun _ _ => trivial
  have n2 : ¬ (S.next = S.next + 1 + 1) := by omega
  simp only [go_sem, i64_wrap_id, Int.reduceAdd, Int.reduceSub, Int.reduceNeg, Int.reduceMul, Nat.reduceSub, Nat.reduceEqDiff, Nat.reduceAdd, Nat.reduceMul, Nat.reduceLeDiff, ↓reduceIte, reduceCtorEq, Int.reduceToNat, Int.reduceLT, Int.reduceLE, Int.reduceEq, aF73, n2]
  refine cK_of (refTake x xs bad 1 _ hS0 hx (by omega) (by omega)) ?_
  rintro r1 S1 hS1 hL1 ⟨x1, rfl, hD1, hK1, hx1⟩
  have hb1 : S1.blk S.next = some ⟨false, [x, .bool bad]⟩ := by rw [hK1.2 _ (by simp [St.next_new]; omega) trivial]; simp [St.blk_new, St.next_new, n2]
  have hb2 : S1.blk (S.next + 1) = some ⟨false, [.int .i64 0, .int .i64 0]⟩ := by rw [hK1.2 _ (by simp [St.next_new]) trivial]; simp [St.blk_new, St.next_new]
  have hb3 : S1.blk (S.next + 1 + 1) = some ⟨false, [.slice none 0 0, .bool false]⟩ := by rw [hK1.2 _ (by simp [St.next_new]) trivial]; simp [St.blk_new, St.next_new]
  have hl3 := hL1 _ _ hb3
  obtain ⟨k, hk⟩ : ∃ k, k = (takeN 1 xs bad).1 := ⟨_, rfl⟩
  have hk8 := takeN_bound (n := 1) (bad := bad) hx
  rw [← hk] at hk8
  rw [← hk]
  have hkw : IntKind.i64.wrap k = k := wrap64_id (by omega) (by omega)
  have m1 : ¬ (S1.next = S.next) := by omega
  have m2 : ¬ (S.next = S1.next) := by omega
  have m3 : ¬ (S.next + 1 = S1.next) := by omega
  have m4 : ¬ (S.next + 1 + 1 = S1.next) := by omega
  have m5 : ¬ (S.next + 1 + 1 = S.next) := by omega
  have m6 : ¬ (S.next = S.next + 1) := by omega
  have m7 : ¬ (S1.next = S.next + 1) := by omega
  have m8 : ¬ (S1.next = S.next + 1 + 1) := by omega
  have m9 : ¬ (S.next + 1 + 1 = S.next + 1) := by omega
  have m10 : ¬ (S.next + 1 = S.next + 1 + 1) := by omega
  have m11 : ¬ (S.next + 1 = S.next) := by omega
  obtain ⟨a1, e1, hx1v⟩ := hD1.slice
  by_cases hk0 : k = 0
  · subst hk0
    have hp : pLen (xs, bad) = ((0, 0), (takeN 1 xs bad).2) := by unfold pLen pByte; rw [← hk, if_pos rfl]
    simp only [go_sem, i64_wrap_id, Int.reduceAdd, Int.reduceSub, Int.reduceNeg, Int.reduceMul, Nat.reduceSub, Nat.reduceEqDiff, Nat.reduceAdd, Nat.reduceMul, Nat.reduceLeDiff, ↓reduceIte, reduceCtorEq, Int.reduceToNat, Int.reduceLT, Int.reduceLE, Int.reduceEq, hb1, hb2, hb3, hkw, m1, m2, m3, m4, m5, m6, m7, m8, m9, m10, m11, n2]
    refine ⟨?_, ?_⟩ <;>
    · refine hQ _ _ _ ?_; (first | rw [k_body_ret] | rw [k_body_normal]); simp only [resVals, resVal, ev, Env.get_put, ↓reduceIte, Nat.reduceEqDiff, Option.bind_some, Option.map_some, reduceCtorEq, ldv_true, ldv_false, lloadV_agg, partL, List.toList_toArray, cellsOf_set, cellsOf_new, rd_set, rd_new, List.length_cons, List.length_nil, Nat.reduceAdd, Nat.reduceLeDiff, Nat.le_refl, List.take_succ_cons, List.take_zero, List.drop_zero, Nat.add_eq_left, Nat.left_eq_add, List.getElem?_cons_zero, List.getElem?_cons_succ, aF73, m1, m2, m3, m4, m5, m6, m7, m8, m9, m10, m11, n2]; rw [retQ_some]; simp only [oneOr]
      rw [hp]
      refine ⟨x1, rfl, Sl.keep hD1 fun d hd => ?_, ?_, hx1⟩
      · have := h.lt hL (hx1 d hd)
        have q1 : ¬ d = S.next := by omega
        have q2 : ¬ d = S.next + 1 := by omega
        have q3 : ¬ d = S.next + 1 + 1 := by omega
        have q4 : ¬ d = S1.next := by omega
        simp only [St.blk_set, St.blk_new, St.next_set, q1, q2, q3, q4, if_false]
      · exact ((((((hk0'.trans hK1 fun _ _ _ => trivial).set (fun q hq _ => by omega) _).new _).set (fun q hq _ => by omega) _).set (fun q hq _ => by omega) _).set (fun q hq _ => by omega) _)
  · have hne : (k != 0) = true := by simpa using hk0
    simp only [go_sem, i64_wrap_id, Int.reduceAdd, Int.reduceSub, Int.reduceNeg, Int.reduceMul, Nat.reduceSub, Nat.reduceEqDiff, Nat.reduceAdd, Nat.reduceMul, Nat.reduceLeDiff, ↓reduceIte, reduceCtorEq, Int.reduceToNat, Int.reduceLT, Int.reduceLE, Int.reduceEq, hb1, hb2, hb3, hkw, hne, m1, m2, m3, m4, m5, m6, m7, m8, m9, m10, m11, n2]
    have hbyt : Byt (takeN 1 xs bad).2.1 := takeN_byt (t := (xs, bad)) hx
    refine cK_of (refEight x1 (takeN 1 xs bad).2.1 (takeN 1 xs bad).2.2 _ (Sl.keep hD1 fun d hd => ?_) hbyt) ?_
    · have := h.lt hL (hx1 d hd)
      have q1 : ¬ d = S.next := by omega
      have q4 : ¬ d = S1.next := by omega
      simp only [St.blk_set, St.blk_new, St.next_set, q1, q4, if_false]
    rintro r2 S2 hS2 hL2 ⟨x2, rfl, hD2, hK2, hx2⟩
    have c1 : S2.blk S.next = some ⟨false, [x1, .bool (takeN 1 xs bad).2.2]⟩ := by
      rw [hK2.2 _ (by simp only [St.next_set, St.next_new]; omega) trivial]
      simp only [St.blk_set, St.blk_new, St.next_set, m2, if_false, if_true]
    have c2 : S2.blk (S.next + 1) = some ⟨false, [.int .i64 0, .int .i64 0]⟩ := by
      rw [hK2.2 _ (by simp only [St.next_set, St.next_new]; omega) trivial]
      simp only [St.blk_set, St.blk_new, St.next_set, m3, m11, if_false, if_true]
      exact hb2
    have c3 : S2.blk (S.next + 1 + 1) = some ⟨false, [.slice none 0 0, .bool false]⟩ := by
      rw [hK2.2 _ (by simp only [St.next_set, St.next_new]; omega) trivial]
      simp only [St.blk_set, St.blk_new, St.next_set, m4, m5, if_false, if_true]
      exact hb3
    have c5 : S2.blk S1.next = some ⟨false, [.int .i64 k, .int .i64 0]⟩ := by
      rw [hK2.2 _ (by simp only [St.next_set, St.next_new]; omega) trivial]
      simp only [St.blk_set, if_true]
    obtain ⟨a2, e2, hx2v⟩ := hD2.slice
    have hp : pLen (xs, bad) = ((k, s64 (takeN 8 (takeN 1 xs bad).2.1 (takeN 1 xs bad).2.2).1), (takeN 8 (takeN 1 xs bad).2.1 (takeN 1 xs bad).2.2).2) := by
      unfold pLen pEight pByte
      rw [← hk, if_neg hk0]
    simp only [go_sem, i64_wrap_id, Int.reduceAdd, Int.reduceSub, Int.reduceNeg, Int.reduceMul, Nat.reduceSub, Nat.reduceEqDiff, Nat.reduceAdd, Nat.reduceMul, Nat.reduceLeDiff, ↓reduceIte, reduceCtorEq, Int.reduceToNat, Int.reduceLT, Int.reduceLE, Int.reduceEq, c1, c2, c3, c5, m1, m2, m3, m4, m5, m6, m7, m8, m9, m10, m11, n2]
    refine ⟨?_, ?_⟩ <;>
    · refine hQ _ _ _ ?_; (first | rw [k_body_ret] | rw [k_body_normal]); simp only [resVals, resVal, ev, Env.get_put, ↓reduceIte, Nat.reduceEqDiff, Option.bind_some, Option.map_some, reduceCtorEq, ldv_true, ldv_false, lloadV_agg, partL, List.toList_toArray, cellsOf_set, cellsOf_new, rd_set, rd_new, List.length_cons, List.length_nil, Nat.reduceAdd, Nat.reduceLeDiff, Nat.le_refl, List.take_succ_cons, List.take_zero, List.drop_zero, Nat.add_eq_left, Nat.left_eq_add, List.getElem?_cons_zero, List.getElem?_cons_succ, aF73, m1, m2, m3, m4, m5, m6, m7, m8, m9, m10, m11, n2]; rw [retQ_some]; simp only [oneOr]
      rw [hp]
      refine ⟨x2, rfl, Sl.keep hD2 fun d hd => ?_, ?_, fun d hd => hx1 d (hx2 d hd)⟩
      · have := h.lt hL (hx1 d (hx2 d hd))
        have q1 : ¬ d = S.next := by omega
        have q2 : ¬ d = S.next + 1 := by omega
        have q3 : ¬ d = S.next + 1 + 1 := by omega
        have q4 : ¬ d = S1.next := by omega
        simp only [St.blk_set, St.blk_new, St.next_set, q1, q2, q3, q4, if_false]
      · have kk : KeepsAll S S2 := ((((hk0'.trans hK1 fun _ _ _ => trivial).set (fun q hq _ => by omega) _).new _).set (fun q hq _ => by omega) _).trans hK2 fun _ _ _ => trivial
        exact (((kk.set (fun q hq _ => by omega) _).set (fun q hq _ => by omega) _).set (fun q hq _ => by omega) _).set (fun q hq _ => by omega) _
end Go.Proofs.Ytbgnaeagdneikaa
