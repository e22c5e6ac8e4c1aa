/- When the program calls a style within the limits. -/
import Derived.Test.YtbgnaeagdneikaaY2
namespace Go.Proofs.Ytbgnaeagdneikaa
open Go Go.Proofs.Ytbgnaeagdneikaa.Abs
set_option linter.unusedSimpArgs false
set_option linter.unusedVariables false

theorem within67 (n most : Int) (S : St) (h0 : 0 ≤ most) (h1 : most ≤ 1099511627776) : ACalls Try.prog 67 [.int .i64 n, .int .i64 most] S fun r S' => (∃ c, r = .bool c ∧ (c = true ↔ -most ≤ n ∧ n ≤ most)) ∧ S' = S := by
  refine ACalls.run hmix Try.func67 cF67 kF67 rfl fun hL Q hQ => ?_
  have hw : IntKind.i64.wrap (0 - most) = -most := by rw [wrap64_id (by omega) (by omega)]; omega
  simp only [go_sem, i64_wrap_id, Int.reduceAdd, Int.reduceSub, Int.reduceNeg, Int.reduceMul, Nat.reduceSub, Nat.reduceEqDiff, Nat.reduceAdd, Nat.reduceMul, Nat.reduceLeDiff, ↓reduceIte, reduceCtorEq, Int.reduceToNat, Int.reduceLT, Int.reduceLE, Int.reduceEq, aF67, hw]
  repeat' (first | refine gK_splitN (fun hg => ?_) (fun hg => ?_) <;> simp only [go_sem, i64_wrap_id, Int.reduceAdd, Int.reduceSub, Int.reduceNeg, Int.reduceMul, Nat.reduceSub, Nat.reduceEqDiff, Nat.reduceAdd, Nat.reduceMul, Nat.reduceLeDiff, ↓reduceIte, reduceCtorEq, Int.reduceToNat, Int.reduceLT, Int.reduceLE, Int.reduceEq, hg] | refine gK_split (fun hg => ?_) (fun hg => ?_) <;> simp only [go_sem, i64_wrap_id, Int.reduceAdd, Int.reduceSub, Int.reduceNeg, Int.reduceMul, Nat.reduceSub, Nat.reduceEqDiff, Nat.reduceAdd, Nat.reduceMul, Nat.reduceLeDiff, ↓reduceIte, reduceCtorEq, Int.reduceToNat, Int.reduceLT, Int.reduceLE, Int.reduceEq, hg])
  all_goals
    refine hQ _ _ _ ?_; (first | rw [k_body_ret] | rw [k_body_normal]); simp only [resVals, resVal, ev, Env.get_put, ↓reduceIte, Nat.reduceEqDiff, Option.bind_some, Option.map_some, reduceCtorEq, ldv_true, ldv_false, lloadV_agg, partL, List.toList_toArray, cellsOf_set, cellsOf_new, rd_set, rd_new, List.length_cons, List.length_nil, Nat.reduceAdd, Nat.reduceLeDiff, Nat.le_refl, List.take_succ_cons, List.take_zero, List.drop_zero, Nat.add_eq_left, Nat.left_eq_add, List.getElem?_cons_zero, List.getElem?_cons_succ, aF67]; rw [retQ_some]; simp only [oneOr]
    refine ⟨⟨_, rfl, ?_⟩, (by first | rfl | trivial)⟩
    simp at *
    try omega

theorem within22 (s : Sty) (hs : s.Ok) (S : St) : ACalls Try.prog 22 [.agg s.cells.toArray] S (BoolPost (SWithin s) S) := by
  refine ACalls.run hmix Try.func22 cF22 kF22 rfl fun hL Q hQ => ?_
  simp only [go_sem, i64_wrap_id, Int.reduceAdd, Int.reduceSub, Int.reduceNeg, Int.reduceMul, Nat.reduceSub, Nat.reduceEqDiff, Nat.reduceAdd, Nat.reduceMul, Nat.reduceLeDiff, ↓reduceIte, reduceCtorEq, Int.reduceToNat, Int.reduceLT, Int.reduceLE, Int.reduceEq, aF22]
  have hk0 : KeepsAll S (S.new ⟨false, s.cells⟩) := Keeps.of_new _ _ _
  have hl18 := hs.lens
  have hb4 := hs.border
  refine cK_of (lengths64 S.next _) ?_
  rintro r1 S1 hS1 hL1 ⟨hO1, hK1, hF1⟩
  have hK01 : KeepsAll S S1 := hk0.trans hK1 fun _ _ _ => trivial
  have hbl : S1.blk S.next = some ⟨false, s.cells⟩ := by rw [hK1.2 _ (by simp [St.next_new]) trivial]; simp [St.blk_new]
  have hsty : StyAt S1 S.next s := .of_blk hbl hs
  have a := hsty.all hs
  obtain ⟨dp, hr1, hbp, _⟩ := hO1.ne (by omega)
  simp only [go_sem, i64_wrap_id, Int.reduceAdd, Int.reduceSub, Int.reduceNeg, Int.reduceMul, Nat.reduceSub, Nat.reduceEqDiff, Nat.reduceAdd, Nat.reduceMul, Nat.reduceLeDiff, ↓reduceIte, reduceCtorEq, Int.reduceToNat, Int.reduceLT, Int.reduceLE, Int.reduceEq, hr1]
  refine lK_of (fun t' S' => S' = S1 ∧ ∃ j : Nat, j ≤ 18 ∧ (∀ i (h : i < s.lens.length), i < j → LenIn s.lens[i]) ∧ t' 1 = ptr S.next ∧ t' 7 = r1 ∧ t' 8 = .int .i64 18 ∧ t' 9 = .int .i64 j) (fun t' _ => (18 - RowKit.intOf (t' 9)).toNat) ?_ ?_
  · refine ⟨rfl, 0, by omega, by omega, ?_, ?_, ?_, ?_⟩
    · simp only [go_sem, i64_wrap_id, Int.reduceAdd, Int.reduceSub, Int.reduceNeg, Int.reduceMul, Nat.reduceSub, Nat.reduceEqDiff, Nat.reduceAdd, Nat.reduceMul, Nat.reduceLeDiff, ↓reduceIte, reduceCtorEq, Int.reduceToNat, Int.reduceLT, Int.reduceLE, Int.reduceEq]
    · simp only [go_sem, i64_wrap_id, Int.reduceAdd, Int.reduceSub, Int.reduceNeg, Int.reduceMul, Nat.reduceSub, Nat.reduceEqDiff, Nat.reduceAdd, Nat.reduceMul, Nat.reduceLeDiff, ↓reduceIte, reduceCtorEq, Int.reduceToNat, Int.reduceLT, Int.reduceLE, Int.reduceEq, hr1]
    · simp only [go_sem, i64_wrap_id, Int.reduceAdd, Int.reduceSub, Int.reduceNeg, Int.reduceMul, Nat.reduceSub, Nat.reduceEqDiff, Nat.reduceAdd, Nat.reduceMul, Nat.reduceLeDiff, ↓reduceIte, reduceCtorEq, Int.reduceToNat, Int.reduceLT, Int.reduceLE, Int.reduceEq]; rfl
    · simp only [go_sem, i64_wrap_id, Int.reduceAdd, Int.reduceSub, Int.reduceNeg, Int.reduceMul, Nat.reduceSub, Nat.reduceEqDiff, Nat.reduceAdd, Nat.reduceMul, Nat.reduceLeDiff, ↓reduceIte, reduceCtorEq, Int.reduceToNat, Int.reduceLT, Int.reduceLE, Int.reduceEq]; rfl
  · rintro t1 S2 Q1 ⟨rfl, j, hj, hg, h1, h7, h8, h9⟩ hL2 hN hE
    by_cases hj18 : j = 18
    · subst hj18
      simp only [go_sem, i64_wrap_id, Int.reduceAdd, Int.reduceSub, Int.reduceNeg, Int.reduceMul, Nat.reduceSub, Nat.reduceEqDiff, Nat.reduceAdd, Nat.reduceMul, Nat.reduceLeDiff, ↓reduceIte, reduceCtorEq, Int.reduceToNat, Int.reduceLT, Int.reduceLE, Int.reduceEq, h8, h9, show ¬ (((18 : Nat) : Int) < 18) by omega]
      refine hE _ _ _ (by simp) ?_
      simp only [go_sem, i64_wrap_id, Int.reduceAdd, Int.reduceSub, Int.reduceNeg, Int.reduceMul, Nat.reduceSub, Nat.reduceEqDiff, Nat.reduceAdd, Nat.reduceMul, Nat.reduceLeDiff, ↓reduceIte, reduceCtorEq, Int.reduceToNat, Int.reduceLT, Int.reduceLE, Int.reduceEq, h1, a.borders]
      refine lK_of (fun t' S' => S' = S2 ∧ ∃ k : Nat, k ≤ 4 ∧ (∀ i (h : i < s.border.length), i < k → s.border[i] ≤ 1099511627776) ∧ t' 1 = ptr S.next ∧ t' 43 = .agg (s.border.map (Value.int .i64)).toArray ∧ t' 44 = .int .i64 k) (fun t' _ => (4 - RowKit.intOf (t' 44)).toNat) ?_ ?_
      · refine ⟨rfl, 0, by omega, by omega, ?_, ?_, ?_⟩
        · simp only [go_sem, i64_wrap_id, Int.reduceAdd, Int.reduceSub, Int.reduceNeg, Int.reduceMul, Nat.reduceSub, Nat.reduceEqDiff, Nat.reduceAdd, Nat.reduceMul, Nat.reduceLeDiff, ↓reduceIte, reduceCtorEq, Int.reduceToNat, Int.reduceLT, Int.reduceLE, Int.reduceEq, h1]
        · simp only [go_sem, i64_wrap_id, Int.reduceAdd, Int.reduceSub, Int.reduceNeg, Int.reduceMul, Nat.reduceSub, Nat.reduceEqDiff, Nat.reduceAdd, Nat.reduceMul, Nat.reduceLeDiff, ↓reduceIte, reduceCtorEq, Int.reduceToNat, Int.reduceLT, Int.reduceLE, Int.reduceEq]
        · simp only [go_sem, i64_wrap_id, Int.reduceAdd, Int.reduceSub, Int.reduceNeg, Int.reduceMul, Nat.reduceSub, Nat.reduceEqDiff, Nat.reduceAdd, Nat.reduceMul, Nat.reduceLeDiff, ↓reduceIte, reduceCtorEq, Int.reduceToNat, Int.reduceLT, Int.reduceLE, Int.reduceEq]; rfl
      · rintro t3 S4 Q3 ⟨rfl, m, hm, hg3, f1, f43, f44⟩ hL4 hN3 hE3
        by_cases hm4 : m = 4
        · subst hm4
          simp only [go_sem, i64_wrap_id, Int.reduceAdd, Int.reduceSub, Int.reduceNeg, Int.reduceMul, Nat.reduceSub, Nat.reduceEqDiff, Nat.reduceAdd, Nat.reduceMul, Nat.reduceLeDiff, ↓reduceIte, reduceCtorEq, Int.reduceToNat, Int.reduceLT, Int.reduceLE, Int.reduceEq, f44, show ¬ (((4 : Nat) : Int) < 4) by omega]
          refine hE3 _ _ _ (by simp) ?_
          have hform : SWithin s ↔ (-1073741824 ≤ s.z ∧ s.z ≤ 1073741824 ∧ s.back ≤ 16777216 ∧ s.line ≤ 16777216) :=
            ⟨fun h => h.2.2, fun h => ⟨fun j hj => hg j hj (by omega), fun k hk => hg3 k hk (by omega), h⟩⟩
          simp only [go_sem, i64_wrap_id, Int.reduceAdd, Int.reduceSub, Int.reduceNeg, Int.reduceMul, Nat.reduceSub, Nat.reduceEqDiff, Nat.reduceAdd, Nat.reduceMul, Nat.reduceLeDiff, ↓reduceIte, reduceCtorEq, Int.reduceToNat, Int.reduceLT, Int.reduceLE, Int.reduceEq, f1, a.z]
          refine cK_of (within67 _ 1073741824 S4 (by omega) (by omega)) ?_
          rintro r3 S3 hS3 hL3 ⟨⟨c, rfl, hc⟩, rfl⟩
          cases c
          · simp only [go_sem, i64_wrap_id, Int.reduceAdd, Int.reduceSub, Int.reduceNeg, Int.reduceMul, Nat.reduceSub, Nat.reduceEqDiff, Nat.reduceAdd, Nat.reduceMul, Nat.reduceLeDiff, ↓reduceIte, reduceCtorEq, Int.reduceToNat, Int.reduceLT, Int.reduceLE, Int.reduceEq, f1, a.back, a.line]
            refine hQ _ _ _ ?_; (first | rw [k_body_ret] | rw [k_body_normal]); simp only [resVals, resVal, ev, Env.get_put, ↓reduceIte, Nat.reduceEqDiff, Option.bind_some, Option.map_some, reduceCtorEq, ldv_true, ldv_false, lloadV_agg, partL, List.toList_toArray, cellsOf_set, cellsOf_new, rd_set, rd_new, List.length_cons, List.length_nil, Nat.reduceAdd, Nat.reduceLeDiff, Nat.le_refl, List.take_succ_cons, List.take_zero, List.drop_zero, Nat.add_eq_left, Nat.left_eq_add, List.getElem?_cons_zero, List.getElem?_cons_succ, aF22]; rw [retQ_some]; simp only [oneOr]
            refine ⟨⟨_, rfl, Iff.trans ?_ hform.symm⟩, hK01⟩
            simp at *
            try omega
          · simp only [go_sem, i64_wrap_id, Int.reduceAdd, Int.reduceSub, Int.reduceNeg, Int.reduceMul, Nat.reduceSub, Nat.reduceEqDiff, Nat.reduceAdd, Nat.reduceMul, Nat.reduceLeDiff, ↓reduceIte, reduceCtorEq, Int.reduceToNat, Int.reduceLT, Int.reduceLE, Int.reduceEq, f1, a.back, a.line]
            repeat' (first | refine gK_splitN (fun hg => ?_) (fun hg => ?_) <;> simp only [go_sem, i64_wrap_id, Int.reduceAdd, Int.reduceSub, Int.reduceNeg, Int.reduceMul, Nat.reduceSub, Nat.reduceEqDiff, Nat.reduceAdd, Nat.reduceMul, Nat.reduceLeDiff, ↓reduceIte, reduceCtorEq, Int.reduceToNat, Int.reduceLT, Int.reduceLE, Int.reduceEq, hg, f1, a.back, a.line] | refine gK_split (fun hg => ?_) (fun hg => ?_) <;> simp only [go_sem, i64_wrap_id, Int.reduceAdd, Int.reduceSub, Int.reduceNeg, Int.reduceMul, Nat.reduceSub, Nat.reduceEqDiff, Nat.reduceAdd, Nat.reduceMul, Nat.reduceLeDiff, ↓reduceIte, reduceCtorEq, Int.reduceToNat, Int.reduceLT, Int.reduceLE, Int.reduceEq, hg, f1, a.back, a.line])
            all_goals
              refine hQ _ _ _ ?_; (first | rw [k_body_ret] | rw [k_body_normal]); simp only [resVals, resVal, ev, Env.get_put, ↓reduceIte, Nat.reduceEqDiff, Option.bind_some, Option.map_some, reduceCtorEq, ldv_true, ldv_false, lloadV_agg, partL, List.toList_toArray, cellsOf_set, cellsOf_new, rd_set, rd_new, List.length_cons, List.length_nil, Nat.reduceAdd, Nat.reduceLeDiff, Nat.le_refl, List.take_succ_cons, List.take_zero, List.drop_zero, Nat.add_eq_left, Nat.left_eq_add, List.getElem?_cons_zero, List.getElem?_cons_succ, aF22]; rw [retQ_some]; simp only [oneOr]
              refine ⟨⟨_, rfl, Iff.trans ?_ hform.symm⟩, hK01⟩
              simp at *
              try omega
        · have hlt : ((m : Int) < 4) := by omega
          have hm0 : (0 : Int) ≤ m := by omega
          have hm1 : IntKind.i64.wrap ((m : Int) + 1) = m + 1 := wrap64_id (by omega) (by omega)
          have eb : (s.border.map (Value.int .i64))[m]? = some (.int .i64 (s.border[m]'(by omega))) := by simp [hb4, show m < 4 by omega]
          by_cases c3 : (s.border[m]'(by omega)) > 1099511627776
          · simp only [go_sem, i64_wrap_id, Int.reduceAdd, Int.reduceSub, Int.reduceNeg, Int.reduceMul, Nat.reduceSub, Nat.reduceEqDiff, Nat.reduceAdd, Nat.reduceMul, Nat.reduceLeDiff, ↓reduceIte, reduceCtorEq, Int.reduceToNat, Int.reduceLT, Int.reduceLE, Int.reduceEq, f1, f43, f44, hlt, hm0, Int.toNat_natCast, Nat.mul_one, eb, c3, show (((4 : Nat) : Int)) = 4 from rfl]
            refine hE3 _ _ _ (by simp) ?_
            simp only [go_sem, i64_wrap_id, Int.reduceAdd, Int.reduceSub, Int.reduceNeg, Int.reduceMul, Nat.reduceSub, Nat.reduceEqDiff, Nat.reduceAdd, Nat.reduceMul, Nat.reduceLeDiff, ↓reduceIte, reduceCtorEq, Int.reduceToNat, Int.reduceLT, Int.reduceLE, Int.reduceEq]
            refine hQ _ _ _ ?_; (first | rw [k_body_ret] | rw [k_body_normal]); simp only [resVals, resVal, ev, Env.get_put, ↓reduceIte, Nat.reduceEqDiff, Option.bind_some, Option.map_some, reduceCtorEq, ldv_true, ldv_false, lloadV_agg, partL, List.toList_toArray, cellsOf_set, cellsOf_new, rd_set, rd_new, List.length_cons, List.length_nil, Nat.reduceAdd, Nat.reduceLeDiff, Nat.le_refl, List.take_succ_cons, List.take_zero, List.drop_zero, Nat.add_eq_left, Nat.left_eq_add, List.getElem?_cons_zero, List.getElem?_cons_succ, aF22]; rw [retQ_some]; simp only [oneOr]
            refine ⟨⟨false, rfl, ⟨fun e => (by cases e), fun e => ?_⟩⟩, hK01⟩
            have := e.2.1 m (by omega)
            omega
          · simp only [go_sem, i64_wrap_id, Int.reduceAdd, Int.reduceSub, Int.reduceNeg, Int.reduceMul, Nat.reduceSub, Nat.reduceEqDiff, Nat.reduceAdd, Nat.reduceMul, Nat.reduceLeDiff, ↓reduceIte, reduceCtorEq, Int.reduceToNat, Int.reduceLT, Int.reduceLE, Int.reduceEq, f1, f43, f44, hlt, hm0, Int.toNat_natCast, Nat.mul_one, eb, c3, hm1, show (((4 : Nat) : Int)) = 4 from rfl]
            refine hN3 _ _ ⟨rfl, m + 1, by omega, fun i hi hij => ?_, ?_, ?_, ?_⟩ ?_
            · by_cases e : i = m
              · subst e; omega
              · exact hg3 i hi (by omega)
            · simp only [go_sem, i64_wrap_id, Int.reduceAdd, Int.reduceSub, Int.reduceNeg, Int.reduceMul, Nat.reduceSub, Nat.reduceEqDiff, Nat.reduceAdd, Nat.reduceMul, Nat.reduceLeDiff, ↓reduceIte, reduceCtorEq, Int.reduceToNat, Int.reduceLT, Int.reduceLE, Int.reduceEq, f1]
            · simp only [go_sem, i64_wrap_id, Int.reduceAdd, Int.reduceSub, Int.reduceNeg, Int.reduceMul, Nat.reduceSub, Nat.reduceEqDiff, Nat.reduceAdd, Nat.reduceMul, Nat.reduceLeDiff, ↓reduceIte, reduceCtorEq, Int.reduceToNat, Int.reduceLT, Int.reduceLE, Int.reduceEq, f43]
            · simp only [go_sem, i64_wrap_id, Int.reduceAdd, Int.reduceSub, Int.reduceNeg, Int.reduceMul, Nat.reduceSub, Nat.reduceEqDiff, Nat.reduceAdd, Nat.reduceMul, Nat.reduceLeDiff, ↓reduceIte, reduceCtorEq, Int.reduceToNat, Int.reduceLT, Int.reduceLE, Int.reduceEq]; congr 1
            · simp only [go_sem, i64_wrap_id, Int.reduceAdd, Int.reduceSub, Int.reduceNeg, Int.reduceMul, Nat.reduceSub, Nat.reduceEqDiff, Nat.reduceAdd, Nat.reduceMul, Nat.reduceLeDiff, ↓reduceIte, reduceCtorEq, Int.reduceToNat, Int.reduceLT, Int.reduceLE, Int.reduceEq, f44, RowKit.intOf]
              omega
    · have hlt : ((j : Int) < 18) := by omega
      have hj0 : (0 : Int) ≤ j := by omega
      have hj1 : IntKind.i64.wrap ((j : Int) + 1) = j + 1 := wrap64_id (by omega) (by omega)
      have hp := ptrs_rd (v := r1) hbp j (by omega)
      have ek := a.kind j (by omega)
      have en := a.num j (by omega)
      have next : LenIn (s.lens[j]'(by omega)) → ∀ t', t' 1 = ptr S.next → t' 7 = r1 → t' 8 = .int .i64 18 → t' 9 = .int .i64 ((j : Int) + 1) → Q1 .normal t' S2 := by
        intro hin t' g1 g7 g8 g9
        refine hN _ _ ⟨rfl, j + 1, by omega, fun i hi hij => ?_, g1, g7, g8, g9⟩ ?_
        · by_cases e : i = j
          · subst e; exact hin
          · exact hg i hi (by omega)
        · rw [g9, h9]
          simp [RowKit.intOf]
          omega
      by_cases c1 : (s.lens[j]'(by omega)).1 = 1
      · simp only [go_sem, i64_wrap_id, Int.reduceAdd, Int.reduceSub, Int.reduceNeg, Int.reduceMul, Nat.reduceSub, Nat.reduceEqDiff, Nat.reduceAdd, Nat.reduceMul, Nat.reduceLeDiff, ↓reduceIte, reduceCtorEq, Int.reduceToNat, Int.reduceLT, Int.reduceLE, Int.reduceEq, h1, h7, h8, h9, hlt, hr1, hj0, Int.toNat_natCast, Nat.mul_one, hp, ek, en, c1, show (((18 : Nat) : Int)) = 18 from rfl]
        refine cK_of (within67 _ 1099511627776 S2 (by omega) (by omega)) ?_
        rintro r3 S3 hS3 hL3 ⟨⟨c, rfl, hc⟩, rfl⟩
        cases c
        · simp only [go_sem, i64_wrap_id, Int.reduceAdd, Int.reduceSub, Int.reduceNeg, Int.reduceMul, Nat.reduceSub, Nat.reduceEqDiff, Nat.reduceAdd, Nat.reduceMul, Nat.reduceLeDiff, ↓reduceIte, reduceCtorEq, Int.reduceToNat, Int.reduceLT, Int.reduceLE, Int.reduceEq]
          refine hE _ _ _ (by simp) ?_
          simp only [go_sem, i64_wrap_id, Int.reduceAdd, Int.reduceSub, Int.reduceNeg, Int.reduceMul, Nat.reduceSub, Nat.reduceEqDiff, Nat.reduceAdd, Nat.reduceMul, Nat.reduceLeDiff, ↓reduceIte, reduceCtorEq, Int.reduceToNat, Int.reduceLT, Int.reduceLE, Int.reduceEq]
          refine hQ _ _ _ ?_; (first | rw [k_body_ret] | rw [k_body_normal]); simp only [resVals, resVal, ev, Env.get_put, ↓reduceIte, Nat.reduceEqDiff, Option.bind_some, Option.map_some, reduceCtorEq, ldv_true, ldv_false, lloadV_agg, partL, List.toList_toArray, cellsOf_set, cellsOf_new, rd_set, rd_new, List.length_cons, List.length_nil, Nat.reduceAdd, Nat.reduceLeDiff, Nat.le_refl, List.take_succ_cons, List.take_zero, List.drop_zero, Nat.add_eq_left, Nat.left_eq_add, List.getElem?_cons_zero, List.getElem?_cons_succ, aF22]; rw [retQ_some]; simp only [oneOr]
          refine ⟨⟨false, rfl, ⟨fun e => (by cases e), fun e => ?_⟩⟩, hK01⟩
          exact absurd (hc.2 ((e.1 j (by omega)).1 c1)) (by simp)
        · simp only [go_sem, i64_wrap_id, Int.reduceAdd, Int.reduceSub, Int.reduceNeg, Int.reduceMul, Nat.reduceSub, Nat.reduceEqDiff, Nat.reduceAdd, Nat.reduceMul, Nat.reduceLeDiff, ↓reduceIte, reduceCtorEq, Int.reduceToNat, Int.reduceLT, Int.reduceLE, Int.reduceEq, h9, hj1, ek, c1, Int.reduceBEq]
          refine next ⟨fun _ => hc.1 rfl, fun e => by omega⟩ _ ?_ ?_ ?_ ?_
          · simp only [go_sem, i64_wrap_id, Int.reduceAdd, Int.reduceSub, Int.reduceNeg, Int.reduceMul, Nat.reduceSub, Nat.reduceEqDiff, Nat.reduceAdd, Nat.reduceMul, Nat.reduceLeDiff, ↓reduceIte, reduceCtorEq, Int.reduceToNat, Int.reduceLT, Int.reduceLE, Int.reduceEq, h1]
          · simp only [go_sem, i64_wrap_id, Int.reduceAdd, Int.reduceSub, Int.reduceNeg, Int.reduceMul, Nat.reduceSub, Nat.reduceEqDiff, Nat.reduceAdd, Nat.reduceMul, Nat.reduceLeDiff, ↓reduceIte, reduceCtorEq, Int.reduceToNat, Int.reduceLT, Int.reduceLE, Int.reduceEq, h7]
            try exact hr1
          · simp only [go_sem, i64_wrap_id, Int.reduceAdd, Int.reduceSub, Int.reduceNeg, Int.reduceMul, Nat.reduceSub, Nat.reduceEqDiff, Nat.reduceAdd, Nat.reduceMul, Nat.reduceLeDiff, ↓reduceIte, reduceCtorEq, Int.reduceToNat, Int.reduceLT, Int.reduceLE, Int.reduceEq, h8]
          · simp only [go_sem, i64_wrap_id, Int.reduceAdd, Int.reduceSub, Int.reduceNeg, Int.reduceMul, Nat.reduceSub, Nat.reduceEqDiff, Nat.reduceAdd, Nat.reduceMul, Nat.reduceLeDiff, ↓reduceIte, reduceCtorEq, Int.reduceToNat, Int.reduceLT, Int.reduceLE, Int.reduceEq]
      · have c1' : ((s.lens[j]'(by omega)).1 == 1) = false := by simpa using c1
        by_cases c2 : (s.lens[j]'(by omega)).1 = 2
        · have c2' : ((s.lens[j]'(by omega)).1 == 2) = true := by simpa using c2
          simp only [go_sem, i64_wrap_id, Int.reduceAdd, Int.reduceSub, Int.reduceNeg, Int.reduceMul, Nat.reduceSub, Nat.reduceEqDiff, Nat.reduceAdd, Nat.reduceMul, Nat.reduceLeDiff, ↓reduceIte, reduceCtorEq, Int.reduceToNat, Int.reduceLT, Int.reduceLE, Int.reduceEq, h1, h7, h8, h9, hlt, hr1, hj0, Int.toNat_natCast, Nat.mul_one, hp, ek, en, c1', c2', show (((18 : Nat) : Int)) = 18 from rfl]
          refine cK_of (within67 _ 1000000 S2 (by omega) (by omega)) ?_
          rintro r3 S3 hS3 hL3 ⟨⟨c, rfl, hc⟩, rfl⟩
          cases c
          · simp only [go_sem, i64_wrap_id, Int.reduceAdd, Int.reduceSub, Int.reduceNeg, Int.reduceMul, Nat.reduceSub, Nat.reduceEqDiff, Nat.reduceAdd, Nat.reduceMul, Nat.reduceLeDiff, ↓reduceIte, reduceCtorEq, Int.reduceToNat, Int.reduceLT, Int.reduceLE, Int.reduceEq]
            refine hE _ _ _ (by simp) ?_
            simp only [go_sem, i64_wrap_id, Int.reduceAdd, Int.reduceSub, Int.reduceNeg, Int.reduceMul, Nat.reduceSub, Nat.reduceEqDiff, Nat.reduceAdd, Nat.reduceMul, Nat.reduceLeDiff, ↓reduceIte, reduceCtorEq, Int.reduceToNat, Int.reduceLT, Int.reduceLE, Int.reduceEq]
            refine hQ _ _ _ ?_; (first | rw [k_body_ret] | rw [k_body_normal]); simp only [resVals, resVal, ev, Env.get_put, ↓reduceIte, Nat.reduceEqDiff, Option.bind_some, Option.map_some, reduceCtorEq, ldv_true, ldv_false, lloadV_agg, partL, List.toList_toArray, cellsOf_set, cellsOf_new, rd_set, rd_new, List.length_cons, List.length_nil, Nat.reduceAdd, Nat.reduceLeDiff, Nat.le_refl, List.take_succ_cons, List.take_zero, List.drop_zero, Nat.add_eq_left, Nat.left_eq_add, List.getElem?_cons_zero, List.getElem?_cons_succ, aF22]; rw [retQ_some]; simp only [oneOr]
            refine ⟨⟨false, rfl, ⟨fun e => (by cases e), fun e => ?_⟩⟩, hK01⟩
            exact absurd (hc.2 ((e.1 j (by omega)).2 c2)) (by simp)
          · simp only [go_sem, i64_wrap_id, Int.reduceAdd, Int.reduceSub, Int.reduceNeg, Int.reduceMul, Nat.reduceSub, Nat.reduceEqDiff, Nat.reduceAdd, Nat.reduceMul, Nat.reduceLeDiff, ↓reduceIte, reduceCtorEq, Int.reduceToNat, Int.reduceLT, Int.reduceLE, Int.reduceEq, h9, hj1]
            refine next ⟨fun e => by omega, fun _ => hc.1 rfl⟩ _ ?_ ?_ ?_ ?_
            · simp only [go_sem, i64_wrap_id, Int.reduceAdd, Int.reduceSub, Int.reduceNeg, Int.reduceMul, Nat.reduceSub, Nat.reduceEqDiff, Nat.reduceAdd, Nat.reduceMul, Nat.reduceLeDiff, ↓reduceIte, reduceCtorEq, Int.reduceToNat, Int.reduceLT, Int.reduceLE, Int.reduceEq, h1]
            · simp only [go_sem, i64_wrap_id, Int.reduceAdd, Int.reduceSub, Int.reduceNeg, Int.reduceMul, Nat.reduceSub, Nat.reduceEqDiff, Nat.reduceAdd, Nat.reduceMul, Nat.reduceLeDiff, ↓reduceIte, reduceCtorEq, Int.reduceToNat, Int.reduceLT, Int.reduceLE, Int.reduceEq, h7]
              try exact hr1
            · simp only [go_sem, i64_wrap_id, Int.reduceAdd, Int.reduceSub, Int.reduceNeg, Int.reduceMul, Nat.reduceSub, Nat.reduceEqDiff, Nat.reduceAdd, Nat.reduceMul, Nat.reduceLeDiff, ↓reduceIte, reduceCtorEq, Int.reduceToNat, Int.reduceLT, Int.reduceLE, Int.reduceEq, h8]
            · simp only [go_sem, i64_wrap_id, Int.reduceAdd, Int.reduceSub, Int.reduceNeg, Int.reduceMul, Nat.reduceSub, Nat.reduceEqDiff, Nat.reduceAdd, Nat.reduceMul, Nat.reduceLeDiff, ↓reduceIte, reduceCtorEq, Int.reduceToNat, Int.reduceLT, Int.reduceLE, Int.reduceEq]
        · have c2' : ((s.lens[j]'(by omega)).1 == 2) = false := by simpa using c2
          simp only [go_sem, i64_wrap_id, Int.reduceAdd, Int.reduceSub, Int.reduceNeg, Int.reduceMul, Nat.reduceSub, Nat.reduceEqDiff, Nat.reduceAdd, Nat.reduceMul, Nat.reduceLeDiff, ↓reduceIte, reduceCtorEq, Int.reduceToNat, Int.reduceLT, Int.reduceLE, Int.reduceEq, h1, h7, h8, h9, hlt, hr1, hj0, Int.toNat_natCast, Nat.mul_one, hp, ek, en, c1', c2', hj1, show (((18 : Nat) : Int)) = 18 from rfl]
          refine next ⟨fun e => absurd e c1, fun e => absurd e c2⟩ _ ?_ ?_ ?_ ?_
          · simp only [go_sem, i64_wrap_id, Int.reduceAdd, Int.reduceSub, Int.reduceNeg, Int.reduceMul, Nat.reduceSub, Nat.reduceEqDiff, Nat.reduceAdd, Nat.reduceMul, Nat.reduceLeDiff, ↓reduceIte, reduceCtorEq, Int.reduceToNat, Int.reduceLT, Int.reduceLE, Int.reduceEq, h1]
          · simp only [go_sem, i64_wrap_id, Int.reduceAdd, Int.reduceSub, Int.reduceNeg, Int.reduceMul, Nat.reduceSub, Nat.reduceEqDiff, Nat.reduceAdd, Nat.reduceMul, Nat.reduceLeDiff, ↓reduceIte, reduceCtorEq, Int.reduceToNat, Int.reduceLT, Int.reduceLE, Int.reduceEq, h7]
            try exact hr1
          · simp only [go_sem, i64_wrap_id, Int.reduceAdd, Int.reduceSub, Int.reduceNeg, Int.reduceMul, Nat.reduceSub, Nat.reduceEqDiff, Nat.reduceAdd, Nat.reduceMul, Nat.reduceLeDiff, ↓reduceIte, reduceCtorEq, Int.reduceToNat, Int.reduceLT, Int.reduceLE, Int.reduceEq, h8]
          · simp only [go_sem, i64_wrap_id, Int.reduceAdd, Int.reduceSub, Int.reduceNeg, Int.reduceMul, Nat.reduceSub, Nat.reduceEqDiff, Nat.reduceAdd, Nat.reduceMul, Nat.reduceLeDiff, ↓reduceIte, reduceCtorEq, Int.reduceToNat, Int.reduceLT, Int.reduceLE, Int.reduceEq]
end Go.Proofs.Ytbgnaeagdneikaa
