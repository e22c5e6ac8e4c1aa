/- The document's answer: when a style is within the limits. -/
import Derived.Test.YtbgnaeagdneikaaY5
namespace Go.Proofs.Ytbgnaeagdneikaa
open Go Go.Proofs.Ytbgnaeagdneikaa.Abs
set_option linter.unusedSimpArgs false
set_option linter.unusedVariables false

set_option maxHeartbeats 4000000 in
theorem refWithin (s : Sty) (hs : s.Ok) (S : St) : ACalls Try.prog 23 [.agg s.cells.toArray] S (BoolPost (SWithin s) S) := by
  refine ACalls.run hmix Try.func23 cF23 kF23 rfl fun hL Q hQ => ?_
  have hk0 : KeepsAll S (S.new ⟨false, s.cells⟩) := Keeps.of_new _ _ _
  have hl18 := hs.lens
  have hb4 := hs.border
  have hc48 := hs.len
  have hb0 : (S.new ⟨false, s.cells⟩).blk S.next = some ⟨false, s.cells⟩ := by simp [St.blk_new]
  have hsty0 : StyAt (S.new ⟨false, s.cells⟩) S.next s := .of_blk hb0 hs
  have hload : List.take 48 s.cells = s.cells := List.take_of_length_le (by omega)
  simp only [go_sem, i64_wrap_id, Int.reduceAdd, Int.reduceSub, Int.reduceNeg, Int.reduceMul, Nat.reduceSub, Nat.reduceEqDiff, Nat.reduceAdd, Nat.reduceMul, Nat.reduceLeDiff, ↓reduceIte, reduceCtorEq, Int.reduceToNat, Int.reduceLT, Int.reduceLE, Int.reduceEq, aF23, hc48, hload]
  refine cK_of (lens66 s hs _) ?_
  rintro r1 S1 hS1 hL1 ⟨hO1, hK1, hF1⟩
  have hK01 : KeepsAll S S1 := hk0.trans hK1 fun _ _ _ => trivial
  have hbl : S1.blk S.next = some ⟨false, s.cells⟩ := by rw [hK1.2 _ (by simp [St.next_new]) trivial]; exact hb0
  have hsty : StyAt S1 S.next s := .of_blk hbl hs
  have a := hsty.all hs
  obtain ⟨dp, hr1, hbp, _⟩ := hO1.ne (by omega)
  simp only [go_sem, i64_wrap_id, Int.reduceAdd, Int.reduceSub, Int.reduceNeg, Int.reduceMul, Nat.reduceSub, Nat.reduceEqDiff, Nat.reduceAdd, Nat.reduceMul, Nat.reduceLeDiff, ↓reduceIte, reduceCtorEq, Int.reduceToNat, Int.reduceLT, Int.reduceLE, Int.reduceEq, hr1]
  refine lK_of (fun t' S' => S' = S1 ∧ ∃ j : Nat, j ≤ 18 ∧ (∀ i (h : i < s.lens.length), i < j → LenIn s.lens[i]) ∧ t' 1 = ptr S.next ∧ t' 3 = r1 ∧ t' 10 = .int .i64 18 ∧ t' 11 = .int .i64 j) (fun t' _ => (18 - RowKit.intOf (t' 11)).toNat) ?_ ?_
  · refine ⟨rfl, 0, by omega, by omega, ?_, ?_, ?_, ?_⟩
    · simp only [go_sem, i64_wrap_id, Int.reduceAdd, Int.reduceSub, Int.reduceNeg, Int.reduceMul, Nat.reduceSub, Nat.reduceEqDiff, Nat.reduceAdd, Nat.reduceMul, Nat.reduceLeDiff, ↓reduceIte, reduceCtorEq, Int.reduceToNat, Int.reduceLT, Int.reduceLE, Int.reduceEq]
    · simp only [go_sem, i64_wrap_id, Int.reduceAdd, Int.reduceSub, Int.reduceNeg, Int.reduceMul, Nat.reduceSub, Nat.reduceEqDiff, Nat.reduceAdd, Nat.reduceMul, Nat.reduceLeDiff, ↓reduceIte, reduceCtorEq, Int.reduceToNat, Int.reduceLT, Int.reduceLE, Int.reduceEq, hr1]
    · simp only [go_sem, i64_wrap_id, Int.reduceAdd, Int.reduceSub, Int.reduceNeg, Int.reduceMul, Nat.reduceSub, Nat.reduceEqDiff, Nat.reduceAdd, Nat.reduceMul, Nat.reduceLeDiff, ↓reduceIte, reduceCtorEq, Int.reduceToNat, Int.reduceLT, Int.reduceLE, Int.reduceEq]; rfl
    · simp only [go_sem, i64_wrap_id, Int.reduceAdd, Int.reduceSub, Int.reduceNeg, Int.reduceMul, Nat.reduceSub, Nat.reduceEqDiff, Nat.reduceAdd, Nat.reduceMul, Nat.reduceLeDiff, ↓reduceIte, reduceCtorEq, Int.reduceToNat, Int.reduceLT, Int.reduceLE, Int.reduceEq]; rfl
  · rintro t1 S2 Q1 ⟨rfl, j, hj, hg, h1, h3, h10, h11⟩ hL2 hN hE
    by_cases hj18 : j = 18
    · subst hj18
      simp only [go_sem, i64_wrap_id, Int.reduceAdd, Int.reduceSub, Int.reduceNeg, Int.reduceMul, Nat.reduceSub, Nat.reduceEqDiff, Nat.reduceAdd, Nat.reduceMul, Nat.reduceLeDiff, ↓reduceIte, reduceCtorEq, Int.reduceToNat, Int.reduceLT, Int.reduceLE, Int.reduceEq, h10, h11, show ¬ (((18 : Nat) : Int) < 18) by omega]
      refine hE _ _ _ (by simp) ?_
      simp only [go_sem, i64_wrap_id, Int.reduceAdd, Int.reduceSub, Int.reduceNeg, Int.reduceMul, Nat.reduceSub, Nat.reduceEqDiff, Nat.reduceAdd, Nat.reduceMul, Nat.reduceLeDiff, ↓reduceIte, reduceCtorEq, Int.reduceToNat, Int.reduceLT, Int.reduceLE, Int.reduceEq]
      refine lK_of (fun t' S' => S' = S2 ∧ ∃ k : Nat, k ≤ 4 ∧ (∀ i (h : i < s.border.length), i < k → s.border[i] ≤ 1099511627776) ∧ t' 1 = ptr S.next ∧ t' 62 = .int .i64 k) (fun t' _ => (4 - RowKit.intOf (t' 62)).toNat) ?_ ?_
      · refine ⟨rfl, 0, by omega, by omega, ?_, ?_⟩
        · simp only [go_sem, i64_wrap_id, Int.reduceAdd, Int.reduceSub, Int.reduceNeg, Int.reduceMul, Nat.reduceSub, Nat.reduceEqDiff, Nat.reduceAdd, Nat.reduceMul, Nat.reduceLeDiff, ↓reduceIte, reduceCtorEq, Int.reduceToNat, Int.reduceLT, Int.reduceLE, Int.reduceEq, h1]
        · simp only [go_sem, i64_wrap_id, Int.reduceAdd, Int.reduceSub, Int.reduceNeg, Int.reduceMul, Nat.reduceSub, Nat.reduceEqDiff, Nat.reduceAdd, Nat.reduceMul, Nat.reduceLeDiff, ↓reduceIte, reduceCtorEq, Int.reduceToNat, Int.reduceLT, Int.reduceLE, Int.reduceEq]; rfl
      · rintro t3 S4 Q3 ⟨rfl, m, hm, hg3, f1, f62⟩ hL4 hN3 hE3
        by_cases hm4 : m = 4
        · subst hm4
          simp only [go_sem, i64_wrap_id, Int.reduceAdd, Int.reduceSub, Int.reduceNeg, Int.reduceMul, Nat.reduceSub, Nat.reduceEqDiff, Nat.reduceAdd, Nat.reduceMul, Nat.reduceLeDiff, ↓reduceIte, reduceCtorEq, Int.reduceToNat, Int.reduceLT, Int.reduceLE, Int.reduceEq, f62, show ¬ (((4 : Nat) : Int) < 4) by omega]
          refine hE3 _ _ _ (by simp) ?_
          have hform : SWithin s ↔ (-1073741824 ≤ s.z ∧ s.z ≤ 1073741824 ∧ s.back ≤ 16777216 ∧ s.line ≤ 16777216) :=
            ⟨fun h => h.2.2, fun h => ⟨fun j hj => hg j hj (by omega), fun k hk => hg3 k hk (by omega), h⟩⟩
          simp only [go_sem, i64_wrap_id, Int.reduceAdd, Int.reduceSub, Int.reduceNeg, Int.reduceMul, Nat.reduceSub, Nat.reduceEqDiff, Nat.reduceAdd, Nat.reduceMul, Nat.reduceLeDiff, ↓reduceIte, reduceCtorEq, Int.reduceToNat, Int.reduceLT, Int.reduceLE, Int.reduceEq, f1, a.z, a.back, a.line]
          repeat' (first | refine gK_splitN (fun hg => ?_) (fun hg => ?_) <;> simp only [go_sem, i64_wrap_id, Int.reduceAdd, Int.reduceSub, Int.reduceNeg, Int.reduceMul, Nat.reduceSub, Nat.reduceEqDiff, Nat.reduceAdd, Nat.reduceMul, Nat.reduceLeDiff, ↓reduceIte, reduceCtorEq, Int.reduceToNat, Int.reduceLT, Int.reduceLE, Int.reduceEq, hg, f1, a.z, a.back, a.line] | refine gK_split (fun hg => ?_) (fun hg => ?_) <;> simp only [go_sem, i64_wrap_id, Int.reduceAdd, Int.reduceSub, Int.reduceNeg, Int.reduceMul, Nat.reduceSub, Nat.reduceEqDiff, Nat.reduceAdd, Nat.reduceMul, Nat.reduceLeDiff, ↓reduceIte, reduceCtorEq, Int.reduceToNat, Int.reduceLT, Int.reduceLE, Int.reduceEq, hg, f1, a.z, a.back, a.line])
          all_goals
            refine hQ _ _ _ ?_; (first | rw [k_body_ret] | rw [k_body_normal]); simp only [resVals, resVal, ev, Env.get_put, ↓reduceIte, Nat.reduceEqDiff, Option.bind_some, Option.map_some, reduceCtorEq, ldv_true, ldv_false, lloadV_agg, partL, List.toList_toArray, cellsOf_set, cellsOf_new, rd_set, rd_new, List.length_cons, List.length_nil, Nat.reduceAdd, Nat.reduceLeDiff, Nat.le_refl, List.take_succ_cons, List.take_zero, List.drop_zero, Nat.add_eq_left, Nat.left_eq_add, List.getElem?_cons_zero, List.getElem?_cons_succ, aF23]; rw [retQ_some]; simp only [oneOr]
            refine ⟨⟨_, rfl, Iff.trans ?_ hform.symm⟩, hK01⟩
            simp at *
            try omega
        · have hlt : ((m : Int) < 4) := by omega
          have hm0 : (0 : Int) ≤ m := by omega
          have hm1 : IntKind.i64.wrap ((m : Int) + 1) = m + 1 := wrap64_id (by omega) (by omega)
          have eb := a.border m (by omega)
          by_cases c3 : (s.border[m]'(by omega)) > 1099511627776
          · simp only [go_sem, i64_wrap_id, Int.reduceAdd, Int.reduceSub, Int.reduceNeg, Int.reduceMul, Nat.reduceSub, Nat.reduceEqDiff, Nat.reduceAdd, Nat.reduceMul, Nat.reduceLeDiff, ↓reduceIte, reduceCtorEq, Int.reduceToNat, Int.reduceLT, Int.reduceLE, Int.reduceEq, f1, f62, hlt, hm0, Int.toNat_natCast, Nat.mul_one, eb, c3, show (((4 : Nat) : Int)) = 4 from rfl]
            refine hE3 _ _ _ (by simp) ?_
            simp only [go_sem, i64_wrap_id, Int.reduceAdd, Int.reduceSub, Int.reduceNeg, Int.reduceMul, Nat.reduceSub, Nat.reduceEqDiff, Nat.reduceAdd, Nat.reduceMul, Nat.reduceLeDiff, ↓reduceIte, reduceCtorEq, Int.reduceToNat, Int.reduceLT, Int.reduceLE, Int.reduceEq]
            refine hQ _ _ _ ?_; (first | rw [k_body_ret] | rw [k_body_normal]); simp only [resVals, resVal, ev, Env.get_put, ↓reduceIte, Nat.reduceEqDiff, Option.bind_some, Option.map_some, reduceCtorEq, ldv_true, ldv_false, lloadV_agg, partL, List.toList_toArray, cellsOf_set, cellsOf_new, rd_set, rd_new, List.length_cons, List.length_nil, Nat.reduceAdd, Nat.reduceLeDiff, Nat.le_refl, List.take_succ_cons, List.take_zero, List.drop_zero, Nat.add_eq_left, Nat.left_eq_add, List.getElem?_cons_zero, List.getElem?_cons_succ, aF23]; rw [retQ_some]; simp only [oneOr]
            refine ⟨⟨false, rfl, ⟨fun e => (by cases e), fun e => ?_⟩⟩, hK01⟩
            have := e.2.1 m (by omega)
            omega
          · simp only [go_sem, i64_wrap_id, Int.reduceAdd, Int.reduceSub, Int.reduceNeg, Int.reduceMul, Nat.reduceSub, Nat.reduceEqDiff, Nat.reduceAdd, Nat.reduceMul, Nat.reduceLeDiff, ↓reduceIte, reduceCtorEq, Int.reduceToNat, Int.reduceLT, Int.reduceLE, Int.reduceEq, f1, f62, hlt, hm0, Int.toNat_natCast, Nat.mul_one, eb, c3, hm1, show (((4 : Nat) : Int)) = 4 from rfl]
            refine hN3 _ _ ⟨rfl, m + 1, by omega, fun i hi hij => ?_, ?_, ?_⟩ ?_
            · by_cases e : i = m
              · subst e; omega
              · exact hg3 i hi (by omega)
            · simp only [go_sem, i64_wrap_id, Int.reduceAdd, Int.reduceSub, Int.reduceNeg, Int.reduceMul, Nat.reduceSub, Nat.reduceEqDiff, Nat.reduceAdd, Nat.reduceMul, Nat.reduceLeDiff, ↓reduceIte, reduceCtorEq, Int.reduceToNat, Int.reduceLT, Int.reduceLE, Int.reduceEq, f1]
            · simp only [go_sem, i64_wrap_id, Int.reduceAdd, Int.reduceSub, Int.reduceNeg, Int.reduceMul, Nat.reduceSub, Nat.reduceEqDiff, Nat.reduceAdd, Nat.reduceMul, Nat.reduceLeDiff, ↓reduceIte, reduceCtorEq, Int.reduceToNat, Int.reduceLT, Int.reduceLE, Int.reduceEq]; congr 1
            · simp only [go_sem, i64_wrap_id, Int.reduceAdd, Int.reduceSub, Int.reduceNeg, Int.reduceMul, Nat.reduceSub, Nat.reduceEqDiff, Nat.reduceAdd, Nat.reduceMul, Nat.reduceLeDiff, ↓reduceIte, reduceCtorEq, Int.reduceToNat, Int.reduceLT, Int.reduceLE, Int.reduceEq, f62, RowKit.intOf]
              omega
    · have hlt : ((j : Int) < 18) := by omega
      have hj0 : (0 : Int) ≤ j := by omega
      have hj1 : IntKind.i64.wrap ((j : Int) + 1) = j + 1 := wrap64_id (by omega) (by omega)
      obtain ⟨ek, en⟩ := lens_rd hbp j (by omega)
      obtain ⟨p, hp⟩ : ∃ p, p = s.lens[j]'(by omega) := ⟨_, rfl⟩
      rw [← hp] at ek en
      have next : LenIn p → ∀ t', t' 1 = ptr S.next → t' 3 = r1 → t' 10 = .int .i64 18 → t' 11 = .int .i64 ((j : Int) + 1) → Q1 .normal t' S2 := by
        intro hin t' g1 g3 g10 g11
        refine hN _ _ ⟨rfl, j + 1, by omega, fun i hi hij => ?_, g1, g3, g10, g11⟩ ?_
        · by_cases e : i = j
          · subst e; rw [← hp]; exact hin
          · exact hg i hi (by omega)
        · rw [g11, h11]
          simp [RowKit.intOf]
          omega
      have stop : ¬ LenIn p → ∀ t', t' 2 = .bool false → Q1 .ret t' S2 := by
        intro hno t' g2
        refine hE _ _ _ (by simp) ?_
        simp only [go_sem, i64_wrap_id, Int.reduceAdd, Int.reduceSub, Int.reduceNeg, Int.reduceMul, Nat.reduceSub, Nat.reduceEqDiff, Nat.reduceAdd, Nat.reduceMul, Nat.reduceLeDiff, ↓reduceIte, reduceCtorEq, Int.reduceToNat, Int.reduceLT, Int.reduceLE, Int.reduceEq]
        refine hQ _ _ _ ?_
        rw [k_body_ret]
        simp only [aF23, resVals, resVal, g2, Option.bind_some, Option.map_some]
        rw [retQ_some]
        refine ⟨⟨false, rfl, ⟨fun e => (by cases e), fun e => ?_⟩⟩, hK01⟩
        exact absurd (hp ▸ e.1 j (by omega)) hno
      clear hN hE hQ
      have hne : ∀ a b : Int, (a != b) = !(a == b) := fun _ _ => rfl
      have n1 : IntKind.i64.wrap (0 - 1099511627776) = -1099511627776 := by decide
      have n2 : IntKind.i64.wrap (0 - 1000000) = -1000000 := by decide
      have hsp : (p.1 == 2) = true ∨ (p.1 == 2) = false := by cases (p.1 == 2) <;> simp
      rcases hsp with hsp | hsp
      all_goals
        simp only [go_sem, i64_wrap_id, Int.reduceAdd, Int.reduceSub, Int.reduceNeg, Int.reduceMul, Nat.reduceSub, Nat.reduceEqDiff, Nat.reduceAdd, Nat.reduceMul, Nat.reduceLeDiff, ↓reduceIte, reduceCtorEq, Int.reduceToNat, Int.reduceLT, Int.reduceLE, Int.reduceEq, h1, h3, h10, h11, hlt, hr1, hj0, Int.toNat_natCast, Nat.mul_one, ek, en, hsp, hne, Bool.not_not, show (((18 : Nat) : Int)) = 18 from rfl]
        repeat' (first | refine gK_splitN (fun hg => ?_) (fun hg => ?_) <;> simp only [go_sem, i64_wrap_id, Int.reduceAdd, Int.reduceSub, Int.reduceNeg, Int.reduceMul, Nat.reduceSub, Nat.reduceEqDiff, Nat.reduceAdd, Nat.reduceMul, Nat.reduceLeDiff, ↓reduceIte, reduceCtorEq, Int.reduceToNat, Int.reduceLT, Int.reduceLE, Int.reduceEq, hg, h1, h3, h10, h11, hlt, hr1, hj0, hj1, Int.toNat_natCast, Nat.mul_one, ek, en, hsp, n1, n2, hne, Bool.not_not, show (((18 : Nat) : Int)) = 18 from rfl] | refine gK_split (fun hg => ?_) (fun hg => ?_) <;> simp only [go_sem, i64_wrap_id, Int.reduceAdd, Int.reduceSub, Int.reduceNeg, Int.reduceMul, Nat.reduceSub, Nat.reduceEqDiff, Nat.reduceAdd, Nat.reduceMul, Nat.reduceLeDiff, ↓reduceIte, reduceCtorEq, Int.reduceToNat, Int.reduceLT, Int.reduceLE, Int.reduceEq, hg, h1, h3, h10, h11, hlt, hr1, hj0, hj1, Int.toNat_natCast, Nat.mul_one, ek, en, hsp, n1, n2, hne, Bool.not_not, show (((18 : Nat) : Int)) = 18 from rfl] | refine iK_split (fun hg => ?_) (fun hg => ?_) <;> simp only [go_sem, i64_wrap_id, Int.reduceAdd, Int.reduceSub, Int.reduceNeg, Int.reduceMul, Nat.reduceSub, Nat.reduceEqDiff, Nat.reduceAdd, Nat.reduceMul, Nat.reduceLeDiff, ↓reduceIte, reduceCtorEq, Int.reduceToNat, Int.reduceLT, Int.reduceLE, Int.reduceEq, hg, h1, h3, h10, h11, hlt, hr1, hj0, hj1, Int.toNat_natCast, Nat.mul_one, ek, en, hsp, n1, n2, hne, Bool.not_not, show (((18 : Nat) : Int)) = 18 from rfl])
      all_goals try simp only [decide_eq_true_eq, decide_eq_false_iff_not, beq_iff_eq, beq_eq_false_iff_ne, bne_iff_ne, bne_eq_false_iff_eq, ne_eq] at *
      all_goals first
        | refine stop ?_ _ ?_
          · rintro ⟨q1, q2⟩
            omega
          · simp only [go_sem, i64_wrap_id, Int.reduceAdd, Int.reduceSub, Int.reduceNeg, Int.reduceMul, Nat.reduceSub, Nat.reduceEqDiff, Nat.reduceAdd, Nat.reduceMul, Nat.reduceLeDiff, ↓reduceIte, reduceCtorEq, Int.reduceToNat, Int.reduceLT, Int.reduceLE, Int.reduceEq]
        | refine next ?_ _ ?_ ?_ ?_ ?_
          · refine ⟨by omega, by omega⟩
          · simp only [go_sem, i64_wrap_id, Int.reduceAdd, Int.reduceSub, Int.reduceNeg, Int.reduceMul, Nat.reduceSub, Nat.reduceEqDiff, Nat.reduceAdd, Nat.reduceMul, Nat.reduceLeDiff, ↓reduceIte, reduceCtorEq, Int.reduceToNat, Int.reduceLT, Int.reduceLE, Int.reduceEq, h1]
          · simp only [go_sem, i64_wrap_id, Int.reduceAdd, Int.reduceSub, Int.reduceNeg, Int.reduceMul, Nat.reduceSub, Nat.reduceEqDiff, Nat.reduceAdd, Nat.reduceMul, Nat.reduceLeDiff, ↓reduceIte, reduceCtorEq, Int.reduceToNat, Int.reduceLT, Int.reduceLE, Int.reduceEq, h3]
            try exact hr1
          · simp only [go_sem, i64_wrap_id, Int.reduceAdd, Int.reduceSub, Int.reduceNeg, Int.reduceMul, Nat.reduceSub, Nat.reduceEqDiff, Nat.reduceAdd, Nat.reduceMul, Nat.reduceLeDiff, ↓reduceIte, reduceCtorEq, Int.reduceToNat, Int.reduceLT, Int.reduceLE, Int.reduceEq, h10]
          · simp only [go_sem, i64_wrap_id, Int.reduceAdd, Int.reduceSub, Int.reduceNeg, Int.reduceMul, Nat.reduceSub, Nat.reduceEqDiff, Nat.reduceAdd, Nat.reduceMul, Nat.reduceLeDiff, ↓reduceIte, reduceCtorEq, Int.reduceToNat, Int.reduceLT, Int.reduceLE, Int.reduceEq]
end Go.Proofs.Ytbgnaeagdneikaa
