/- When the program calls a style formed. -/
import Derived.Test.YtbgnaeagdneikaaY1
namespace Go.Proofs.Ytbgnaeagdneikaa
open Go Go.Proofs.Ytbgnaeagdneikaa.Abs
set_option linter.unusedSimpArgs false
set_option linter.unusedVariables false

def BoolPost (p : Prop) (S : St) (r : Value) (S' : St) : Prop := (∃ c, r = .bool c ∧ (c = true ↔ p)) ∧ KeepsAll S S'

theorem ptrs_rd {S : St} {v : Value} {b o n d : Nat} (h : S.blk d = some ⟨false, ptrs b o n⟩) (j : Nat) (hj : j < n) : rd S d j = some (.pointer (some ⟨b, o + j * 2, none⟩)) := by
  rw [rd_of_blk h]
  simp [ptrs, hj]

theorem formed20 (s : Sty) (hs : s.Ok) (S : St) : ACalls Try.prog 20 [.agg s.cells.toArray] S (BoolPost (SFormed s) S) := by
  refine ACalls.run hmix Try.func20 cF20 kF20 rfl fun hL Q hQ => ?_
  simp only [go_sem, i64_wrap_id, Int.reduceAdd, Int.reduceSub, Int.reduceNeg, Int.reduceMul, Nat.reduceSub, Nat.reduceEqDiff, Nat.reduceAdd, Nat.reduceMul, Nat.reduceLeDiff, ↓reduceIte, reduceCtorEq, Int.reduceToNat, Int.reduceLT, Int.reduceLE, Int.reduceEq, aF20]
  have hk0 : KeepsAll S (S.new ⟨false, s.cells⟩) := Keeps.of_new _ _ _
  have hl18 := hs.lens
  have hb4 := hs.border
  refine cK_of (lengths64 S.next _) ?_
  rintro r1 S1 hS1 hL1 ⟨hO1, hK1, hF1⟩
  have hK01 : KeepsAll S S1 := hk0.trans hK1 fun _ _ _ => trivial
  have hbl : S1.blk S.next = some ⟨false, s.cells⟩ := by rw [hK1.2 _ (by simp [St.next_new]) trivial]; simp [St.blk_new]
  have hsty : StyAt S1 S.next s := .of_blk hbl hs
  have hblt := hL1 _ _ hbl
  obtain ⟨dp, hr1, hbp, _⟩ := hO1.ne (by omega)
  have hdp := hL1 _ _ hbp
  simp only [go_sem, i64_wrap_id, Int.reduceAdd, Int.reduceSub, Int.reduceNeg, Int.reduceMul, Nat.reduceSub, Nat.reduceEqDiff, Nat.reduceAdd, Nat.reduceMul, Nat.reduceLeDiff, ↓reduceIte, reduceCtorEq, Int.reduceToNat, Int.reduceLT, Int.reduceLE, Int.reduceEq, hr1]
  refine lK_of (fun t' S' => ∃ j : Nat, j ≤ 18 ∧ (∀ i (h : i < s.lens.length), i < j → LenF s.lens[i]) ∧ t' 1 = ptr S.next ∧ t' 8 = r1 ∧ t' 9 = .int .i64 18 ∧ t' 10 = .int .i64 j ∧ KeepsAll S1 S') (fun t' _ => (18 - RowKit.intOf (t' 10)).toNat) ?_ ?_
  · refine ⟨0, by omega, by omega, ?_, ?_, ?_, ?_, Keeps.refl _ _⟩
    · simp only [go_sem, i64_wrap_id, Int.reduceAdd, Int.reduceSub, Int.reduceNeg, Int.reduceMul, Nat.reduceSub, Nat.reduceEqDiff, Nat.reduceAdd, Nat.reduceMul, Nat.reduceLeDiff, ↓reduceIte, reduceCtorEq, Int.reduceToNat, Int.reduceLT, Int.reduceLE, Int.reduceEq]
    · simp only [go_sem, i64_wrap_id, Int.reduceAdd, Int.reduceSub, Int.reduceNeg, Int.reduceMul, Nat.reduceSub, Nat.reduceEqDiff, Nat.reduceAdd, Nat.reduceMul, Nat.reduceLeDiff, ↓reduceIte, reduceCtorEq, Int.reduceToNat, Int.reduceLT, Int.reduceLE, Int.reduceEq, hr1]
    · simp only [go_sem, i64_wrap_id, Int.reduceAdd, Int.reduceSub, Int.reduceNeg, Int.reduceMul, Nat.reduceSub, Nat.reduceEqDiff, Nat.reduceAdd, Nat.reduceMul, Nat.reduceLeDiff, ↓reduceIte, reduceCtorEq, Int.reduceToNat, Int.reduceLT, Int.reduceLE, Int.reduceEq]; rfl
    · simp only [go_sem, i64_wrap_id, Int.reduceAdd, Int.reduceSub, Int.reduceNeg, Int.reduceMul, Nat.reduceSub, Nat.reduceEqDiff, Nat.reduceAdd, Nat.reduceMul, Nat.reduceLeDiff, ↓reduceIte, reduceCtorEq, Int.reduceToNat, Int.reduceLT, Int.reduceLE, Int.reduceEq]; rfl
  · rintro t1 S2 Q1 ⟨j, hj, hg, h1, h8, h9, h10, hK2⟩ hL2 hN hE
    have hsty2 : StyAt S2 S.next s := hsty.keeps (hK2.2 _ hblt trivial)
    have hbp2 : S2.blk dp = some ⟨false, ptrs S.next 2 18⟩ := by rw [hK2.2 _ hdp trivial]; exact hbp
    by_cases hj18 : j = 18
    · subst hj18
      simp only [go_sem, i64_wrap_id, Int.reduceAdd, Int.reduceSub, Int.reduceNeg, Int.reduceMul, Nat.reduceSub, Nat.reduceEqDiff, Nat.reduceAdd, Nat.reduceMul, Nat.reduceLeDiff, ↓reduceIte, reduceCtorEq, Int.reduceToNat, Int.reduceLT, Int.reduceLE, Int.reduceEq, h9, h10, show ¬ (((18 : Nat) : Int) < 18) by omega]
      refine hE _ _ _ (by simp) ?_
      have a := hsty2.all hs
      have l4 := a.len 4 (by omega)
      have l5 := a.len 5 (by omega)
      have l6 := a.len 6 (by omega)
      have l7 := a.len 7 (by omega)
      have l8 := a.len 8 (by omega)
      have l9 := a.len 9 (by omega)
      simp only [Nat.reduceMul, Nat.reduceAdd] at l4 l5 l6 l7 l8 l9
      simp only [go_sem, i64_wrap_id, Int.reduceAdd, Int.reduceSub, Int.reduceNeg, Int.reduceMul, Nat.reduceSub, Nat.reduceEqDiff, Nat.reduceAdd, Nat.reduceMul, Nat.reduceLeDiff, ↓reduceIte, reduceCtorEq, Int.reduceToNat, Int.reduceLT, Int.reduceLE, Int.reduceEq, h1, l4, l5, l6, l7, l8, l9]
      generalize hb6 : S2.next = b6
      have hK02 : KeepsAll S S2 := hK01.trans hK2 fun _ _ _ => trivial
      obtain ⟨ls6, hls6⟩ : ∃ ls6, ls6 = [s.lens[4], s.lens[5], s.lens[6], s.lens[7], s.lens[8], s.lens[9]] := ⟨_, rfl⟩
      have hl6 : ls6.length = 6 := by rw [hls6]; rfl
      have hat : ∀ k (h : k < ls6.length), ls6[k] = s.lens[4 + k]'(by omega) := by
        intro k h
        rw [hl6] at h
        subst hls6
        match k, h with
        | 0, _ => rfl
        | 1, _ => rfl
        | 2, _ => rfl
        | 3, _ => rfl
        | 4, _ => rfl
        | 5, _ => rfl
      have hcells : ∀ S3, KeepsAll (S2.new ⟨false, lenCells ls6⟩) S3 → ∀ k (h : k < ls6.length), cellsOf S3 b6 (k * 2) 2 = some [.int .i64 ls6[k].1, .int .i64 ls6[k].2] := by
        intro S3 hK k h
        have hb : S3.blk b6 = some ⟨false, lenCells ls6⟩ := by rw [hK.2 b6 (by simp [St.next_new, hb6]) trivial]; simp [St.blk_new, hb6]
        rw [cellsOf_of_blk hb, if_pos (by rw [lenCells_length]; omega), lenCells_at ls6 k h]
      refine lK_of (fun t' S' => ∃ k : Nat, k ≤ 6 ∧ (∀ i (h : i < ls6.length), i < k → 0 ≤ ls6[i].2) ∧ t' 1 = ptr S.next ∧ t' 32 = .slice (some ⟨b6, 0, none⟩) 6 2 ∧ t' 33 = .int .i64 6 ∧ t' 34 = .int .i64 k ∧ KeepsAll (S2.new ⟨false, lenCells ls6⟩) S') (fun t' _ => (6 - RowKit.intOf (t' 34)).toNat) ?_ ?_
      · refine ⟨0, by omega, by omega, ?_, ?_, ?_, ?_, ?_⟩
        · simp only [go_sem, i64_wrap_id, Int.reduceAdd, Int.reduceSub, Int.reduceNeg, Int.reduceMul, Nat.reduceSub, Nat.reduceEqDiff, Nat.reduceAdd, Nat.reduceMul, Nat.reduceLeDiff, ↓reduceIte, reduceCtorEq, Int.reduceToNat, Int.reduceLT, Int.reduceLE, Int.reduceEq, h1]
        · simp only [go_sem, i64_wrap_id, Int.reduceAdd, Int.reduceSub, Int.reduceNeg, Int.reduceMul, Nat.reduceSub, Nat.reduceEqDiff, Nat.reduceAdd, Nat.reduceMul, Nat.reduceLeDiff, ↓reduceIte, reduceCtorEq, Int.reduceToNat, Int.reduceLT, Int.reduceLE, Int.reduceEq]
        · simp only [go_sem, i64_wrap_id, Int.reduceAdd, Int.reduceSub, Int.reduceNeg, Int.reduceMul, Nat.reduceSub, Nat.reduceEqDiff, Nat.reduceAdd, Nat.reduceMul, Nat.reduceLeDiff, ↓reduceIte, reduceCtorEq, Int.reduceToNat, Int.reduceLT, Int.reduceLE, Int.reduceEq]; rfl
        · simp only [go_sem, i64_wrap_id, Int.reduceAdd, Int.reduceSub, Int.reduceNeg, Int.reduceMul, Nat.reduceSub, Nat.reduceEqDiff, Nat.reduceAdd, Nat.reduceMul, Nat.reduceLeDiff, ↓reduceIte, reduceCtorEq, Int.reduceToNat, Int.reduceLT, Int.reduceLE, Int.reduceEq]; rfl
        · rw [hls6]; exact Keeps.refl _ _
      · rintro t2 S3 Q2 ⟨k, hk, hg2, g1, g32, g33, g34, hK3⟩ hL3 hN2 hE2
        have hK03 : KeepsAll S S3 := (hK02.new _).trans hK3 fun _ _ _ => trivial
        have hsty3 : StyAt S3 S.next s := hsty2.keeps (by rw [hK3.2 _ (by have := hL2 _ _ (show S2.blk S.next = _ by rw [hK2.2 _ hblt trivial]; exact hbl); simp [St.next_new]; omega) trivial, St.blk_new, if_neg (by have := hL2 _ _ (show S2.blk S.next = _ by rw [hK2.2 _ hblt trivial]; exact hbl); omega)])
        by_cases hk6 : k = 6
        · subst hk6
          simp only [go_sem, i64_wrap_id, Int.reduceAdd, Int.reduceSub, Int.reduceNeg, Int.reduceMul, Nat.reduceSub, Nat.reduceEqDiff, Nat.reduceAdd, Nat.reduceMul, Nat.reduceLeDiff, ↓reduceIte, reduceCtorEq, Int.reduceToNat, Int.reduceLT, Int.reduceLE, Int.reduceEq, g33, g34, show ¬ (((6 : Nat) : Int) < 6) by omega]
          refine hE2 _ _ _ (by simp) ?_
          simp only [go_sem, i64_wrap_id, Int.reduceAdd, Int.reduceSub, Int.reduceNeg, Int.reduceMul, Nat.reduceSub, Nat.reduceEqDiff, Nat.reduceAdd, Nat.reduceMul, Nat.reduceLeDiff, ↓reduceIte, reduceCtorEq, Int.reduceToNat, Int.reduceLT, Int.reduceLE, Int.reduceEq]
          refine lK_of (fun t' S' => S' = S3 ∧ ∃ k : Nat, k ≤ 4 ∧ (∀ i (h : i < 4), i < k → s.lens[14 + i].1 ≠ 0 ∧ 0 ≤ s.lens[14 + i].2 ∧ 0 ≤ s.border[i]) ∧ t' 1 = ptr S.next ∧ t' 42 = .int .i64 k) (fun t' _ => (4 - RowKit.intOf (t' 42)).toNat) ?_ ?_
          · refine ⟨rfl, 0, by omega, by omega, ?_, ?_⟩
            · simp only [go_sem, i64_wrap_id, Int.reduceAdd, Int.reduceSub, Int.reduceNeg, Int.reduceMul, Nat.reduceSub, Nat.reduceEqDiff, Nat.reduceAdd, Nat.reduceMul, Nat.reduceLeDiff, ↓reduceIte, reduceCtorEq, Int.reduceToNat, Int.reduceLT, Int.reduceLE, Int.reduceEq, g1]
            · simp only [go_sem, i64_wrap_id, Int.reduceAdd, Int.reduceSub, Int.reduceNeg, Int.reduceMul, Nat.reduceSub, Nat.reduceEqDiff, Nat.reduceAdd, Nat.reduceMul, Nat.reduceLeDiff, ↓reduceIte, reduceCtorEq, Int.reduceToNat, Int.reduceLT, Int.reduceLE, Int.reduceEq]; rfl
          · rintro t3 S4 Q3 ⟨rfl, m, hm, hg3, f1, f42⟩ hL4 hN3 hE3
            have a := hsty3.all hs
            by_cases hm4 : m = 4
            · subst hm4
              simp only [go_sem, i64_wrap_id, Int.reduceAdd, Int.reduceSub, Int.reduceNeg, Int.reduceMul, Nat.reduceSub, Nat.reduceEqDiff, Nat.reduceAdd, Nat.reduceMul, Nat.reduceLeDiff, ↓reduceIte, reduceCtorEq, Int.reduceToNat, Int.reduceLT, Int.reduceLE, Int.reduceEq, f42, show ¬ (((4 : Nat) : Int) < 4) by omega]
              refine hE3 _ _ _ (by simp) ?_
              have hform : SFormed s ↔ (0 ≤ s.pos ∧ s.pos ≤ 3 ∧ 0 ≤ s.back ∧ 0 ≤ s.line ∧ (s.hasZ = true ∨ s.z = 0)) := by
                refine ⟨fun h => h.2.2, fun h => ⟨fun j hj => ?_, fun k hk => ?_, h⟩⟩
                · refine ⟨hg j hj (by omega), fun hn hc => ?_, fun h14 => ?_⟩
                  · rcases hc with ⟨c1, c2⟩ | c1
                    · have := hg2 (j - 4) (by omega) (by omega)
                      rw [hat _ (by omega)] at this
                      simp only [show 4 + (j - 4) = j by omega] at this
                      omega
                    · have := (hg3 (j - 14) (by omega) (by omega)).2.1
                      simp only [show 14 + (j - 14) = j by omega] at this
                      omega
                  · have := (hg3 (j - 14) (by omega) (by omega)).1
                    simp only [show 14 + (j - 14) = j by omega] at this
                    exact this
                · exact (hg3 k (by omega) (by omega)).2.2
              simp only [go_sem, i64_wrap_id, Int.reduceAdd, Int.reduceSub, Int.reduceNeg, Int.reduceMul, Nat.reduceSub, Nat.reduceEqDiff, Nat.reduceAdd, Nat.reduceMul, Nat.reduceLeDiff, ↓reduceIte, reduceCtorEq, Int.reduceToNat, Int.reduceLT, Int.reduceLE, Int.reduceEq, f1, a.pos, a.back, a.line, a.hasZ, a.z]
              cases hZ : s.hasZ
              · have hz := a.hasZ
                rw [hZ] at hz
                repeat' (first | refine gK_splitN (fun hg => ?_) (fun hg => ?_) <;> simp only [go_sem, i64_wrap_id, Int.reduceAdd, Int.reduceSub, Int.reduceNeg, Int.reduceMul, Nat.reduceSub, Nat.reduceEqDiff, Nat.reduceAdd, Nat.reduceMul, Nat.reduceLeDiff, ↓reduceIte, reduceCtorEq, Int.reduceToNat, Int.reduceLT, Int.reduceLE, Int.reduceEq, hg, f1, a.pos, a.back, a.line, hz, a.z] | refine gK_split (fun hg => ?_) (fun hg => ?_) <;> simp only [go_sem, i64_wrap_id, Int.reduceAdd, Int.reduceSub, Int.reduceNeg, Int.reduceMul, Nat.reduceSub, Nat.reduceEqDiff, Nat.reduceAdd, Nat.reduceMul, Nat.reduceLeDiff, ↓reduceIte, reduceCtorEq, Int.reduceToNat, Int.reduceLT, Int.reduceLE, Int.reduceEq, hg, f1, a.pos, a.back, a.line, hz, a.z])
                all_goals
                  refine hQ _ _ _ ?_; (first | rw [k_body_ret] | rw [k_body_normal]); simp only [resVals, resVal, ev, Env.get_put, ↓reduceIte, Nat.reduceEqDiff, Option.bind_some, Option.map_some, reduceCtorEq, ldv_true, ldv_false, lloadV_agg, partL, List.toList_toArray, cellsOf_set, cellsOf_new, rd_set, rd_new, List.length_cons, List.length_nil, Nat.reduceAdd, Nat.reduceLeDiff, Nat.le_refl, List.take_succ_cons, List.take_zero, List.drop_zero, Nat.add_eq_left, Nat.left_eq_add, List.getElem?_cons_zero, List.getElem?_cons_succ, aF20]; rw [retQ_some]; simp only [oneOr]
                  refine ⟨⟨_, rfl, Iff.trans ?_ hform.symm⟩, hK03⟩
                  simp [hZ] at *
                  try omega
              · have hz := a.hasZ
                rw [hZ] at hz
                repeat' (first | refine gK_splitN (fun hg => ?_) (fun hg => ?_) <;> simp only [go_sem, i64_wrap_id, Int.reduceAdd, Int.reduceSub, Int.reduceNeg, Int.reduceMul, Nat.reduceSub, Nat.reduceEqDiff, Nat.reduceAdd, Nat.reduceMul, Nat.reduceLeDiff, ↓reduceIte, reduceCtorEq, Int.reduceToNat, Int.reduceLT, Int.reduceLE, Int.reduceEq, hg, f1, a.pos, a.back, a.line, hz, a.z] | refine gK_split (fun hg => ?_) (fun hg => ?_) <;> simp only [go_sem, i64_wrap_id, Int.reduceAdd, Int.reduceSub, Int.reduceNeg, Int.reduceMul, Nat.reduceSub, Nat.reduceEqDiff, Nat.reduceAdd, Nat.reduceMul, Nat.reduceLeDiff, ↓reduceIte, reduceCtorEq, Int.reduceToNat, Int.reduceLT, Int.reduceLE, Int.reduceEq, hg, f1, a.pos, a.back, a.line, hz, a.z])
                all_goals
                  refine hQ _ _ _ ?_; (first | rw [k_body_ret] | rw [k_body_normal]); simp only [resVals, resVal, ev, Env.get_put, ↓reduceIte, Nat.reduceEqDiff, Option.bind_some, Option.map_some, reduceCtorEq, ldv_true, ldv_false, lloadV_agg, partL, List.toList_toArray, cellsOf_set, cellsOf_new, rd_set, rd_new, List.length_cons, List.length_nil, Nat.reduceAdd, Nat.reduceLeDiff, Nat.le_refl, List.take_succ_cons, List.take_zero, List.drop_zero, Nat.add_eq_left, Nat.left_eq_add, List.getElem?_cons_zero, List.getElem?_cons_succ, aF20]; rw [retQ_some]; simp only [oneOr]
                  refine ⟨⟨_, rfl, Iff.trans ?_ hform.symm⟩, hK03⟩
                  simp [hZ] at *
                  try omega
            · have hlt : ((m : Int) < 4) := by omega
              have hm0 : (0 : Int) ≤ m := by omega
              have hm1 : IntKind.i64.wrap ((m : Int) + 1) = m + 1 := wrap64_id (by omega) (by omega)
              have ek := a.kind (14 + m) (by omega)
              have en := a.num (14 + m) (by omega)
              have eb := a.border m (by omega)
              rw [show 2 + (14 + m) * 2 = 30 + m * 2 by omega] at ek en
              by_cases c1 : (s.lens[14 + m]'(by omega)).1 = 0
              · simp only [go_sem, i64_wrap_id, Int.reduceAdd, Int.reduceSub, Int.reduceNeg, Int.reduceMul, Nat.reduceSub, Nat.reduceEqDiff, Nat.reduceAdd, Nat.reduceMul, Nat.reduceLeDiff, ↓reduceIte, reduceCtorEq, Int.reduceToNat, Int.reduceLT, Int.reduceLE, Int.reduceEq, f1, f42, hlt, hm0, Int.toNat_natCast, Nat.mul_one, ek, en, eb, show ((s.lens[14 + m]'(by omega)).1 == 0) = true by simpa using c1, show (((4 : Nat) : Int)) = 4 from rfl]
                refine hE3 _ _ _ (by simp) ?_
                simp only [go_sem, i64_wrap_id, Int.reduceAdd, Int.reduceSub, Int.reduceNeg, Int.reduceMul, Nat.reduceSub, Nat.reduceEqDiff, Nat.reduceAdd, Nat.reduceMul, Nat.reduceLeDiff, ↓reduceIte, reduceCtorEq, Int.reduceToNat, Int.reduceLT, Int.reduceLE, Int.reduceEq]
                refine hQ _ _ _ ?_; (first | rw [k_body_ret] | rw [k_body_normal]); simp only [resVals, resVal, ev, Env.get_put, ↓reduceIte, Nat.reduceEqDiff, Option.bind_some, Option.map_some, reduceCtorEq, ldv_true, ldv_false, lloadV_agg, partL, List.toList_toArray, cellsOf_set, cellsOf_new, rd_set, rd_new, List.length_cons, List.length_nil, Nat.reduceAdd, Nat.reduceLeDiff, Nat.le_refl, List.take_succ_cons, List.take_zero, List.drop_zero, Nat.add_eq_left, Nat.left_eq_add, List.getElem?_cons_zero, List.getElem?_cons_succ, aF20]; rw [retQ_some]; simp only [oneOr]
                refine ⟨⟨false, rfl, ⟨fun e => (by cases e), fun e => ?_⟩⟩, hK03⟩
                exact absurd c1 ((e.1 (14 + m) (by omega)).2.2 (by omega))
              · have c1' : ((s.lens[14 + m]'(by omega)).1 == 0) = false := by simpa using c1
                by_cases c2 : (s.lens[14 + m]'(by omega)).2 < 0
                · simp only [go_sem, i64_wrap_id, Int.reduceAdd, Int.reduceSub, Int.reduceNeg, Int.reduceMul, Nat.reduceSub, Nat.reduceEqDiff, Nat.reduceAdd, Nat.reduceMul, Nat.reduceLeDiff, ↓reduceIte, reduceCtorEq, Int.reduceToNat, Int.reduceLT, Int.reduceLE, Int.reduceEq, f1, f42, hlt, hm0, Int.toNat_natCast, Nat.mul_one, ek, en, eb, c1', c2, show (((4 : Nat) : Int)) = 4 from rfl]
                  refine hE3 _ _ _ (by simp) ?_
                  simp only [go_sem, i64_wrap_id, Int.reduceAdd, Int.reduceSub, Int.reduceNeg, Int.reduceMul, Nat.reduceSub, Nat.reduceEqDiff, Nat.reduceAdd, Nat.reduceMul, Nat.reduceLeDiff, ↓reduceIte, reduceCtorEq, Int.reduceToNat, Int.reduceLT, Int.reduceLE, Int.reduceEq]
                  refine hQ _ _ _ ?_; (first | rw [k_body_ret] | rw [k_body_normal]); simp only [resVals, resVal, ev, Env.get_put, ↓reduceIte, Nat.reduceEqDiff, Option.bind_some, Option.map_some, reduceCtorEq, ldv_true, ldv_false, lloadV_agg, partL, List.toList_toArray, cellsOf_set, cellsOf_new, rd_set, rd_new, List.length_cons, List.length_nil, Nat.reduceAdd, Nat.reduceLeDiff, Nat.le_refl, List.take_succ_cons, List.take_zero, List.drop_zero, Nat.add_eq_left, Nat.left_eq_add, List.getElem?_cons_zero, List.getElem?_cons_succ, aF20]; rw [retQ_some]; simp only [oneOr]
                  refine ⟨⟨false, rfl, ⟨fun e => (by cases e), fun e => ?_⟩⟩, hK03⟩
                  exact absurd (.inr (by omega)) ((e.1 (14 + m) (by omega)).2.1 c2)
                · by_cases c3 : (s.border[m]'(by omega)) < 0
                  · simp only [go_sem, i64_wrap_id, Int.reduceAdd, Int.reduceSub, Int.reduceNeg, Int.reduceMul, Nat.reduceSub, Nat.reduceEqDiff, Nat.reduceAdd, Nat.reduceMul, Nat.reduceLeDiff, ↓reduceIte, reduceCtorEq, Int.reduceToNat, Int.reduceLT, Int.reduceLE, Int.reduceEq, f1, f42, hlt, hm0, Int.toNat_natCast, Nat.mul_one, ek, en, eb, c1', c2, c3, show (((4 : Nat) : Int)) = 4 from rfl]
                    refine hE3 _ _ _ (by simp) ?_
                    simp only [go_sem, i64_wrap_id, Int.reduceAdd, Int.reduceSub, Int.reduceNeg, Int.reduceMul, Nat.reduceSub, Nat.reduceEqDiff, Nat.reduceAdd, Nat.reduceMul, Nat.reduceLeDiff, ↓reduceIte, reduceCtorEq, Int.reduceToNat, Int.reduceLT, Int.reduceLE, Int.reduceEq]
                    refine hQ _ _ _ ?_; (first | rw [k_body_ret] | rw [k_body_normal]); simp only [resVals, resVal, ev, Env.get_put, ↓reduceIte, Nat.reduceEqDiff, Option.bind_some, Option.map_some, reduceCtorEq, ldv_true, ldv_false, lloadV_agg, partL, List.toList_toArray, cellsOf_set, cellsOf_new, rd_set, rd_new, List.length_cons, List.length_nil, Nat.reduceAdd, Nat.reduceLeDiff, Nat.le_refl, List.take_succ_cons, List.take_zero, List.drop_zero, Nat.add_eq_left, Nat.left_eq_add, List.getElem?_cons_zero, List.getElem?_cons_succ, aF20]; rw [retQ_some]; simp only [oneOr]
                    refine ⟨⟨false, rfl, ⟨fun e => (by cases e), fun e => ?_⟩⟩, hK03⟩
                    have := e.2.1 m (by omega)
                    omega
                  · simp only [go_sem, i64_wrap_id, Int.reduceAdd, Int.reduceSub, Int.reduceNeg, Int.reduceMul, Nat.reduceSub, Nat.reduceEqDiff, Nat.reduceAdd, Nat.reduceMul, Nat.reduceLeDiff, ↓reduceIte, reduceCtorEq, Int.reduceToNat, Int.reduceLT, Int.reduceLE, Int.reduceEq, f1, f42, hlt, hm0, Int.toNat_natCast, Nat.mul_one, ek, en, eb, c1', c2, c3, hm1, show (((4 : Nat) : Int)) = 4 from rfl]
                    refine hN3 _ _ ⟨rfl, m + 1, by omega, fun i hi hij => ?_, ?_, ?_⟩ ?_
                    · by_cases e : i = m
                      · subst e; exact ⟨c1, by omega, by omega⟩
                      · exact hg3 i hi (by omega)
                    · simp only [go_sem, i64_wrap_id, Int.reduceAdd, Int.reduceSub, Int.reduceNeg, Int.reduceMul, Nat.reduceSub, Nat.reduceEqDiff, Nat.reduceAdd, Nat.reduceMul, Nat.reduceLeDiff, ↓reduceIte, reduceCtorEq, Int.reduceToNat, Int.reduceLT, Int.reduceLE, Int.reduceEq, f1]
                    · simp only [go_sem, i64_wrap_id, Int.reduceAdd, Int.reduceSub, Int.reduceNeg, Int.reduceMul, Nat.reduceSub, Nat.reduceEqDiff, Nat.reduceAdd, Nat.reduceMul, Nat.reduceLeDiff, ↓reduceIte, reduceCtorEq, Int.reduceToNat, Int.reduceLT, Int.reduceLE, Int.reduceEq]; congr 1
                    · simp only [go_sem, i64_wrap_id, Int.reduceAdd, Int.reduceSub, Int.reduceNeg, Int.reduceMul, Nat.reduceSub, Nat.reduceEqDiff, Nat.reduceAdd, Nat.reduceMul, Nat.reduceLeDiff, ↓reduceIte, reduceCtorEq, Int.reduceToNat, Int.reduceLT, Int.reduceLE, Int.reduceEq, f42, RowKit.intOf]
                      omega
        · have hlt : ((k : Int) < 6) := by omega
          have hk0 : (0 : Int) ≤ k := by omega
          have hk1 : IntKind.i64.wrap ((k : Int) + 1) = k + 1 := wrap64_id (by omega) (by omega)
          have hc := hcells S3 hK3 k (by omega)
          simp only [go_sem, i64_wrap_id, Int.reduceAdd, Int.reduceSub, Int.reduceNeg, Int.reduceMul, Nat.reduceSub, Nat.reduceEqDiff, Nat.reduceAdd, Nat.reduceMul, Nat.reduceLeDiff, ↓reduceIte, reduceCtorEq, Int.reduceToNat, Int.reduceLT, Int.reduceLE, Int.reduceEq, g32, g33, g34, hlt, hk0, Int.toNat_natCast, hc, show (((6 : Nat) : Int)) = 6 from rfl]
          refine iK_split (fun hz => ?_) (fun hz => ?_)
          · have hz := of_decide_eq_true hz
            simp only [go_sem, i64_wrap_id, Int.reduceAdd, Int.reduceSub, Int.reduceNeg, Int.reduceMul, Nat.reduceSub, Nat.reduceEqDiff, Nat.reduceAdd, Nat.reduceMul, Nat.reduceLeDiff, ↓reduceIte, reduceCtorEq, Int.reduceToNat, Int.reduceLT, Int.reduceLE, Int.reduceEq]
            refine hE2 _ _ _ (by simp) ?_
            simp only [go_sem, i64_wrap_id, Int.reduceAdd, Int.reduceSub, Int.reduceNeg, Int.reduceMul, Nat.reduceSub, Nat.reduceEqDiff, Nat.reduceAdd, Nat.reduceMul, Nat.reduceLeDiff, ↓reduceIte, reduceCtorEq, Int.reduceToNat, Int.reduceLT, Int.reduceLE, Int.reduceEq]
            refine hQ _ _ _ ?_; (first | rw [k_body_ret] | rw [k_body_normal]); simp only [resVals, resVal, ev, Env.get_put, ↓reduceIte, Nat.reduceEqDiff, Option.bind_some, Option.map_some, reduceCtorEq, ldv_true, ldv_false, lloadV_agg, partL, List.toList_toArray, cellsOf_set, cellsOf_new, rd_set, rd_new, List.length_cons, List.length_nil, Nat.reduceAdd, Nat.reduceLeDiff, Nat.le_refl, List.take_succ_cons, List.take_zero, List.drop_zero, Nat.add_eq_left, Nat.left_eq_add, List.getElem?_cons_zero, List.getElem?_cons_succ, aF20]; rw [retQ_some]; simp only [oneOr]
            refine ⟨⟨false, rfl, ⟨fun e => (by cases e), fun e => ?_⟩⟩, (hK03.new _).set (fun i hi _ => by have := hK03.1; omega) _⟩
            have := (e.1 (4 + k) (by omega)).2.1
            rw [← hat k (by omega)] at this
            exact absurd (.inl ⟨by omega, by omega⟩) (this hz)
          · have hz := of_decide_eq_false hz
            simp only [go_sem, i64_wrap_id, Int.reduceAdd, Int.reduceSub, Int.reduceNeg, Int.reduceMul, Nat.reduceSub, Nat.reduceEqDiff, Nat.reduceAdd, Nat.reduceMul, Nat.reduceLeDiff, ↓reduceIte, reduceCtorEq, Int.reduceToNat, Int.reduceLT, Int.reduceLE, Int.reduceEq, g34, hk1]
            refine hN2 _ _ ⟨k + 1, by omega, fun i hi hij => ?_, ?_, ?_, ?_, ?_, (hK3.new _).set (fun i hi _ => by have := hK3.1; omega) _⟩ ?_
            · by_cases e : i = k
              · subst e; omega
              · exact hg2 i hi (by omega)
            · simp only [go_sem, i64_wrap_id, Int.reduceAdd, Int.reduceSub, Int.reduceNeg, Int.reduceMul, Nat.reduceSub, Nat.reduceEqDiff, Nat.reduceAdd, Nat.reduceMul, Nat.reduceLeDiff, ↓reduceIte, reduceCtorEq, Int.reduceToNat, Int.reduceLT, Int.reduceLE, Int.reduceEq, g1]
            · simp only [go_sem, i64_wrap_id, Int.reduceAdd, Int.reduceSub, Int.reduceNeg, Int.reduceMul, Nat.reduceSub, Nat.reduceEqDiff, Nat.reduceAdd, Nat.reduceMul, Nat.reduceLeDiff, ↓reduceIte, reduceCtorEq, Int.reduceToNat, Int.reduceLT, Int.reduceLE, Int.reduceEq, g32]
            · simp only [go_sem, i64_wrap_id, Int.reduceAdd, Int.reduceSub, Int.reduceNeg, Int.reduceMul, Nat.reduceSub, Nat.reduceEqDiff, Nat.reduceAdd, Nat.reduceMul, Nat.reduceLeDiff, ↓reduceIte, reduceCtorEq, Int.reduceToNat, Int.reduceLT, Int.reduceLE, Int.reduceEq, g33]
            · simp only [go_sem, i64_wrap_id, Int.reduceAdd, Int.reduceSub, Int.reduceNeg, Int.reduceMul, Nat.reduceSub, Nat.reduceEqDiff, Nat.reduceAdd, Nat.reduceMul, Nat.reduceLeDiff, ↓reduceIte, reduceCtorEq, Int.reduceToNat, Int.reduceLT, Int.reduceLE, Int.reduceEq]; congr 1
            · simp only [go_sem, i64_wrap_id, Int.reduceAdd, Int.reduceSub, Int.reduceNeg, Int.reduceMul, Nat.reduceSub, Nat.reduceEqDiff, Nat.reduceAdd, Nat.reduceMul, Nat.reduceLeDiff, ↓reduceIte, reduceCtorEq, Int.reduceToNat, Int.reduceLT, Int.reduceLE, Int.reduceEq, g34, RowKit.intOf]
              omega
    · have hlt : ((j : Int) < 18) := by omega
      have hj0 : (0 : Int) ≤ j := by omega
      have hj1 : IntKind.i64.wrap ((j : Int) + 1) = j + 1 := wrap64_id (by omega) (by omega)
      have hp := ptrs_rd (v := r1) hbp2 j (by omega)
      have hl := (hsty2.all hs).len j (by omega)
      simp only [go_sem, i64_wrap_id, Int.reduceAdd, Int.reduceSub, Int.reduceNeg, Int.reduceMul, Nat.reduceSub, Nat.reduceEqDiff, Nat.reduceAdd, Nat.reduceMul, Nat.reduceLeDiff, ↓reduceIte, reduceCtorEq, Int.reduceToNat, Int.reduceLT, Int.reduceLE, Int.reduceEq, h1, h8, h9, h10, hlt, hr1, hj0, Int.toNat_natCast, Nat.mul_one, hp, hl, show (((18 : Nat) : Int)) = 18 from rfl]
      refine cK_of (formed65 _ _ S2) ?_
      rintro r3 S3 hS3 hL3 ⟨⟨c, rfl, hc⟩, hK3⟩
      have hK03 : KeepsAll S S3 := (hK01.trans hK2 fun _ _ _ => trivial).trans hK3 fun _ _ _ => trivial
      cases c
      · simp only [go_sem, i64_wrap_id, Int.reduceAdd, Int.reduceSub, Int.reduceNeg, Int.reduceMul, Nat.reduceSub, Nat.reduceEqDiff, Nat.reduceAdd, Nat.reduceMul, Nat.reduceLeDiff, ↓reduceIte, reduceCtorEq, Int.reduceToNat, Int.reduceLT, Int.reduceLE, Int.reduceEq]
        refine hE _ _ _ (by simp) ?_
        simp only [go_sem, i64_wrap_id, Int.reduceAdd, Int.reduceSub, Int.reduceNeg, Int.reduceMul, Nat.reduceSub, Nat.reduceEqDiff, Nat.reduceAdd, Nat.reduceMul, Nat.reduceLeDiff, ↓reduceIte, reduceCtorEq, Int.reduceToNat, Int.reduceLT, Int.reduceLE, Int.reduceEq]
        refine hQ _ _ _ ?_; (first | rw [k_body_ret] | rw [k_body_normal]); simp only [resVals, resVal, ev, Env.get_put, ↓reduceIte, Nat.reduceEqDiff, Option.bind_some, Option.map_some, reduceCtorEq, ldv_true, ldv_false, lloadV_agg, partL, List.toList_toArray, cellsOf_set, cellsOf_new, rd_set, rd_new, List.length_cons, List.length_nil, Nat.reduceAdd, Nat.reduceLeDiff, Nat.le_refl, List.take_succ_cons, List.take_zero, List.drop_zero, Nat.add_eq_left, Nat.left_eq_add, List.getElem?_cons_zero, List.getElem?_cons_succ, aF20]; rw [retQ_some]; simp only [oneOr]
        refine ⟨⟨false, rfl, ⟨fun e => (by cases e), fun e => ?_⟩⟩, hK03⟩
        exact absurd (hc.2 (e.1 j (by omega)).1) (by simp)
      · simp only [go_sem, i64_wrap_id, Int.reduceAdd, Int.reduceSub, Int.reduceNeg, Int.reduceMul, Nat.reduceSub, Nat.reduceEqDiff, Nat.reduceAdd, Nat.reduceMul, Nat.reduceLeDiff, ↓reduceIte, reduceCtorEq, Int.reduceToNat, Int.reduceLT, Int.reduceLE, Int.reduceEq, h10, hj1]
        refine hN _ _ ⟨j + 1, by omega, fun i hi hij => ?_, ?_, ?_, ?_, ?_, hK2.trans hK3 fun _ _ _ => trivial⟩ ?_
        · by_cases e : i = j
          · subst e; exact hc.1 rfl
          · exact hg i hi (by omega)
        · simp only [go_sem, i64_wrap_id, Int.reduceAdd, Int.reduceSub, Int.reduceNeg, Int.reduceMul, Nat.reduceSub, Nat.reduceEqDiff, Nat.reduceAdd, Nat.reduceMul, Nat.reduceLeDiff, ↓reduceIte, reduceCtorEq, Int.reduceToNat, Int.reduceLT, Int.reduceLE, Int.reduceEq, h1]
        · simp only [go_sem, i64_wrap_id, Int.reduceAdd, Int.reduceSub, Int.reduceNeg, Int.reduceMul, Nat.reduceSub, Nat.reduceEqDiff, Nat.reduceAdd, Nat.reduceMul, Nat.reduceLeDiff, ↓reduceIte, reduceCtorEq, Int.reduceToNat, Int.reduceLT, Int.reduceLE, Int.reduceEq, h8]
          try exact hr1
        · simp only [go_sem, i64_wrap_id, Int.reduceAdd, Int.reduceSub, Int.reduceNeg, Int.reduceMul, Nat.reduceSub, Nat.reduceEqDiff, Nat.reduceAdd, Nat.reduceMul, Nat.reduceLeDiff, ↓reduceIte, reduceCtorEq, Int.reduceToNat, Int.reduceLT, Int.reduceLE, Int.reduceEq, h9]
        · simp only [go_sem, i64_wrap_id, Int.reduceAdd, Int.reduceSub, Int.reduceNeg, Int.reduceMul, Nat.reduceSub, Nat.reduceEqDiff, Nat.reduceAdd, Nat.reduceMul, Nat.reduceLeDiff, ↓reduceIte, reduceCtorEq, Int.reduceToNat, Int.reduceLT, Int.reduceLE, Int.reduceEq]; congr 1
        · simp only [go_sem, i64_wrap_id, Int.reduceAdd, Int.reduceSub, Int.reduceNeg, Int.reduceMul, Nat.reduceSub, Nat.reduceEqDiff, Nat.reduceAdd, Nat.reduceMul, Nat.reduceLeDiff, ↓reduceIte, reduceCtorEq, Int.reduceToNat, Int.reduceLT, Int.reduceLE, Int.reduceEq, h10, RowKit.intOf]
          omega
end Go.Proofs.Ytbgnaeagdneikaa
