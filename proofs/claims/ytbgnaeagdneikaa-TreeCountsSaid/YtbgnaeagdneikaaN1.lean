/- The document's answer: a style from bytes. -/
import Derived.Test.YtbgnaeagdneikaaN0
import Derived.Test.YtbgnaeagdneikaaSeatKKN
import Derived.Test.YtbgnaeagdneikaaCoreAm
-- pp: new
namespace Go.Proofs.Ytbgnaeagdneikaa
open Go Go.Proofs.Ytbgnaeagdneikaa.Abs
set_option linter.unusedSimpArgs false
set_option linter.unusedVariables false

theorem fourAt (j : Nat) (x : Value) (t : Pst) (S : St) (h : Bs S x (pLens j t).2.1) (hx : Byt t.1) :
    ACalls Try.prog 72 [.agg #[x, .bool (pLens j t).2.2]] S fun r S' => S' = S ∧ ∃ x', r = .tuple #[.agg #[.int .i64 (pLen (pLens j t).2).1.1, .int .i64 (pLen (pLens j t).2).1.2, .int .i64 (pLen (pLens (j + 1) t).2).1.1, .int .i64 (pLen (pLens (j + 1) t).2).1.2,
      .int .i64 (pLen (pLens (j + 2) t).2).1.1, .int .i64 (pLen (pLens (j + 2) t).2).1.2, .int .i64 (pLen (pLens (j + 3) t).2).1.1, .int .i64 (pLen (pLens (j + 3) t).2).1.2], .agg #[x', .bool (pLens (j + 4) t).2.2]] ∧ Bs S x' (pLens (j + 4) t).2.1 ∧ InSl x' x :=
  fourN x (pLens j t).2 S h (pLens_byt j hx)
theorem lengthAt (j : Nat) (x : Value) (t : Pst) (S : St) (h : Bs S x (pLens j t).2.1) (hx : Byt t.1) :
    ACalls Try.prog 73 [.agg #[x, .bool (pLens j t).2.2]] S fun r S' => S' = S ∧ ∃ x', r = .tuple #[.agg #[.int .i64 (pLen (pLens j t).2).1.1, .int .i64 (pLen (pLens j t).2).1.2], .agg #[x', .bool (pLens (j + 1) t).2.2]] ∧ Bs S x' (pLens (j + 1) t).2.1 ∧ InSl x' x :=
  lengthN x (pLens j t).2 S h (pLens_byt j hx)
theorem pInts_byt (n : Nat) {t : Pst} (h : Byt t.1) : Byt (pInts n t).2.1 := by
  induction n with
  | zero => exact h
  | succ n ih => exact takeN_byt ih
theorem eightAt (j : Nat) (x : Value) (t : Pst) (S : St) (h : Bs S x (pInts j t).2.1) (hx : Byt t.1) :
    ACalls Try.prog 74 [.agg #[x, .bool (pInts j t).2.2]] S fun r S' => S' = S ∧ ∃ x', r = .tuple #[.int .i64 (pEight (pInts j t).2).1, .agg #[x', .bool (pInts (j + 1) t).2.2]] ∧ Bs S x' (pInts (j + 1) t).2.1 ∧ InSl x' x :=
  refEightN x _ _ S h (pInts_byt j hx)

theorem pLens_range (n : Nat) (t : Pst) : (pLens n t).1 = (List.range n).map fun k => (pLen (pLens k t).2).1 := by
  induction n with
  | zero => rfl
  | succ n ih => rw [List.range_succ, List.map_append, ← ih]; rfl
theorem pInts_range (n : Nat) (t : Pst) : (pInts n t).1 = (List.range n).map fun k => (pEight (pInts k t).2).1 := by
  induction n with
  | zero => rfl
  | succ n ih => rw [List.range_succ, List.map_append, ← ih]; rfl

/-- The cells of a style that is taken. -/
theorem pSty_cells (t : Pst) : (pSty t).cells =
    [.bool ((pByte t).1 % 2 == 1), .int .i64 ((pByte t).1 / 2 % 4),
     .int .i64 (pLen (pLens 0 (pT0 t)).2).1.1, .int .i64 (pLen (pLens 0 (pT0 t)).2).1.2, .int .i64 (pLen (pLens 1 (pT0 t)).2).1.1, .int .i64 (pLen (pLens 1 (pT0 t)).2).1.2,
     .int .i64 (pLen (pLens 2 (pT0 t)).2).1.1, .int .i64 (pLen (pLens 2 (pT0 t)).2).1.2, .int .i64 (pLen (pLens 3 (pT0 t)).2).1.1, .int .i64 (pLen (pLens 3 (pT0 t)).2).1.2,
     .int .i64 (pLen (pLens 4 (pT0 t)).2).1.1, .int .i64 (pLen (pLens 4 (pT0 t)).2).1.2, .int .i64 (pLen (pLens 5 (pT0 t)).2).1.1, .int .i64 (pLen (pLens 5 (pT0 t)).2).1.2,
     .int .i64 (pLen (pLens 6 (pT0 t)).2).1.1, .int .i64 (pLen (pLens 6 (pT0 t)).2).1.2, .int .i64 (pLen (pLens 7 (pT0 t)).2).1.1, .int .i64 (pLen (pLens 7 (pT0 t)).2).1.2,
     .int .i64 (pLen (pLens 8 (pT0 t)).2).1.1, .int .i64 (pLen (pLens 8 (pT0 t)).2).1.2, .int .i64 (pLen (pLens 9 (pT0 t)).2).1.1, .int .i64 (pLen (pLens 9 (pT0 t)).2).1.2,
     .int .i64 (pLen (pLens 10 (pT0 t)).2).1.1, .int .i64 (pLen (pLens 10 (pT0 t)).2).1.2, .int .i64 (pLen (pLens 11 (pT0 t)).2).1.1, .int .i64 (pLen (pLens 11 (pT0 t)).2).1.2,
     .int .i64 (pLen (pLens 12 (pT0 t)).2).1.1, .int .i64 (pLen (pLens 12 (pT0 t)).2).1.2, .int .i64 (pLen (pLens 13 (pT0 t)).2).1.1, .int .i64 (pLen (pLens 13 (pT0 t)).2).1.2,
     .int .i64 (pLen (pLens 14 (pT0 t)).2).1.1, .int .i64 (pLen (pLens 14 (pT0 t)).2).1.2, .int .i64 (pLen (pLens 15 (pT0 t)).2).1.1, .int .i64 (pLen (pLens 15 (pT0 t)).2).1.2,
     .int .i64 (pLen (pLens 16 (pT0 t)).2).1.1, .int .i64 (pLen (pLens 16 (pT0 t)).2).1.2, .int .i64 (pLen (pLens 17 (pT0 t)).2).1.1, .int .i64 (pLen (pLens 17 (pT0 t)).2).1.2,
     .int .i64 (pEight (pInts 0 (pT1 t)).2).1, .int .i64 (pEight (pInts 1 (pT1 t)).2).1, .int .i64 (pEight (pInts 2 (pT1 t)).2).1, .int .i64 (pEight (pInts 3 (pT1 t)).2).1,
     .bool ((pByte t).1 / 8 % 2 == 1), .bool (hasZOf (pByte t).1), .int .i64 (pOpt (hasZOf (pByte t).1) (pT2 t)).1, .bool ((pByte t).1 / 32 % 2 == 1), .int .i64 (pEight (pT3 t)).1, .int .i64 (pEight (pT4 t)).1] := by
  have e1 : (List.range 18) = [0, 1, 2, 3, 4, 5, 6, 7, 8, 9, 10, 11, 12, 13, 14, 15, 16, 17] := rfl
  have e2 : (List.range 4) = [0, 1, 2, 3] := rfl
  unfold pSty Sty.cells
  simp only [pLens_range 18, pInts_range 4, e1, e2, List.map_cons, List.map_nil, lenCells, List.flatMap_cons, List.flatMap_nil, List.cons_append, List.nil_append]

theorem pOpt_byt (b : Bool) {t : Pst} (h : Byt t.1) : Byt (pOpt b t).2.1 := by
  unfold pOpt
  split
  · exact takeN_byt h
  · exact h

theorem pT0_byt {t : Pst} (h : Byt t.1) : Byt (pT0 t).1 := by unfold pT0 pByte; exact takeN_byt h
theorem pT1_byt {t : Pst} (h : Byt t.1) : Byt (pT1 t).1 := by unfold pT1; exact pLens_byt 18 (pT0_byt h)
theorem pT2_byt {t : Pst} (h : Byt t.1) : Byt (pT2 t).1 := by unfold pT2; exact pInts_byt 4 (pT1_byt h)
theorem pT3_byt {t : Pst} (h : Byt t.1) : Byt (pT3 t).1 := by unfold pT3; exact pOpt_byt _ (pT2_byt h)
theorem pT4_byt {t : Pst} (h : Byt t.1) : Byt (pT4 t).1 := by unfold pT4 pEight; exact takeN_byt (pT3_byt h)

theorem pT1_eq (t : Pst) : pT1 t = (pLens 18 (pT0 t)).2 := by unfold pT1; rfl
theorem pT2_eq (t : Pst) : pT2 t = (pInts 4 (pT1 t)).2 := by unfold pT2; rfl
theorem pT4_eq (t : Pst) : pT4 t = (pEight (pT3 t)).2 := by unfold pT4; rfl
theorem pT5_eq (t : Pst) : pT5 t = (pEight (pT4 t)).2 := by unfold pT5; rfl
theorem pair_eq (t : Pst) : (t.1, t.2) = t := rfl

def FromPost (S : St) (x : Value) (t : Pst) (r : Value) : Prop :=
  (Good t ∧ ∃ x', r = .tuple #[.agg (pSty t).cells.toArray, .agg #[x', .bool false]] ∧ Bs S x' (pT5 t).1 ∧ InSl x' x) ∨ (¬ Good t ∧ r = .tuple #[.agg zeroS.cells.toArray, .agg #[.slice none 0 0, .bool true]])

theorem from41 (x : Value) (t : Pst) (S : St) (h : Bs S x t.1) (hx : Byt t.1) :
    ACalls Try.prog 41 [.agg #[x, .bool t.2]] S fun r S' => KeepsAll S S' ∧ FromPost S x t r := by
  obtain ⟨xs, bad⟩ := t
  refine ACalls.run hmix Try.func41 cN41 kN41 rfl fun hL Q hQ => ?_
  simp only [guard_undef, List.contains_cons, List.contains_nil, Nat.reduceBEq, Int.cast_ofNat_Int, and_self, k_pend_g, pendV, go_sem, i64_wrap_id, Int.reduceAdd, Int.reduceSub, Int.reduceNeg, Int.reduceMul, Nat.reduceSub, Nat.reduceEqDiff, Nat.reduceAdd, Nat.reduceMul, Nat.reduceLeDiff, ↓reduceIte, reduceCtorEq, Int.reduceToNat, Int.reduceLT, Int.reduceLE, Int.reduceEq, aN41]
  refine cK_of (refTakeN x xs bad 1 S h hx (by omega) (by omega)) ?_
  rintro r S' hS hL' ⟨rfl, x0, rfl, h0, i0⟩
  obtain ⟨n, hn⟩ : ∃ n, n = (pByte (xs, bad)).1 := ⟨_, rfl⟩
  have hn8 : InU8 n := by
    have := takeN_bound (n := 1) (xs := xs) (bad := bad) hx
    rw [hn]
    show 0 ≤ (takeN 1 xs bad).1 ∧ (takeN 1 xs bad).1 < 256
    omega
  unfold InU8 at hn8
  rw [show (takeN 1 xs bad).1 = n from hn.symm]
  have q1 : IntKind.u64.wrap (n.tdiv 2) = n / 2 := by rw [Int.tdiv_eq_ediv_of_nonneg (by omega), wrap64u]; omega
  have q2 : IntKind.u64.wrap (n.tdiv 8) = n / 8 := by rw [Int.tdiv_eq_ediv_of_nonneg (by omega), wrap64u]; omega
  have q3 : IntKind.u64.wrap (n.tdiv 16) = n / 16 := by rw [Int.tdiv_eq_ediv_of_nonneg (by omega), wrap64u]; omega
  have q4 : IntKind.u64.wrap (n.tdiv 32) = n / 32 := by rw [Int.tdiv_eq_ediv_of_nonneg (by omega), wrap64u]; omega
  have m1 : n.tmod 2 = n % 2 := Int.tmod_eq_emod_of_nonneg (by omega)
  have m2 : (n / 2).tmod 4 = n / 2 % 4 := Int.tmod_eq_emod_of_nonneg (by omega)
  have m3 : (n / 8).tmod 2 = n / 8 % 2 := Int.tmod_eq_emod_of_nonneg (by omega)
  have m4 : (n / 16).tmod 2 = n / 16 % 2 := Int.tmod_eq_emod_of_nonneg (by omega)
  have m5 : (n / 32).tmod 2 = n / 32 % 2 := Int.tmod_eq_emod_of_nonneg (by omega)
  have w1 : IntKind.i64.wrap (n / 2 % 4) = n / 2 % 4 := wrap64_id (by omega) (by omega)
  have b0 : Byt (pT0 (xs, bad)).1 := takeN_byt (t := (xs, bad)) hx
  simp only [guard_undef, List.contains_cons, List.contains_nil, Nat.reduceBEq, Int.cast_ofNat_Int, and_self, k_pend_g, pendV, go_sem, i64_wrap_id, Int.reduceAdd, Int.reduceSub, Int.reduceNeg, Int.reduceMul, Nat.reduceSub, Nat.reduceEqDiff, Nat.reduceAdd, Nat.reduceMul, Nat.reduceLeDiff, ↓reduceIte, reduceCtorEq, Int.reduceToNat, Int.reduceLT, Int.reduceLE, Int.reduceEq, q1, q2, q3, q4, m1, m2, m3, m4, m5, w1, ↓ow_all]
  (first | refine cK_keep [1,2,3,4,5] fun t1 hk' => ?_ | refine lK_keep [1,2,3,4,5] fun t1 hk' => ?_ | refine iK_keep [1,2,3,4,5] fun t1 hk' => ?_ | refine hK_keep [1,2,3,4,5] fun t1 hk' => ?_); simp only [guard_undef, List.contains_cons, List.contains_nil, Nat.reduceBEq, Int.cast_ofNat_Int, and_self, k_pend_g, pendV, go_sem, i64_wrap_id, Int.reduceAdd, Int.reduceSub, Int.reduceNeg, Int.reduceMul, Nat.reduceSub, Nat.reduceEqDiff, Nat.reduceAdd, Nat.reduceMul, Nat.reduceLeDiff, ↓reduceIte, reduceCtorEq, Int.reduceToNat, Int.reduceLT, Int.reduceLE, Int.reduceEq, keepL_cons, keepL_nil, slots_cons, slots_nil] at hk'; have hk := hk'; clear hk'
  refine cK_of (fourAt 0 x0 (pT0 (xs, bad)) _ h0 b0) ?_
  rintro r S' hS hL' ⟨rfl, x1, rfl, h1, i1⟩
  simp only [guard_undef, List.contains_cons, List.contains_nil, Nat.reduceBEq, Int.cast_ofNat_Int, and_self, k_pend_g, pendV, go_sem, i64_wrap_id, Int.reduceAdd, Int.reduceSub, Int.reduceNeg, Int.reduceMul, Nat.reduceSub, Nat.reduceEqDiff, Nat.reduceAdd, Nat.reduceMul, Nat.reduceLeDiff, ↓reduceIte, reduceCtorEq, Int.reduceToNat, Int.reduceLT, Int.reduceLE, Int.reduceEq, hk]
  (first | refine cK_keep [1,2,3,4,5,86,90] fun t1 hk' => ?_ | refine lK_keep [1,2,3,4,5,86,90] fun t1 hk' => ?_ | refine iK_keep [1,2,3,4,5,86,90] fun t1 hk' => ?_ | refine hK_keep [1,2,3,4,5,86,90] fun t1 hk' => ?_); simp only [guard_undef, List.contains_cons, List.contains_nil, Nat.reduceBEq, Int.cast_ofNat_Int, and_self, k_pend_g, pendV, go_sem, i64_wrap_id, Int.reduceAdd, Int.reduceSub, Int.reduceNeg, Int.reduceMul, Nat.reduceSub, Nat.reduceEqDiff, Nat.reduceAdd, Nat.reduceMul, Nat.reduceLeDiff, ↓reduceIte, reduceCtorEq, Int.reduceToNat, Int.reduceLT, Int.reduceLE, Int.reduceEq, keepL_cons, keepL_nil, slots_cons, slots_nil, hk] at hk'; clear hk; have hk := hk'; clear hk'
  refine cK_of (lengthAt 4 x1 (pT0 (xs, bad)) _ h1 b0) ?_
  rintro r S' hS hL' ⟨rfl, x2, rfl, h2, i2⟩
  simp only [guard_undef, List.contains_cons, List.contains_nil, Nat.reduceBEq, Int.cast_ofNat_Int, and_self, k_pend_g, pendV, go_sem, i64_wrap_id, Int.reduceAdd, Int.reduceSub, Int.reduceNeg, Int.reduceMul, Nat.reduceSub, Nat.reduceEqDiff, Nat.reduceAdd, Nat.reduceMul, Nat.reduceLeDiff, ↓reduceIte, reduceCtorEq, Int.reduceToNat, Int.reduceLT, Int.reduceLE, Int.reduceEq, hk]
  (first | refine cK_keep [1,2,3,4,5,86,90] fun t1 hk' => ?_ | refine lK_keep [1,2,3,4,5,86,90] fun t1 hk' => ?_ | refine iK_keep [1,2,3,4,5,86,90] fun t1 hk' => ?_ | refine hK_keep [1,2,3,4,5,86,90] fun t1 hk' => ?_); simp only [guard_undef, List.contains_cons, List.contains_nil, Nat.reduceBEq, Int.cast_ofNat_Int, and_self, k_pend_g, pendV, go_sem, i64_wrap_id, Int.reduceAdd, Int.reduceSub, Int.reduceNeg, Int.reduceMul, Nat.reduceSub, Nat.reduceEqDiff, Nat.reduceAdd, Nat.reduceMul, Nat.reduceLeDiff, ↓reduceIte, reduceCtorEq, Int.reduceToNat, Int.reduceLT, Int.reduceLE, Int.reduceEq, keepL_cons, keepL_nil, slots_cons, slots_nil, hk] at hk'; clear hk; have hk := hk'; clear hk'
  refine cK_of (lengthAt 5 x2 (pT0 (xs, bad)) _ h2 b0) ?_
  rintro r S' hS hL' ⟨rfl, x3, rfl, h3, i3⟩
  simp only [guard_undef, List.contains_cons, List.contains_nil, Nat.reduceBEq, Int.cast_ofNat_Int, and_self, k_pend_g, pendV, go_sem, i64_wrap_id, Int.reduceAdd, Int.reduceSub, Int.reduceNeg, Int.reduceMul, Nat.reduceSub, Nat.reduceEqDiff, Nat.reduceAdd, Nat.reduceMul, Nat.reduceLeDiff, ↓reduceIte, reduceCtorEq, Int.reduceToNat, Int.reduceLT, Int.reduceLE, Int.reduceEq, hk]
  (first | refine cK_keep [1,2,3,4,5,86,90] fun t1 hk' => ?_ | refine lK_keep [1,2,3,4,5,86,90] fun t1 hk' => ?_ | refine iK_keep [1,2,3,4,5,86,90] fun t1 hk' => ?_ | refine hK_keep [1,2,3,4,5,86,90] fun t1 hk' => ?_); simp only [guard_undef, List.contains_cons, List.contains_nil, Nat.reduceBEq, Int.cast_ofNat_Int, and_self, k_pend_g, pendV, go_sem, i64_wrap_id, Int.reduceAdd, Int.reduceSub, Int.reduceNeg, Int.reduceMul, Nat.reduceSub, Nat.reduceEqDiff, Nat.reduceAdd, Nat.reduceMul, Nat.reduceLeDiff, ↓reduceIte, reduceCtorEq, Int.reduceToNat, Int.reduceLT, Int.reduceLE, Int.reduceEq, keepL_cons, keepL_nil, slots_cons, slots_nil, hk] at hk'; clear hk; have hk := hk'; clear hk'
  refine cK_of (lengthAt 6 x3 (pT0 (xs, bad)) _ h3 b0) ?_
  rintro r S' hS hL' ⟨rfl, x4, rfl, h4, i4⟩
  simp only [guard_undef, List.contains_cons, List.contains_nil, Nat.reduceBEq, Int.cast_ofNat_Int, and_self, k_pend_g, pendV, go_sem, i64_wrap_id, Int.reduceAdd, Int.reduceSub, Int.reduceNeg, Int.reduceMul, Nat.reduceSub, Nat.reduceEqDiff, Nat.reduceAdd, Nat.reduceMul, Nat.reduceLeDiff, ↓reduceIte, reduceCtorEq, Int.reduceToNat, Int.reduceLT, Int.reduceLE, Int.reduceEq, hk]
  (first | refine cK_keep [1,2,3,4,5,86,90] fun t1 hk' => ?_ | refine lK_keep [1,2,3,4,5,86,90] fun t1 hk' => ?_ | refine iK_keep [1,2,3,4,5,86,90] fun t1 hk' => ?_ | refine hK_keep [1,2,3,4,5,86,90] fun t1 hk' => ?_); simp only [guard_undef, List.contains_cons, List.contains_nil, Nat.reduceBEq, Int.cast_ofNat_Int, and_self, k_pend_g, pendV, go_sem, i64_wrap_id, Int.reduceAdd, Int.reduceSub, Int.reduceNeg, Int.reduceMul, Nat.reduceSub, Nat.reduceEqDiff, Nat.reduceAdd, Nat.reduceMul, Nat.reduceLeDiff, ↓reduceIte, reduceCtorEq, Int.reduceToNat, Int.reduceLT, Int.reduceLE, Int.reduceEq, keepL_cons, keepL_nil, slots_cons, slots_nil, hk] at hk'; clear hk; have hk := hk'; clear hk'
  refine cK_of (lengthAt 7 x4 (pT0 (xs, bad)) _ h4 b0) ?_
  rintro r S' hS hL' ⟨rfl, x5, rfl, h5, i5⟩
  simp only [guard_undef, List.contains_cons, List.contains_nil, Nat.reduceBEq, Int.cast_ofNat_Int, and_self, k_pend_g, pendV, go_sem, i64_wrap_id, Int.reduceAdd, Int.reduceSub, Int.reduceNeg, Int.reduceMul, Nat.reduceSub, Nat.reduceEqDiff, Nat.reduceAdd, Nat.reduceMul, Nat.reduceLeDiff, ↓reduceIte, reduceCtorEq, Int.reduceToNat, Int.reduceLT, Int.reduceLE, Int.reduceEq, hk]
  (first | refine cK_keep [1,2,3,4,5,86,90] fun t1 hk' => ?_ | refine lK_keep [1,2,3,4,5,86,90] fun t1 hk' => ?_ | refine iK_keep [1,2,3,4,5,86,90] fun t1 hk' => ?_ | refine hK_keep [1,2,3,4,5,86,90] fun t1 hk' => ?_); simp only [guard_undef, List.contains_cons, List.contains_nil, Nat.reduceBEq, Int.cast_ofNat_Int, and_self, k_pend_g, pendV, go_sem, i64_wrap_id, Int.reduceAdd, Int.reduceSub, Int.reduceNeg, Int.reduceMul, Nat.reduceSub, Nat.reduceEqDiff, Nat.reduceAdd, Nat.reduceMul, Nat.reduceLeDiff, ↓reduceIte, reduceCtorEq, Int.reduceToNat, Int.reduceLT, Int.reduceLE, Int.reduceEq, keepL_cons, keepL_nil, slots_cons, slots_nil, hk] at hk'; clear hk; have hk := hk'; clear hk'
  refine cK_of (lengthAt 8 x5 (pT0 (xs, bad)) _ h5 b0) ?_
  rintro r S' hS hL' ⟨rfl, x6, rfl, h6, i6⟩
  simp only [guard_undef, List.contains_cons, List.contains_nil, Nat.reduceBEq, Int.cast_ofNat_Int, and_self, k_pend_g, pendV, go_sem, i64_wrap_id, Int.reduceAdd, Int.reduceSub, Int.reduceNeg, Int.reduceMul, Nat.reduceSub, Nat.reduceEqDiff, Nat.reduceAdd, Nat.reduceMul, Nat.reduceLeDiff, ↓reduceIte, reduceCtorEq, Int.reduceToNat, Int.reduceLT, Int.reduceLE, Int.reduceEq, hk]
  (first | refine cK_keep [1,2,3,4,5,86,90] fun t1 hk' => ?_ | refine lK_keep [1,2,3,4,5,86,90] fun t1 hk' => ?_ | refine iK_keep [1,2,3,4,5,86,90] fun t1 hk' => ?_ | refine hK_keep [1,2,3,4,5,86,90] fun t1 hk' => ?_); simp only [guard_undef, List.contains_cons, List.contains_nil, Nat.reduceBEq, Int.cast_ofNat_Int, and_self, k_pend_g, pendV, go_sem, i64_wrap_id, Int.reduceAdd, Int.reduceSub, Int.reduceNeg, Int.reduceMul, Nat.reduceSub, Nat.reduceEqDiff, Nat.reduceAdd, Nat.reduceMul, Nat.reduceLeDiff, ↓reduceIte, reduceCtorEq, Int.reduceToNat, Int.reduceLT, Int.reduceLE, Int.reduceEq, keepL_cons, keepL_nil, slots_cons, slots_nil, hk] at hk'; clear hk; have hk := hk'; clear hk'
  refine cK_of (lengthAt 9 x6 (pT0 (xs, bad)) _ h6 b0) ?_
  rintro r S' hS hL' ⟨rfl, x7, rfl, h7, i7⟩
  simp only [guard_undef, List.contains_cons, List.contains_nil, Nat.reduceBEq, Int.cast_ofNat_Int, and_self, k_pend_g, pendV, go_sem, i64_wrap_id, Int.reduceAdd, Int.reduceSub, Int.reduceNeg, Int.reduceMul, Nat.reduceSub, Nat.reduceEqDiff, Nat.reduceAdd, Nat.reduceMul, Nat.reduceLeDiff, ↓reduceIte, reduceCtorEq, Int.reduceToNat, Int.reduceLT, Int.reduceLE, Int.reduceEq, hk]
  (first | refine cK_keep [1,2,3,4,5,86,90] fun t1 hk' => ?_ | refine lK_keep [1,2,3,4,5,86,90] fun t1 hk' => ?_ | refine iK_keep [1,2,3,4,5,86,90] fun t1 hk' => ?_ | refine hK_keep [1,2,3,4,5,86,90] fun t1 hk' => ?_); simp only [guard_undef, List.contains_cons, List.contains_nil, Nat.reduceBEq, Int.cast_ofNat_Int, and_self, k_pend_g, pendV, go_sem, i64_wrap_id, Int.reduceAdd, Int.reduceSub, Int.reduceNeg, Int.reduceMul, Nat.reduceSub, Nat.reduceEqDiff, Nat.reduceAdd, Nat.reduceMul, Nat.reduceLeDiff, ↓reduceIte, reduceCtorEq, Int.reduceToNat, Int.reduceLT, Int.reduceLE, Int.reduceEq, keepL_cons, keepL_nil, slots_cons, slots_nil, hk] at hk'; clear hk; have hk := hk'; clear hk'
  refine cK_of (fourAt 10 x7 (pT0 (xs, bad)) _ h7 b0) ?_
  rintro r S' hS hL' ⟨rfl, x8, rfl, h8, i8⟩
  simp only [guard_undef, List.contains_cons, List.contains_nil, Nat.reduceBEq, Int.cast_ofNat_Int, and_self, k_pend_g, pendV, go_sem, i64_wrap_id, Int.reduceAdd, Int.reduceSub, Int.reduceNeg, Int.reduceMul, Nat.reduceSub, Nat.reduceEqDiff, Nat.reduceAdd, Nat.reduceMul, Nat.reduceLeDiff, ↓reduceIte, reduceCtorEq, Int.reduceToNat, Int.reduceLT, Int.reduceLE, Int.reduceEq, hk]
  (first | refine cK_keep [1,2,3,4,5,86,90] fun t1 hk' => ?_ | refine lK_keep [1,2,3,4,5,86,90] fun t1 hk' => ?_ | refine iK_keep [1,2,3,4,5,86,90] fun t1 hk' => ?_ | refine hK_keep [1,2,3,4,5,86,90] fun t1 hk' => ?_); simp only [guard_undef, List.contains_cons, List.contains_nil, Nat.reduceBEq, Int.cast_ofNat_Int, and_self, k_pend_g, pendV, go_sem, i64_wrap_id, Int.reduceAdd, Int.reduceSub, Int.reduceNeg, Int.reduceMul, Nat.reduceSub, Nat.reduceEqDiff, Nat.reduceAdd, Nat.reduceMul, Nat.reduceLeDiff, ↓reduceIte, reduceCtorEq, Int.reduceToNat, Int.reduceLT, Int.reduceLE, Int.reduceEq, keepL_cons, keepL_nil, slots_cons, slots_nil, hk] at hk'; clear hk; have hk := hk'; clear hk'
  refine cK_of (fourAt 14 x8 (pT0 (xs, bad)) _ h8 b0) ?_
  rintro r S' hS hL' ⟨rfl, x9, rfl, h9, i9⟩
  simp only [guard_undef, List.contains_cons, List.contains_nil, Nat.reduceBEq, Int.cast_ofNat_Int, and_self, k_pend_g, pendV, go_sem, i64_wrap_id, Int.reduceAdd, Int.reduceSub, Int.reduceNeg, Int.reduceMul, Nat.reduceSub, Nat.reduceEqDiff, Nat.reduceAdd, Nat.reduceMul, Nat.reduceLeDiff, ↓reduceIte, reduceCtorEq, Int.reduceToNat, Int.reduceLT, Int.reduceLE, Int.reduceEq, hk]
  have b1 : Byt (pT1 (xs, bad)).1 := pT1_byt (t := (xs, bad)) hx
  refine lK_unroll ?_
  simp only [guard_undef, List.contains_cons, List.contains_nil, Nat.reduceBEq, Int.cast_ofNat_Int, and_self, k_pend_g, pendV, go_sem, i64_wrap_id, Int.reduceAdd, Int.reduceSub, Int.reduceNeg, Int.reduceMul, Nat.reduceSub, Nat.reduceEqDiff, Nat.reduceAdd, Nat.reduceMul, Nat.reduceLeDiff, ↓reduceIte, reduceCtorEq, Int.reduceToNat, Int.reduceLT, Int.reduceLE, Int.reduceEq, hk]
  (first | refine cK_keep [1,2,3,4,5,86,90] fun t1 hk' => ?_ | refine lK_keep [1,2,3,4,5,86,90] fun t1 hk' => ?_ | refine iK_keep [1,2,3,4,5,86,90] fun t1 hk' => ?_ | refine hK_keep [1,2,3,4,5,86,90] fun t1 hk' => ?_); simp only [guard_undef, List.contains_cons, List.contains_nil, Nat.reduceBEq, Int.cast_ofNat_Int, and_self, k_pend_g, pendV, go_sem, i64_wrap_id, Int.reduceAdd, Int.reduceSub, Int.reduceNeg, Int.reduceMul, Nat.reduceSub, Nat.reduceEqDiff, Nat.reduceAdd, Nat.reduceMul, Nat.reduceLeDiff, ↓reduceIte, reduceCtorEq, Int.reduceToNat, Int.reduceLT, Int.reduceLE, Int.reduceEq, keepL_cons, keepL_nil, slots_cons, slots_nil, hk] at hk'; clear hk; have hk := hk'; clear hk'
  refine cK_of (eightAt 0 x9 (pT1 (xs, bad)) _ h9 b1) ?_
  rintro r S' hS hL' ⟨rfl, x10, rfl, h10, i10⟩
  simp only [guard_undef, List.contains_cons, List.contains_nil, Nat.reduceBEq, Int.cast_ofNat_Int, and_self, k_pend_g, pendV, go_sem, i64_wrap_id, Int.reduceAdd, Int.reduceSub, Int.reduceNeg, Int.reduceMul, Nat.reduceSub, Nat.reduceEqDiff, Nat.reduceAdd, Nat.reduceMul, Nat.reduceLeDiff, ↓reduceIte, reduceCtorEq, Int.reduceToNat, Int.reduceLT, Int.reduceLE, Int.reduceEq, hk]
  refine lK_unroll ?_
  simp only [guard_undef, List.contains_cons, List.contains_nil, Nat.reduceBEq, Int.cast_ofNat_Int, and_self, k_pend_g, pendV, go_sem, i64_wrap_id, Int.reduceAdd, Int.reduceSub, Int.reduceNeg, Int.reduceMul, Nat.reduceSub, Nat.reduceEqDiff, Nat.reduceAdd, Nat.reduceMul, Nat.reduceLeDiff, ↓reduceIte, reduceCtorEq, Int.reduceToNat, Int.reduceLT, Int.reduceLE, Int.reduceEq, hk]
  (first | refine cK_keep [1,2,3,4,5,86,90] fun t1 hk' => ?_ | refine lK_keep [1,2,3,4,5,86,90] fun t1 hk' => ?_ | refine iK_keep [1,2,3,4,5,86,90] fun t1 hk' => ?_ | refine hK_keep [1,2,3,4,5,86,90] fun t1 hk' => ?_); simp only [guard_undef, List.contains_cons, List.contains_nil, Nat.reduceBEq, Int.cast_ofNat_Int, and_self, k_pend_g, pendV, go_sem, i64_wrap_id, Int.reduceAdd, Int.reduceSub, Int.reduceNeg, Int.reduceMul, Nat.reduceSub, Nat.reduceEqDiff, Nat.reduceAdd, Nat.reduceMul, Nat.reduceLeDiff, ↓reduceIte, reduceCtorEq, Int.reduceToNat, Int.reduceLT, Int.reduceLE, Int.reduceEq, keepL_cons, keepL_nil, slots_cons, slots_nil, hk] at hk'; clear hk; have hk := hk'; clear hk'
  refine cK_of (eightAt 1 x10 (pT1 (xs, bad)) _ h10 b1) ?_
  rintro r S' hS hL' ⟨rfl, x11, rfl, h11, i11⟩
  simp only [guard_undef, List.contains_cons, List.contains_nil, Nat.reduceBEq, Int.cast_ofNat_Int, and_self, k_pend_g, pendV, go_sem, i64_wrap_id, Int.reduceAdd, Int.reduceSub, Int.reduceNeg, Int.reduceMul, Nat.reduceSub, Nat.reduceEqDiff, Nat.reduceAdd, Nat.reduceMul, Nat.reduceLeDiff, ↓reduceIte, reduceCtorEq, Int.reduceToNat, Int.reduceLT, Int.reduceLE, Int.reduceEq, hk]
  refine lK_unroll ?_
  simp only [guard_undef, List.contains_cons, List.contains_nil, Nat.reduceBEq, Int.cast_ofNat_Int, and_self, k_pend_g, pendV, go_sem, i64_wrap_id, Int.reduceAdd, Int.reduceSub, Int.reduceNeg, Int.reduceMul, Nat.reduceSub, Nat.reduceEqDiff, Nat.reduceAdd, Nat.reduceMul, Nat.reduceLeDiff, ↓reduceIte, reduceCtorEq, Int.reduceToNat, Int.reduceLT, Int.reduceLE, Int.reduceEq, hk]
  (first | refine cK_keep [1,2,3,4,5,86,90] fun t1 hk' => ?_ | refine lK_keep [1,2,3,4,5,86,90] fun t1 hk' => ?_ | refine iK_keep [1,2,3,4,5,86,90] fun t1 hk' => ?_ | refine hK_keep [1,2,3,4,5,86,90] fun t1 hk' => ?_); simp only [guard_undef, List.contains_cons, List.contains_nil, Nat.reduceBEq, Int.cast_ofNat_Int, and_self, k_pend_g, pendV, go_sem, i64_wrap_id, Int.reduceAdd, Int.reduceSub, Int.reduceNeg, Int.reduceMul, Nat.reduceSub, Nat.reduceEqDiff, Nat.reduceAdd, Nat.reduceMul, Nat.reduceLeDiff, ↓reduceIte, reduceCtorEq, Int.reduceToNat, Int.reduceLT, Int.reduceLE, Int.reduceEq, keepL_cons, keepL_nil, slots_cons, slots_nil, hk] at hk'; clear hk; have hk := hk'; clear hk'
  refine cK_of (eightAt 2 x11 (pT1 (xs, bad)) _ h11 b1) ?_
  rintro r S' hS hL' ⟨rfl, x12, rfl, h12, i12⟩
  simp only [guard_undef, List.contains_cons, List.contains_nil, Nat.reduceBEq, Int.cast_ofNat_Int, and_self, k_pend_g, pendV, go_sem, i64_wrap_id, Int.reduceAdd, Int.reduceSub, Int.reduceNeg, Int.reduceMul, Nat.reduceSub, Nat.reduceEqDiff, Nat.reduceAdd, Nat.reduceMul, Nat.reduceLeDiff, ↓reduceIte, reduceCtorEq, Int.reduceToNat, Int.reduceLT, Int.reduceLE, Int.reduceEq, hk]
  refine lK_unroll ?_
  simp only [guard_undef, List.contains_cons, List.contains_nil, Nat.reduceBEq, Int.cast_ofNat_Int, and_self, k_pend_g, pendV, go_sem, i64_wrap_id, Int.reduceAdd, Int.reduceSub, Int.reduceNeg, Int.reduceMul, Nat.reduceSub, Nat.reduceEqDiff, Nat.reduceAdd, Nat.reduceMul, Nat.reduceLeDiff, ↓reduceIte, reduceCtorEq, Int.reduceToNat, Int.reduceLT, Int.reduceLE, Int.reduceEq, hk]
  (first | refine cK_keep [1,2,3,4,5,86,90] fun t1 hk' => ?_ | refine lK_keep [1,2,3,4,5,86,90] fun t1 hk' => ?_ | refine iK_keep [1,2,3,4,5,86,90] fun t1 hk' => ?_ | refine hK_keep [1,2,3,4,5,86,90] fun t1 hk' => ?_); simp only [guard_undef, List.contains_cons, List.contains_nil, Nat.reduceBEq, Int.cast_ofNat_Int, and_self, k_pend_g, pendV, go_sem, i64_wrap_id, Int.reduceAdd, Int.reduceSub, Int.reduceNeg, Int.reduceMul, Nat.reduceSub, Nat.reduceEqDiff, Nat.reduceAdd, Nat.reduceMul, Nat.reduceLeDiff, ↓reduceIte, reduceCtorEq, Int.reduceToNat, Int.reduceLT, Int.reduceLE, Int.reduceEq, keepL_cons, keepL_nil, slots_cons, slots_nil, hk] at hk'; clear hk; have hk := hk'; clear hk'
  refine cK_of (eightAt 3 x12 (pT1 (xs, bad)) _ h12 b1) ?_
  rintro r S' hS hL' ⟨rfl, x13, rfl, h13, i13⟩
  simp only [guard_undef, List.contains_cons, List.contains_nil, Nat.reduceBEq, Int.cast_ofNat_Int, and_self, k_pend_g, pendV, go_sem, i64_wrap_id, Int.reduceAdd, Int.reduceSub, Int.reduceNeg, Int.reduceMul, Nat.reduceSub, Nat.reduceEqDiff, Nat.reduceAdd, Nat.reduceMul, Nat.reduceLeDiff, ↓reduceIte, reduceCtorEq, Int.reduceToNat, Int.reduceLT, Int.reduceLE, Int.reduceEq, hk]
  refine lK_unroll ?_
  simp only [guard_undef, List.contains_cons, List.contains_nil, Nat.reduceBEq, Int.cast_ofNat_Int, and_self, k_pend_g, pendV, go_sem, i64_wrap_id, Int.reduceAdd, Int.reduceSub, Int.reduceNeg, Int.reduceMul, Nat.reduceSub, Nat.reduceEqDiff, Nat.reduceAdd, Nat.reduceMul, Nat.reduceLeDiff, ↓reduceIte, reduceCtorEq, Int.reduceToNat, Int.reduceLT, Int.reduceLE, Int.reduceEq, hk]
  have b2 : Byt (pT2 (xs, bad)).1 := pT2_byt (t := (xs, bad)) hx
  have h13' : Bs S' x13 (pT2 (xs, bad)).1 := by
    rw [pT2_eq]
    exact h13
  have e13 : (pInts 4 (pT1 (xs, bad))).2.2 = (pT2 (xs, bad)).2 := by rw [pT2_eq]
  have hz : (n / 16 % 2 == 1) = hasZOf (pByte (xs, bad)).1 := by rw [← hn]; rfl
  rw [hz]
  rw [e13]
  (first | refine cK_keep [1,2,3,4,5] fun t1 hk' => ?_ | refine lK_keep [1,2,3,4,5] fun t1 hk' => ?_ | refine iK_keep [1,2,3,4,5] fun t1 hk' => ?_ | refine hK_keep [1,2,3,4,5] fun t1 hk' => ?_); simp only [guard_undef, List.contains_cons, List.contains_nil, Nat.reduceBEq, Int.cast_ofNat_Int, and_self, k_pend_g, pendV, go_sem, i64_wrap_id, Int.reduceAdd, Int.reduceSub, Int.reduceNeg, Int.reduceMul, Nat.reduceSub, Nat.reduceEqDiff, Nat.reduceAdd, Nat.reduceMul, Nat.reduceLeDiff, ↓reduceIte, reduceCtorEq, Int.reduceToNat, Int.reduceLT, Int.reduceLE, Int.reduceEq, keepL_cons, keepL_nil, slots_cons, slots_nil, hk, e13] at hk'; clear hk; have hk := hk'; clear hk'
  have i13' : InSl x13 x := (i13.trans (i12.trans (i11.trans (i10.trans (i9.trans (i8.trans (i7.trans (i6.trans (i5.trans (i4.trans (i3.trans (i2.trans (i1.trans i0)))))))))))))
  clear i13 i12 i11 i10 i9 i8 i7 i6 i5 i4 i3 i2 i1 i0
  refine iK_split (fun hzc => ?_) (fun hzc => ?_)
  · have hop : pOpt (hasZOf (pByte (xs, bad)).1) (pT2 (xs, bad)) = pEight (pT2 (xs, bad)) := by unfold pOpt; rw [if_pos hzc]
    have ht3 : pT3 (xs, bad) = (pEight (pT2 (xs, bad))).2 := by unfold pT3; rw [hop]
    simp only [guard_undef, List.contains_cons, List.contains_nil, Nat.reduceBEq, Int.cast_ofNat_Int, and_self, k_pend_g, pendV, go_sem, i64_wrap_id, Int.reduceAdd, Int.reduceSub, Int.reduceNeg, Int.reduceMul, Nat.reduceSub, Nat.reduceEqDiff, Nat.reduceAdd, Nat.reduceMul, Nat.reduceLeDiff, ↓reduceIte, reduceCtorEq, Int.reduceToNat, Int.reduceLT, Int.reduceLE, Int.reduceEq, hk]
    refine cK_of (refEightN x13 _ _ _ h13' b2) ?_
    rintro r S' hS hL' ⟨rfl, x14, rfl, h14, i14⟩
    rw [pair_eq (pT2 (xs, bad))] at h14 ⊢
    rw [← ht3] at h14 ⊢
    simp only [guard_undef, List.contains_cons, List.contains_nil, Nat.reduceBEq, Int.cast_ofNat_Int, and_self, k_pend_g, pendV, go_sem, i64_wrap_id, Int.reduceAdd, Int.reduceSub, Int.reduceNeg, Int.reduceMul, Nat.reduceSub, Nat.reduceEqDiff, Nat.reduceAdd, Nat.reduceMul, Nat.reduceLeDiff, ↓reduceIte, reduceCtorEq, Int.reduceToNat, Int.reduceLT, Int.reduceLE, Int.reduceEq, hk]

    have h14' : Bs S' x14 (pT3 (xs, bad)).1 := h14
    (first | refine cK_keep [1,2,3,4,5] fun t1 hk' => ?_ | refine lK_keep [1,2,3,4,5] fun t1 hk' => ?_ | refine iK_keep [1,2,3,4,5] fun t1 hk' => ?_ | refine hK_keep [1,2,3,4,5] fun t1 hk' => ?_); simp only [guard_undef, List.contains_cons, List.contains_nil, Nat.reduceBEq, Int.cast_ofNat_Int, and_self, k_pend_g, pendV, go_sem, i64_wrap_id, Int.reduceAdd, Int.reduceSub, Int.reduceNeg, Int.reduceMul, Nat.reduceSub, Nat.reduceEqDiff, Nat.reduceAdd, Nat.reduceMul, Nat.reduceLeDiff, ↓reduceIte, reduceCtorEq, Int.reduceToNat, Int.reduceLT, Int.reduceLE, Int.reduceEq, keepL_cons, keepL_nil, slots_cons, slots_nil, hk] at hk'; clear hk; have hk := hk'; clear hk'
    refine cK_of (refEightN x14 _ _ _ h14' (pT3_byt (t := (xs, bad)) hx)) ?_
    rintro r S' hS hL' ⟨rfl, x15, rfl, h15, i15⟩
    rw [pair_eq (pT3 (xs, bad))] at h15 ⊢
    rw [← pT4_eq] at h15 ⊢
    simp only [guard_undef, List.contains_cons, List.contains_nil, Nat.reduceBEq, Int.cast_ofNat_Int, and_self, k_pend_g, pendV, go_sem, i64_wrap_id, Int.reduceAdd, Int.reduceSub, Int.reduceNeg, Int.reduceMul, Nat.reduceSub, Nat.reduceEqDiff, Nat.reduceAdd, Nat.reduceMul, Nat.reduceLeDiff, ↓reduceIte, reduceCtorEq, Int.reduceToNat, Int.reduceLT, Int.reduceLE, Int.reduceEq, hk]
    (first | refine cK_keep [1,2,3,4,5] fun t1 hk' => ?_ | refine lK_keep [1,2,3,4,5] fun t1 hk' => ?_ | refine iK_keep [1,2,3,4,5] fun t1 hk' => ?_ | refine hK_keep [1,2,3,4,5] fun t1 hk' => ?_); simp only [guard_undef, List.contains_cons, List.contains_nil, Nat.reduceBEq, Int.cast_ofNat_Int, and_self, k_pend_g, pendV, go_sem, i64_wrap_id, Int.reduceAdd, Int.reduceSub, Int.reduceNeg, Int.reduceMul, Nat.reduceSub, Nat.reduceEqDiff, Nat.reduceAdd, Nat.reduceMul, Nat.reduceLeDiff, ↓reduceIte, reduceCtorEq, Int.reduceToNat, Int.reduceLT, Int.reduceLE, Int.reduceEq, keepL_cons, keepL_nil, slots_cons, slots_nil, hk] at hk'; clear hk; have hk := hk'; clear hk'
    refine cK_of (refEightN x15 _ _ _ h15 (pT4_byt (t := (xs, bad)) hx)) ?_
    rintro r S' hS hL' ⟨rfl, x16, rfl, h16, i16⟩
    rw [pair_eq (pT4 (xs, bad))] at h16 ⊢
    rw [← pT5_eq] at h16 ⊢
    have i16' : InSl x16 x := i16.trans (i15.trans (i14.trans i13'))
    have hcl := pSty_cells (xs, bad)
    rw [hop] at hcl
    rw [← hn] at hcl
    simp only [← hn] at hk ⊢
    cases hbad : (pT5 (xs, bad)).2
    · by_cases h64 : n > 63
      · simp only [guard_undef, List.contains_cons, List.contains_nil, Nat.reduceBEq, Int.cast_ofNat_Int, and_self, k_pend_g, pendV, go_sem, i64_wrap_id, Int.reduceAdd, Int.reduceSub, Int.reduceNeg, Int.reduceMul, Nat.reduceSub, Nat.reduceEqDiff, Nat.reduceAdd, Nat.reduceMul, Nat.reduceLeDiff, ↓reduceIte, reduceCtorEq, Int.reduceToNat, Int.reduceLT, Int.reduceLE, Int.reduceEq, hk, h64]
        refine hQ _ _ _ ?_; (first | rw [k_body_ret] | rw [k_body_normal]); simp only [resVals, resVal, ev, Env.get_put, ↓reduceIte, Nat.reduceEqDiff, Option.bind_some, Option.map_some, reduceCtorEq, ldv_true, ldv_false, lloadV_agg, partL, List.toList_toArray, cellsOf_set, cellsOf_new, rd_set, rd_new, List.length_cons, List.length_nil, Nat.reduceAdd, Nat.reduceLeDiff, Nat.le_refl, List.take_succ_cons, List.take_zero, List.drop_zero, Nat.add_eq_left, Nat.left_eq_add, List.getElem?_cons_zero, List.getElem?_cons_succ, aN41, hk]; rw [retQ_some]; simp only [oneOr]
        exact ⟨Keeps.refl _ _, .inr ⟨fun hg => (by have := hg.2.1; rw [← hn] at this; omega), rfl⟩⟩
      · simp only [guard_undef, List.contains_cons, List.contains_nil, Nat.reduceBEq, Int.cast_ofNat_Int, and_self, k_pend_g, pendV, go_sem, i64_wrap_id, Int.reduceAdd, Int.reduceSub, Int.reduceNeg, Int.reduceMul, Nat.reduceSub, Nat.reduceEqDiff, Nat.reduceAdd, Nat.reduceMul, Nat.reduceLeDiff, ↓reduceIte, reduceCtorEq, Int.reduceToNat, Int.reduceLT, Int.reduceLE, Int.reduceEq, hk, h64]
        (first | refine cK_keep [1,2,3,4,5,124] fun t1 hk' => ?_ | refine lK_keep [1,2,3,4,5,124] fun t1 hk' => ?_ | refine iK_keep [1,2,3,4,5,124] fun t1 hk' => ?_ | refine hK_keep [1,2,3,4,5,124] fun t1 hk' => ?_); simp only [guard_undef, List.contains_cons, List.contains_nil, Nat.reduceBEq, Int.cast_ofNat_Int, and_self, k_pend_g, pendV, go_sem, i64_wrap_id, Int.reduceAdd, Int.reduceSub, Int.reduceNeg, Int.reduceMul, Nat.reduceSub, Nat.reduceEqDiff, Nat.reduceAdd, Nat.reduceMul, Nat.reduceLeDiff, ↓reduceIte, reduceCtorEq, Int.reduceToNat, Int.reduceLT, Int.reduceLE, Int.reduceEq, keepL_cons, keepL_nil, slots_cons, slots_nil, hk] at hk'; clear hk; have hk := hk'; clear hk'
        have hc21 := refFormed (pSty (xs, bad)) (pSty_ok (t := (xs, bad)) hx) S'
        rw [hcl] at hc21
        refine cK_of hc21 ?_
        rintro r S1 hS1 hL1 ⟨⟨c, rfl, hc⟩, hK⟩
        cases c
        · simp only [guard_undef, List.contains_cons, List.contains_nil, Nat.reduceBEq, Int.cast_ofNat_Int, and_self, k_pend_g, pendV, go_sem, i64_wrap_id, Int.reduceAdd, Int.reduceSub, Int.reduceNeg, Int.reduceMul, Nat.reduceSub, Nat.reduceEqDiff, Nat.reduceAdd, Nat.reduceMul, Nat.reduceLeDiff, ↓reduceIte, reduceCtorEq, Int.reduceToNat, Int.reduceLT, Int.reduceLE, Int.reduceEq, hk, ↓ow_all]
          refine hQ _ _ _ ?_; (first | rw [k_body_ret] | rw [k_body_normal]); simp only [resVals, resVal, ev, Env.get_put, ↓reduceIte, Nat.reduceEqDiff, Option.bind_some, Option.map_some, reduceCtorEq, ldv_true, ldv_false, lloadV_agg, partL, List.toList_toArray, cellsOf_set, cellsOf_new, rd_set, rd_new, List.length_cons, List.length_nil, Nat.reduceAdd, Nat.reduceLeDiff, Nat.le_refl, List.take_succ_cons, List.take_zero, List.drop_zero, Nat.add_eq_left, Nat.left_eq_add, List.getElem?_cons_zero, List.getElem?_cons_succ, aN41, hk]; rw [retQ_some]; simp only [oneOr]
          exact ⟨hK, .inr ⟨fun hg => (by have := hc.2 hg.2.2; cases this), rfl⟩⟩
        · simp only [guard_undef, List.contains_cons, List.contains_nil, Nat.reduceBEq, Int.cast_ofNat_Int, and_self, k_pend_g, pendV, go_sem, i64_wrap_id, Int.reduceAdd, Int.reduceSub, Int.reduceNeg, Int.reduceMul, Nat.reduceSub, Nat.reduceEqDiff, Nat.reduceAdd, Nat.reduceMul, Nat.reduceLeDiff, ↓reduceIte, reduceCtorEq, Int.reduceToNat, Int.reduceLT, Int.reduceLE, Int.reduceEq, hk, ↓ow_all]
          refine hQ _ _ _ ?_; (first | rw [k_body_ret] | rw [k_body_normal]); simp only [resVals, resVal, ev, Env.get_put, ↓reduceIte, Nat.reduceEqDiff, Option.bind_some, Option.map_some, reduceCtorEq, ldv_true, ldv_false, lloadV_agg, partL, List.toList_toArray, cellsOf_set, cellsOf_new, rd_set, rd_new, List.length_cons, List.length_nil, Nat.reduceAdd, Nat.reduceLeDiff, Nat.le_refl, List.take_succ_cons, List.take_zero, List.drop_zero, Nat.add_eq_left, Nat.left_eq_add, List.getElem?_cons_zero, List.getElem?_cons_succ, aN41, hk]; rw [retQ_some]; simp only [oneOr]
          exact ⟨hK, .inl ⟨⟨hbad, by rw [← hn]; omega, hc.1 rfl⟩, x16, by rw [hcl], h16, i16'⟩⟩
    · simp only [guard_undef, List.contains_cons, List.contains_nil, Nat.reduceBEq, Int.cast_ofNat_Int, and_self, k_pend_g, pendV, go_sem, i64_wrap_id, Int.reduceAdd, Int.reduceSub, Int.reduceNeg, Int.reduceMul, Nat.reduceSub, Nat.reduceEqDiff, Nat.reduceAdd, Nat.reduceMul, Nat.reduceLeDiff, ↓reduceIte, reduceCtorEq, Int.reduceToNat, Int.reduceLT, Int.reduceLE, Int.reduceEq, hk]
      refine hQ _ _ _ ?_; (first | rw [k_body_ret] | rw [k_body_normal]); simp only [resVals, resVal, ev, Env.get_put, ↓reduceIte, Nat.reduceEqDiff, Option.bind_some, Option.map_some, reduceCtorEq, ldv_true, ldv_false, lloadV_agg, partL, List.toList_toArray, cellsOf_set, cellsOf_new, rd_set, rd_new, List.length_cons, List.length_nil, Nat.reduceAdd, Nat.reduceLeDiff, Nat.le_refl, List.take_succ_cons, List.take_zero, List.drop_zero, Nat.add_eq_left, Nat.left_eq_add, List.getElem?_cons_zero, List.getElem?_cons_succ, aN41, hk]; rw [retQ_some]; simp only [oneOr]
      exact ⟨Keeps.refl _ _, .inr ⟨fun hg => (by have := hg.1; rw [hbad] at this; cases this), rfl⟩⟩
  · have hop : pOpt (hasZOf (pByte (xs, bad)).1) (pT2 (xs, bad)) = (0, pT2 (xs, bad)) := by unfold pOpt; rw [if_neg (by simp [hzc])]
    have ht3 : pT3 (xs, bad) = pT2 (xs, bad) := by unfold pT3; rw [hop]
    simp only [guard_undef, List.contains_cons, List.contains_nil, Nat.reduceBEq, Int.cast_ofNat_Int, and_self, k_pend_g, pendV, go_sem, i64_wrap_id, Int.reduceAdd, Int.reduceSub, Int.reduceNeg, Int.reduceMul, Nat.reduceSub, Nat.reduceEqDiff, Nat.reduceAdd, Nat.reduceMul, Nat.reduceLeDiff, ↓reduceIte, reduceCtorEq, Int.reduceToNat, Int.reduceLT, Int.reduceLE, Int.reduceEq, hk]

    have h14' : Bs S' x13 (pT3 (xs, bad)).1 := (by rw [ht3]; exact h13')
    rw [show (pT2 (xs, bad)).2 = (pT3 (xs, bad)).2 by rw [ht3]]
    (first | refine cK_keep [1,2,3,4,5] fun t1 hk' => ?_ | refine lK_keep [1,2,3,4,5] fun t1 hk' => ?_ | refine iK_keep [1,2,3,4,5] fun t1 hk' => ?_ | refine hK_keep [1,2,3,4,5] fun t1 hk' => ?_); simp only [guard_undef, List.contains_cons, List.contains_nil, Nat.reduceBEq, Int.cast_ofNat_Int, and_self, k_pend_g, pendV, go_sem, i64_wrap_id, Int.reduceAdd, Int.reduceSub, Int.reduceNeg, Int.reduceMul, Nat.reduceSub, Nat.reduceEqDiff, Nat.reduceAdd, Nat.reduceMul, Nat.reduceLeDiff, ↓reduceIte, reduceCtorEq, Int.reduceToNat, Int.reduceLT, Int.reduceLE, Int.reduceEq, keepL_cons, keepL_nil, slots_cons, slots_nil, hk] at hk'; clear hk; have hk := hk'; clear hk'
    refine cK_of (refEightN x13 _ _ _ h14' (pT3_byt (t := (xs, bad)) hx)) ?_
    rintro r S' hS hL' ⟨rfl, x15, rfl, h15, i15⟩
    rw [pair_eq (pT3 (xs, bad))] at h15 ⊢
    rw [← pT4_eq] at h15 ⊢
    simp only [guard_undef, List.contains_cons, List.contains_nil, Nat.reduceBEq, Int.cast_ofNat_Int, and_self, k_pend_g, pendV, go_sem, i64_wrap_id, Int.reduceAdd, Int.reduceSub, Int.reduceNeg, Int.reduceMul, Nat.reduceSub, Nat.reduceEqDiff, Nat.reduceAdd, Nat.reduceMul, Nat.reduceLeDiff, ↓reduceIte, reduceCtorEq, Int.reduceToNat, Int.reduceLT, Int.reduceLE, Int.reduceEq, hk]
    (first | refine cK_keep [1,2,3,4,5] fun t1 hk' => ?_ | refine lK_keep [1,2,3,4,5] fun t1 hk' => ?_ | refine iK_keep [1,2,3,4,5] fun t1 hk' => ?_ | refine hK_keep [1,2,3,4,5] fun t1 hk' => ?_); simp only [guard_undef, List.contains_cons, List.contains_nil, Nat.reduceBEq, Int.cast_ofNat_Int, and_self, k_pend_g, pendV, go_sem, i64_wrap_id, Int.reduceAdd, Int.reduceSub, Int.reduceNeg, Int.reduceMul, Nat.reduceSub, Nat.reduceEqDiff, Nat.reduceAdd, Nat.reduceMul, Nat.reduceLeDiff, ↓reduceIte, reduceCtorEq, Int.reduceToNat, Int.reduceLT, Int.reduceLE, Int.reduceEq, keepL_cons, keepL_nil, slots_cons, slots_nil, hk] at hk'; clear hk; have hk := hk'; clear hk'
    refine cK_of (refEightN x15 _ _ _ h15 (pT4_byt (t := (xs, bad)) hx)) ?_
    rintro r S' hS hL' ⟨rfl, x16, rfl, h16, i16⟩
    rw [pair_eq (pT4 (xs, bad))] at h16 ⊢
    rw [← pT5_eq] at h16 ⊢
    have i16' : InSl x16 x := i16.trans (i15.trans i13')
    have hcl := pSty_cells (xs, bad)
    rw [hop] at hcl
    rw [← hn] at hcl
    simp only [← hn] at hk ⊢
    cases hbad : (pT5 (xs, bad)).2
    · by_cases h64 : n > 63
      · simp only [guard_undef, List.contains_cons, List.contains_nil, Nat.reduceBEq, Int.cast_ofNat_Int, and_self, k_pend_g, pendV, go_sem, i64_wrap_id, Int.reduceAdd, Int.reduceSub, Int.reduceNeg, Int.reduceMul, Nat.reduceSub, Nat.reduceEqDiff, Nat.reduceAdd, Nat.reduceMul, Nat.reduceLeDiff, ↓reduceIte, reduceCtorEq, Int.reduceToNat, Int.reduceLT, Int.reduceLE, Int.reduceEq, hk, h64]
        refine hQ _ _ _ ?_; (first | rw [k_body_ret] | rw [k_body_normal]); simp only [resVals, resVal, ev, Env.get_put, ↓reduceIte, Nat.reduceEqDiff, Option.bind_some, Option.map_some, reduceCtorEq, ldv_true, ldv_false, lloadV_agg, partL, List.toList_toArray, cellsOf_set, cellsOf_new, rd_set, rd_new, List.length_cons, List.length_nil, Nat.reduceAdd, Nat.reduceLeDiff, Nat.le_refl, List.take_succ_cons, List.take_zero, List.drop_zero, Nat.add_eq_left, Nat.left_eq_add, List.getElem?_cons_zero, List.getElem?_cons_succ, aN41, hk]; rw [retQ_some]; simp only [oneOr]
        exact ⟨Keeps.refl _ _, .inr ⟨fun hg => (by have := hg.2.1; rw [← hn] at this; omega), rfl⟩⟩
      · simp only [guard_undef, List.contains_cons, List.contains_nil, Nat.reduceBEq, Int.cast_ofNat_Int, and_self, k_pend_g, pendV, go_sem, i64_wrap_id, Int.reduceAdd, Int.reduceSub, Int.reduceNeg, Int.reduceMul, Nat.reduceSub, Nat.reduceEqDiff, Nat.reduceAdd, Nat.reduceMul, Nat.reduceLeDiff, ↓reduceIte, reduceCtorEq, Int.reduceToNat, Int.reduceLT, Int.reduceLE, Int.reduceEq, hk, h64]
        (first | refine cK_keep [1,2,3,4,5,124] fun t1 hk' => ?_ | refine lK_keep [1,2,3,4,5,124] fun t1 hk' => ?_ | refine iK_keep [1,2,3,4,5,124] fun t1 hk' => ?_ | refine hK_keep [1,2,3,4,5,124] fun t1 hk' => ?_); simp only [guard_undef, List.contains_cons, List.contains_nil, Nat.reduceBEq, Int.cast_ofNat_Int, and_self, k_pend_g, pendV, go_sem, i64_wrap_id, Int.reduceAdd, Int.reduceSub, Int.reduceNeg, Int.reduceMul, Nat.reduceSub, Nat.reduceEqDiff, Nat.reduceAdd, Nat.reduceMul, Nat.reduceLeDiff, ↓reduceIte, reduceCtorEq, Int.reduceToNat, Int.reduceLT, Int.reduceLE, Int.reduceEq, keepL_cons, keepL_nil, slots_cons, slots_nil, hk] at hk'; clear hk; have hk := hk'; clear hk'
        have hc21 := refFormed (pSty (xs, bad)) (pSty_ok (t := (xs, bad)) hx) S'
        rw [hcl] at hc21
        refine cK_of hc21 ?_
        rintro r S1 hS1 hL1 ⟨⟨c, rfl, hc⟩, hK⟩
        cases c
        · simp only [guard_undef, List.contains_cons, List.contains_nil, Nat.reduceBEq, Int.cast_ofNat_Int, and_self, k_pend_g, pendV, go_sem, i64_wrap_id, Int.reduceAdd, Int.reduceSub, Int.reduceNeg, Int.reduceMul, Nat.reduceSub, Nat.reduceEqDiff, Nat.reduceAdd, Nat.reduceMul, Nat.reduceLeDiff, ↓reduceIte, reduceCtorEq, Int.reduceToNat, Int.reduceLT, Int.reduceLE, Int.reduceEq, hk, ↓ow_all]
          refine hQ _ _ _ ?_; (first | rw [k_body_ret] | rw [k_body_normal]); simp only [resVals, resVal, ev, Env.get_put, ↓reduceIte, Nat.reduceEqDiff, Option.bind_some, Option.map_some, reduceCtorEq, ldv_true, ldv_false, lloadV_agg, partL, List.toList_toArray, cellsOf_set, cellsOf_new, rd_set, rd_new, List.length_cons, List.length_nil, Nat.reduceAdd, Nat.reduceLeDiff, Nat.le_refl, List.take_succ_cons, List.take_zero, List.drop_zero, Nat.add_eq_left, Nat.left_eq_add, List.getElem?_cons_zero, List.getElem?_cons_succ, aN41, hk]; rw [retQ_some]; simp only [oneOr]
          exact ⟨hK, .inr ⟨fun hg => (by have := hc.2 hg.2.2; cases this), rfl⟩⟩
        · simp only [guard_undef, List.contains_cons, List.contains_nil, Nat.reduceBEq, Int.cast_ofNat_Int, and_self, k_pend_g, pendV, go_sem, i64_wrap_id, Int.reduceAdd, Int.reduceSub, Int.reduceNeg, Int.reduceMul, Nat.reduceSub, Nat.reduceEqDiff, Nat.reduceAdd, Nat.reduceMul, Nat.reduceLeDiff, ↓reduceIte, reduceCtorEq, Int.reduceToNat, Int.reduceLT, Int.reduceLE, Int.reduceEq, hk, ↓ow_all]
          refine hQ _ _ _ ?_; (first | rw [k_body_ret] | rw [k_body_normal]); simp only [resVals, resVal, ev, Env.get_put, ↓reduceIte, Nat.reduceEqDiff, Option.bind_some, Option.map_some, reduceCtorEq, ldv_true, ldv_false, lloadV_agg, partL, List.toList_toArray, cellsOf_set, cellsOf_new, rd_set, rd_new, List.length_cons, List.length_nil, Nat.reduceAdd, Nat.reduceLeDiff, Nat.le_refl, List.take_succ_cons, List.take_zero, List.drop_zero, Nat.add_eq_left, Nat.left_eq_add, List.getElem?_cons_zero, List.getElem?_cons_succ, aN41, hk]; rw [retQ_some]; simp only [oneOr]
          exact ⟨hK, .inl ⟨⟨hbad, by rw [← hn]; omega, hc.1 rfl⟩, x16, by rw [hcl], h16, i16'⟩⟩
    · simp only [guard_undef, List.contains_cons, List.contains_nil, Nat.reduceBEq, Int.cast_ofNat_Int, and_self, k_pend_g, pendV, go_sem, i64_wrap_id, Int.reduceAdd, Int.reduceSub, Int.reduceNeg, Int.reduceMul, Nat.reduceSub, Nat.reduceEqDiff, Nat.reduceAdd, Nat.reduceMul, Nat.reduceLeDiff, ↓reduceIte, reduceCtorEq, Int.reduceToNat, Int.reduceLT, Int.reduceLE, Int.reduceEq, hk]
      refine hQ _ _ _ ?_; (first | rw [k_body_ret] | rw [k_body_normal]); simp only [resVals, resVal, ev, Env.get_put, ↓reduceIte, Nat.reduceEqDiff, Option.bind_some, Option.map_some, reduceCtorEq, ldv_true, ldv_false, lloadV_agg, partL, List.toList_toArray, cellsOf_set, cellsOf_new, rd_set, rd_new, List.length_cons, List.length_nil, Nat.reduceAdd, Nat.reduceLeDiff, Nat.le_refl, List.take_succ_cons, List.take_zero, List.drop_zero, Nat.add_eq_left, Nat.left_eq_add, List.getElem?_cons_zero, List.getElem?_cons_succ, aN41, hk]; rw [retQ_some]; simp only [oneOr]
      exact ⟨Keeps.refl _ _, .inr ⟨fun hg => (by have := hg.1; rw [hbad] at this; cases this), rfl⟩⟩
end Go.Proofs.Ytbgnaeagdneikaa
