/- The document's bytes of items; lists that are alike. -/
import Derived.Test.YtbgnaeagdneikaaP4
import Derived.Test.YtbgnaeagdneikaaSeatKKP
-- pp: new
namespace Go.Proofs.Ytbgnaeagdneikaa
open Go Go.Proofs.Ytbgnaeagdneikaa.Abs
set_option linter.unusedSimpArgs false
set_option linter.unusedVariables false

theorem number4 (n : Int) (S : St) (h0 : 0 ≤ n) (h1 : n < 18446744073709551616) : ACalls Try.prog 49 [.int .u64 n, .int .i64 4] S fun r S' => OwnBs S' r (be n 4) ∧ KeepsAll S S' ∧ Fresh S r := number 4 n S h0 h1 (by omega)
theorem number8 (n : Int) (S : St) : ACalls Try.prog 49 [.int .u64 (n % 18446744073709551616), .int .i64 8] S fun r S' => OwnBs S' r (be64 n) ∧ KeepsAll S S' ∧ Fresh S r := number 8 _ S (by omega) (by omega) (by omega)

set_option maxHeartbeats 2000000 in
theorem bytes47 (x : Value) (l : List Itm) (S : St) (h : Is S x l) (hn : l.length ≤ 1000000) (hr : ∀ y ∈ l, RightP y) : ACalls Try.prog 47 [x] S fun r S' => Buf S S' r (itemsBytes l) := by
  refine ACalls.run hmix Try.func47 cN47 kN47 rfl fun hL Q hQ => ?_
  obtain ⟨a, e, rfl⟩ := h.slice
  have hw0 : IntKind.u64.wrap (l.length : Int) = l.length := by rw [wrap64u]; omega
  simp only [guard_undef, List.contains_cons, List.contains_nil, Nat.reduceBEq, Int.cast_ofNat_Int, and_self, k_pend_g, pendV, go_sem, i64_wrap_id, Int.reduceAdd, Int.reduceSub, Int.reduceNeg, Int.reduceMul, Nat.reduceSub, Nat.reduceEqDiff, Nat.reduceAdd, Nat.reduceMul, Nat.reduceLeDiff, ↓reduceIte, reduceCtorEq, Int.reduceToNat, Int.reduceLT, Int.reduceLE, Int.reduceEq, aN47, hw0]
  refine cK_of (number4 l.length S (by omega) (by omega)) ?_
  rintro r1 S1 hS1 hL1 ⟨hO1, hK1, hF1⟩
  have B1 : Buf S S1 r1 (be (l.length : Int) 4) := ⟨hO1, hF1, hK1⟩
  simp only [guard_undef, List.contains_cons, List.contains_nil, Nat.reduceBEq, Int.cast_ofNat_Int, and_self, k_pend_g, pendV, go_sem, i64_wrap_id, Int.reduceAdd, Int.reduceSub, Int.reduceNeg, Int.reduceMul, Nat.reduceSub, Nat.reduceEqDiff, Nat.reduceAdd, Nat.reduceMul, Nat.reduceLeDiff, ↓reduceIte, reduceCtorEq, Int.reduceToNat, Int.reduceLT, Int.reduceLE, Int.reduceEq]
  refine lK_of (fun t' S2 => ∃ (j : Nat) (v : Value), j ≤ l.length ∧ Slots t' [(0, .slice a l.length e), (3, v), (11, .int .i64 l.length), (12, .int .i64 j)] ∧ Live S2 ∧ Buf S S2 v (be (l.length : Int) 4 ++ flatB (l.take j)))
    (fun t' _ => (l.length - RowKit.intOf (t' 12)).toNat) ?_ ?_
  · refine ⟨0, r1, by omega, ?_, hL1, by simpa [flatB] using B1⟩
    simp only [guard_undef, List.contains_cons, List.contains_nil, Nat.reduceBEq, Int.cast_ofNat_Int, and_self, k_pend_g, pendV, go_sem, i64_wrap_id, Int.reduceAdd, Int.reduceSub, Int.reduceNeg, Int.reduceMul, Nat.reduceSub, Nat.reduceEqDiff, Nat.reduceAdd, Nat.reduceMul, Nat.reduceLeDiff, ↓reduceIte, reduceCtorEq, Int.reduceToNat, Int.reduceLT, Int.reduceLE, Int.reduceEq, slots_cons, slots_nil, Int.natCast_add, Int.natCast_succ, Int.cast_ofNat_Int]
  rintro t1 S2 Q1 ⟨j, v, hj, h1, hL2, B2⟩ _ hN hE
  simp only [slots_cons, slots_nil] at h1
  have hfl := flatMap_length_le itmBytes 109 itmBytes_length (l.take j)
  have htl : (l.take j).length ≤ l.length := by simp; omega
  have hfl2 : (be (l.length : Int) 4 ++ flatB (l.take j)).length ≤ 109000004 := by
    unfold flatB
    rw [List.length_append, be_length]
    omega
  by_cases hjn : j = l.length
  · subst hjn
    simp only [guard_undef, List.contains_cons, List.contains_nil, Nat.reduceBEq, Int.cast_ofNat_Int, and_self, k_pend_g, pendV, go_sem, i64_wrap_id, Int.reduceAdd, Int.reduceSub, Int.reduceNeg, Int.reduceMul, Nat.reduceSub, Nat.reduceEqDiff, Nat.reduceAdd, Nat.reduceMul, Nat.reduceLeDiff, ↓reduceIte, reduceCtorEq, Int.reduceToNat, Int.reduceLT, Int.reduceLE, Int.reduceEq, h1, Int.lt_irrefl]
    refine hE _ _ _ (by simp) ?_
    rw [List.take_of_length_le (Nat.le_refl _)] at B2
    simp only [guard_undef, List.contains_cons, List.contains_nil, Nat.reduceBEq, Int.cast_ofNat_Int, and_self, k_pend_g, pendV, go_sem, i64_wrap_id, Int.reduceAdd, Int.reduceSub, Int.reduceNeg, Int.reduceMul, Nat.reduceSub, Nat.reduceEqDiff, Nat.reduceAdd, Nat.reduceMul, Nat.reduceLeDiff, ↓reduceIte, reduceCtorEq, Int.reduceToNat, Int.reduceLT, Int.reduceLE, Int.reduceEq, h1]
    refine hQ _ _ _ ?_; (first | rw [k_body_ret] | rw [k_body_normal]); simp only [resVals, resVal, ev, Env.get_put, ↓reduceIte, Nat.reduceEqDiff, Option.bind_some, Option.map_some, reduceCtorEq, ldv_true, ldv_false, lloadV_agg, partL, List.toList_toArray, cellsOf_set, cellsOf_new, rd_set, rd_new, List.length_cons, List.length_nil, Nat.reduceAdd, Nat.reduceLeDiff, Nat.le_refl, List.take_succ_cons, List.take_zero, List.drop_zero, Nat.add_eq_left, Nat.left_eq_add, List.getElem?_cons_zero, List.getElem?_cons_succ, aN47, h1]; rw [retQ_some]; simp only [oneOr]
    exact B2
  have hjl : j < l.length := by omega
  have hS2 : Is S2 (.slice a l.length e) l := Sl.keeps hL h B2.keep fun _ _ => trivial
  obtain ⟨d, o, e', hv, he, hcc⟩ := hS2.ne (by omega)
  cases hv
  have hlt : (j : Int) < l.length := by omega
  have hj0 : (0 : Int) ≤ j := by omega
  have hj1 : IntKind.i64.wrap ((j : Int) + 1) = j + 1 := wrap64_id (by omega) (by omega)
  have hcj := items_at hcc j hjl
  obtain ⟨y, hy⟩ : ∃ y, y = l[j] := ⟨_, rfl⟩
  have hry : RightP y := by rw [hy]; exact hr _ (List.getElem_mem _)
  have hyok := hry.ok
  have hft := flatB_take l j hjl
  rw [← hy] at hcj hft
  obtain ⟨⟨p1, p2, p3, p4⟩, ⟨p5, p6, p7⟩, p8⟩ := hry
  have hwn : IntKind.u64.wrap y.node = y.node := by rw [wrap64u]; omega
  have hkr : 0 ≤ y.kind ∧ y.kind ≤ 1 := by rcases p8 with p8 | ⟨p8, _⟩ <;> omega
  have hwk : IntKind.u8.wrap y.kind = y.kind := by rw [wrap8]; omega
  unfold Itm.cells at hcj
  obtain ⟨X, hX⟩ : ∃ X, X = be (l.length : Int) 4 ++ flatB (l.take j) := ⟨_, rfl⟩
  rw [← hX] at B2 hfl2
  have hlr := rcBytes_length
  simp only [guard_undef, List.contains_cons, List.contains_nil, Nat.reduceBEq, Int.cast_ofNat_Int, and_self, k_pend_g, pendV, go_sem, i64_wrap_id, Int.reduceAdd, Int.reduceSub, Int.reduceNeg, Int.reduceMul, Nat.reduceSub, Nat.reduceEqDiff, Nat.reduceAdd, Nat.reduceMul, Nat.reduceLeDiff, ↓reduceIte, reduceCtorEq, Int.reduceToNat, Int.reduceLT, Int.reduceLE, Int.reduceEq, h1, hlt, hj0, Int.toNat_natCast, hcj, hwn, hwk, ↓ow_all]
  refine ⟨?_, ?_⟩
  · refine cK_of (number4 y.node S2 p1 (by omega)) ?_
    rintro r3 S3 hS3 hL3 ⟨hO3, hK3, hF3⟩
    simp only [guard_undef, List.contains_cons, List.contains_nil, Nat.reduceBEq, Int.cast_ofNat_Int, and_self, k_pend_g, pendV, go_sem, i64_wrap_id, Int.reduceAdd, Int.reduceSub, Int.reduceNeg, Int.reduceMul, Nat.reduceSub, Nat.reduceEqDiff, Nat.reduceAdd, Nat.reduceMul, Nat.reduceLeDiff, ↓reduceIte, reduceCtorEq, Int.reduceToNat, Int.reduceLT, Int.reduceLE, Int.reduceEq, h1, hwk]
    refine ⟨?_, ?_⟩
    · refine hK_of ((B2.later hL2 hK3).app hL3 hL hO3.sl (by rw [be_length]; omega)) ?_
      rintro v4 S4 ⟨hL4, B4, hn4, hk4⟩
      simp only [guard_undef, List.contains_cons, List.contains_nil, Nat.reduceBEq, Int.cast_ofNat_Int, and_self, k_pend_g, pendV, go_sem, i64_wrap_id, Int.reduceAdd, Int.reduceSub, Int.reduceNeg, Int.reduceMul, Nat.reduceSub, Nat.reduceEqDiff, Nat.reduceAdd, Nat.reduceMul, Nat.reduceLeDiff, ↓reduceIte, reduceCtorEq, Int.reduceToNat, Int.reduceLT, Int.reduceLE, Int.reduceEq, h1, hwk]
      refine hK_of ((B4.laterNew hL4 ⟨false, [.int .u8 y.kind]⟩).app (hL4.new _) hL (bs_new1 S4 y.kind) (by simp only [List.length_append, be_length, List.length_cons, List.length_nil]; omega)) ?_
      rintro v9 S9 ⟨hL9, B9, hn9, hk9⟩
      simp only [guard_undef, List.contains_cons, List.contains_nil, Nat.reduceBEq, Int.cast_ofNat_Int, and_self, k_pend_g, pendV, go_sem, i64_wrap_id, Int.reduceAdd, Int.reduceSub, Int.reduceNeg, Int.reduceMul, Nat.reduceSub, Nat.reduceEqDiff, Nat.reduceAdd, Nat.reduceMul, Nat.reduceLeDiff, ↓reduceIte, reduceCtorEq, Int.reduceToNat, Int.reduceLT, Int.reduceLE, Int.reduceEq, h1]
      (first | refine cK_keep [0,3,5,11,12,30] fun t1 hk' => ?_ | refine lK_keep [0,3,5,11,12,30] fun t1 hk' => ?_ | refine iK_keep [0,3,5,11,12,30] fun t1 hk' => ?_ | refine hK_keep [0,3,5,11,12,30] fun t1 hk' => ?_); simp only [guard_undef, List.contains_cons, List.contains_nil, Nat.reduceBEq, Int.cast_ofNat_Int, and_self, k_pend_g, pendV, go_sem, i64_wrap_id, Int.reduceAdd, Int.reduceSub, Int.reduceNeg, Int.reduceMul, Nat.reduceSub, Nat.reduceEqDiff, Nat.reduceAdd, Nat.reduceMul, Nat.reduceLeDiff, ↓reduceIte, reduceCtorEq, Int.reduceToNat, Int.reduceLT, Int.reduceLE, Int.reduceEq, keepL_cons, keepL_nil, slots_cons, slots_nil, h1] at hk'; have hk := hk'; clear hk'
      obtain ⟨X9, hX9⟩ : ∃ X9, X9 = (X ++ be y.node 4) ++ [y.kind] := ⟨_, rfl⟩
      rw [← hX9] at B9
      have hX9l : X9.length ≤ 109000050 := by rw [hX9]; simp only [List.length_append, be_length, List.length_cons, List.length_nil]; omega
      refine cK_of (rect82 y.r S9 hyok.r) ?_
      rintro r10 S10 hS10 hL10 B10
      simp only [guard_undef, List.contains_cons, List.contains_nil, Nat.reduceBEq, Int.cast_ofNat_Int, and_self, k_pend_g, pendV, go_sem, i64_wrap_id, Int.reduceAdd, Int.reduceSub, Int.reduceNeg, Int.reduceMul, Nat.reduceSub, Nat.reduceEqDiff, Nat.reduceAdd, Nat.reduceMul, Nat.reduceLeDiff, ↓reduceIte, reduceCtorEq, Int.reduceToNat, Int.reduceLT, Int.reduceLE, Int.reduceEq, hk]
      refine hK_of ((B9.later hL9 B10.keep).app hL10 hL B10.own.sl (by rw [hlr]; omega)) ?_
      rintro v11 S11 ⟨hL11, B11, hn11, hk11⟩
      simp only [guard_undef, List.contains_cons, List.contains_nil, Nat.reduceBEq, Int.cast_ofNat_Int, and_self, k_pend_g, pendV, go_sem, i64_wrap_id, Int.reduceAdd, Int.reduceSub, Int.reduceNeg, Int.reduceMul, Nat.reduceSub, Nat.reduceEqDiff, Nat.reduceAdd, Nat.reduceMul, Nat.reduceLeDiff, ↓reduceIte, reduceCtorEq, Int.reduceToNat, Int.reduceLT, Int.reduceLE, Int.reduceEq, hk]
      (first | refine cK_keep [0,3,5,11,12] fun t1 hk' => ?_ | refine lK_keep [0,3,5,11,12] fun t1 hk' => ?_ | refine iK_keep [0,3,5,11,12] fun t1 hk' => ?_ | refine hK_keep [0,3,5,11,12] fun t1 hk' => ?_); simp only [guard_undef, List.contains_cons, List.contains_nil, Nat.reduceBEq, Int.cast_ofNat_Int, and_self, k_pend_g, pendV, go_sem, i64_wrap_id, Int.reduceAdd, Int.reduceSub, Int.reduceNeg, Int.reduceMul, Nat.reduceSub, Nat.reduceEqDiff, Nat.reduceAdd, Nat.reduceMul, Nat.reduceLeDiff, ↓reduceIte, reduceCtorEq, Int.reduceToNat, Int.reduceLT, Int.reduceLE, Int.reduceEq, keepL_cons, keepL_nil, slots_cons, slots_nil, hk] at hk'; clear hk; have hk := hk'; clear hk'
      refine iK_cut (fun t' S' => ∃ v12, Slots t' [(0, t1 0), (5, t1 5), (11, t1 11), (12, t1 12), (3, v12)] ∧ Live S' ∧ Buf S S' v12 ((X9 ++ rcBytes y.r) ++ (if y.kind = 1 then rcBytes y.h else []))) (fun Q6 hN6 hE6 => iK_split (fun hc => ?_) (fun hc => ?_)) ?_
      · have hk1 : y.kind = 1 := by simpa using hc
        simp only [guard_undef, List.contains_cons, List.contains_nil, Nat.reduceBEq, Int.cast_ofNat_Int, and_self, k_pend_g, pendV, go_sem, i64_wrap_id, Int.reduceAdd, Int.reduceSub, Int.reduceNeg, Int.reduceMul, Nat.reduceSub, Nat.reduceEqDiff, Nat.reduceAdd, Nat.reduceMul, Nat.reduceLeDiff, ↓reduceIte, reduceCtorEq, Int.reduceToNat, Int.reduceLT, Int.reduceLE, Int.reduceEq, hk]
        refine cK_of (rect82 y.h S11 hyok.h) ?_
        rintro r12 S12 hS12 hL12 B12
        simp only [guard_undef, List.contains_cons, List.contains_nil, Nat.reduceBEq, Int.cast_ofNat_Int, and_self, k_pend_g, pendV, go_sem, i64_wrap_id, Int.reduceAdd, Int.reduceSub, Int.reduceNeg, Int.reduceMul, Nat.reduceSub, Nat.reduceEqDiff, Nat.reduceAdd, Nat.reduceMul, Nat.reduceLeDiff, ↓reduceIte, reduceCtorEq, Int.reduceToNat, Int.reduceLT, Int.reduceLE, Int.reduceEq, hk]
        refine hK_of ((B11.later hL11 B12.keep).app hL12 hL B12.own.sl (by simp only [List.length_append, hlr]; omega)) ?_
        rintro v13 S13 ⟨hL13, B13, hn13, hk13⟩
        simp only [guard_undef, List.contains_cons, List.contains_nil, Nat.reduceBEq, Int.cast_ofNat_Int, and_self, k_pend_g, pendV, go_sem, i64_wrap_id, Int.reduceAdd, Int.reduceSub, Int.reduceNeg, Int.reduceMul, Nat.reduceSub, Nat.reduceEqDiff, Nat.reduceAdd, Nat.reduceMul, Nat.reduceLeDiff, ↓reduceIte, reduceCtorEq, Int.reduceToNat, Int.reduceLT, Int.reduceLE, Int.reduceEq, hk]
        refine hN6 _ _ ⟨v13, ?_, hL13, by rw [if_pos hk1]; exact B13⟩
        simp only [guard_undef, List.contains_cons, List.contains_nil, Nat.reduceBEq, Int.cast_ofNat_Int, and_self, k_pend_g, pendV, go_sem, i64_wrap_id, Int.reduceAdd, Int.reduceSub, Int.reduceNeg, Int.reduceMul, Nat.reduceSub, Nat.reduceEqDiff, Nat.reduceAdd, Nat.reduceMul, Nat.reduceLeDiff, ↓reduceIte, reduceCtorEq, Int.reduceToNat, Int.reduceLT, Int.reduceLE, Int.reduceEq, slots_cons, slots_nil, Int.natCast_add, Int.natCast_succ, Int.cast_ofNat_Int, hk]
      · have hk1 : ¬ y.kind = 1 := by simpa using hc
        simp only [guard_undef, List.contains_cons, List.contains_nil, Nat.reduceBEq, Int.cast_ofNat_Int, and_self, k_pend_g, pendV, go_sem, i64_wrap_id, Int.reduceAdd, Int.reduceSub, Int.reduceNeg, Int.reduceMul, Nat.reduceSub, Nat.reduceEqDiff, Nat.reduceAdd, Nat.reduceMul, Nat.reduceLeDiff, ↓reduceIte, reduceCtorEq, Int.reduceToNat, Int.reduceLT, Int.reduceLE, Int.reduceEq, hk]
        refine hN6 _ _ ⟨v11, ?_, hL11, by rw [if_neg hk1, List.append_nil]; exact B11⟩
        simp only [guard_undef, List.contains_cons, List.contains_nil, Nat.reduceBEq, Int.cast_ofNat_Int, and_self, k_pend_g, pendV, go_sem, i64_wrap_id, Int.reduceAdd, Int.reduceSub, Int.reduceNeg, Int.reduceMul, Nat.reduceSub, Nat.reduceEqDiff, Nat.reduceAdd, Nat.reduceMul, Nat.reduceLeDiff, ↓reduceIte, reduceCtorEq, Int.reduceToNat, Int.reduceLT, Int.reduceLE, Int.reduceEq, slots_cons, slots_nil, Int.natCast_add, Int.natCast_succ, Int.cast_ofNat_Int, hk]
      rintro t6 S14 ⟨v14, h6, hL14, B14⟩
      simp only [slots_cons, slots_nil, hk] at h6
      clear hk
      have hzl : (if y.kind = 1 then rcBytes y.h else []).length ≤ 32 := by split <;> simp [rcBytes_length]
      simp only [guard_undef, List.contains_cons, List.contains_nil, Nat.reduceBEq, Int.cast_ofNat_Int, and_self, k_pend_g, pendV, go_sem, i64_wrap_id, Int.reduceAdd, Int.reduceSub, Int.reduceNeg, Int.reduceMul, Nat.reduceSub, Nat.reduceEqDiff, Nat.reduceAdd, Nat.reduceMul, Nat.reduceLeDiff, ↓reduceIte, reduceCtorEq, Int.reduceToNat, Int.reduceLT, Int.reduceLE, Int.reduceEq, h6, wrap64u]
      refine cK_of (rect82 y.c S14 hyok.c) ?_
      rintro r15 S15 hS15 hL15 B15
      simp only [guard_undef, List.contains_cons, List.contains_nil, Nat.reduceBEq, Int.cast_ofNat_Int, and_self, k_pend_g, pendV, go_sem, i64_wrap_id, Int.reduceAdd, Int.reduceSub, Int.reduceNeg, Int.reduceMul, Nat.reduceSub, Nat.reduceEqDiff, Nat.reduceAdd, Nat.reduceMul, Nat.reduceLeDiff, ↓reduceIte, reduceCtorEq, Int.reduceToNat, Int.reduceLT, Int.reduceLE, Int.reduceEq, h6]
      refine hK_of ((B14.later hL14 B15.keep).app hL15 hL B15.own.sl (by simp only [List.length_append, hlr]; omega)) ?_
      rintro v16 S16 ⟨hL16, B16, hn16, hk16⟩
      simp only [guard_undef, List.contains_cons, List.contains_nil, Nat.reduceBEq, Int.cast_ofNat_Int, and_self, k_pend_g, pendV, go_sem, i64_wrap_id, Int.reduceAdd, Int.reduceSub, Int.reduceNeg, Int.reduceMul, Nat.reduceSub, Nat.reduceEqDiff, Nat.reduceAdd, Nat.reduceMul, Nat.reduceLeDiff, ↓reduceIte, reduceCtorEq, Int.reduceToNat, Int.reduceLT, Int.reduceLE, Int.reduceEq, h6]
      refine cK_of (number8 y.color S16) ?_
      rintro r17 S17 hS17 hL17 ⟨hO17, hK17, hF17⟩
      simp only [guard_undef, List.contains_cons, List.contains_nil, Nat.reduceBEq, Int.cast_ofNat_Int, and_self, k_pend_g, pendV, go_sem, i64_wrap_id, Int.reduceAdd, Int.reduceSub, Int.reduceNeg, Int.reduceMul, Nat.reduceSub, Nat.reduceEqDiff, Nat.reduceAdd, Nat.reduceMul, Nat.reduceLeDiff, ↓reduceIte, reduceCtorEq, Int.reduceToNat, Int.reduceLT, Int.reduceLE, Int.reduceEq, h6]
      refine hK_of ((B16.later hL16 hK17).app hL17 hL hO17.sl (by simp only [List.length_append, hlr, be64_length]; omega)) ?_
      rintro v18 S18 ⟨hL18, B18, hn18, hk18⟩
      simp only [guard_undef, List.contains_cons, List.contains_nil, Nat.reduceBEq, Int.cast_ofNat_Int, and_self, k_pend_g, pendV, go_sem, i64_wrap_id, Int.reduceAdd, Int.reduceSub, Int.reduceNeg, Int.reduceMul, Nat.reduceSub, Nat.reduceEqDiff, Nat.reduceAdd, Nat.reduceMul, Nat.reduceLeDiff, ↓reduceIte, reduceCtorEq, Int.reduceToNat, Int.reduceLT, Int.reduceLE, Int.reduceEq, h6, hj1]
      refine hN _ _ ⟨j + 1, v18, by omega, ?_, hL18, ?_⟩ ?_
      · simp only [guard_undef, List.contains_cons, List.contains_nil, Nat.reduceBEq, Int.cast_ofNat_Int, and_self, k_pend_g, pendV, go_sem, i64_wrap_id, Int.reduceAdd, Int.reduceSub, Int.reduceNeg, Int.reduceMul, Nat.reduceSub, Nat.reduceEqDiff, Nat.reduceAdd, Nat.reduceMul, Nat.reduceLeDiff, ↓reduceIte, reduceCtorEq, Int.reduceToNat, Int.reduceLT, Int.reduceLE, Int.reduceEq, slots_cons, slots_nil, Int.natCast_add, Int.natCast_succ, Int.cast_ofNat_Int, h6]
      · have e : be (l.length : Int) 4 ++ flatB (l.take (j + 1)) = ((((X9 ++ rcBytes y.r) ++ (if y.kind = 1 then rcBytes y.h else [])) ++ rcBytes y.c) ++ be64 y.color) := by
          rw [hft, hX9, hX]
          unfold itmBytes
          simp only [List.append_assoc, List.cons_append, List.nil_append]
        rw [e]
        exact B18
      · simp only [guard_undef, List.contains_cons, List.contains_nil, Nat.reduceBEq, Int.cast_ofNat_Int, and_self, k_pend_g, pendV, go_sem, i64_wrap_id, Int.reduceAdd, Int.reduceSub, Int.reduceNeg, Int.reduceMul, Nat.reduceSub, Nat.reduceEqDiff, Nat.reduceAdd, Nat.reduceMul, Nat.reduceLeDiff, ↓reduceIte, reduceCtorEq, Int.reduceToNat, Int.reduceLT, Int.reduceLE, Int.reduceEq, h6, h1]
        simp [RowKit.intOf]
        omega
    · have hkn := Keeps.of_new S3 ⟨false, [.int .u8 y.kind]⟩ fun _ => True
      have hb3 := bs_new1 S3 y.kind
      have hL3' := hL3.new ⟨false, [.int .u8 y.kind]⟩
      have hB3 := (B2.later hL2 hK3).laterNew hL3 ⟨false, [.int .u8 y.kind]⟩
      refine hK_of (hB3.app hL3' hL (Sl.keeps hL3 hO3.sl hkn fun _ _ => trivial) (by rw [be_length]; omega)) ?_
      rintro v4 S4 ⟨hL4, B4, hn4, hk4⟩
      have hoff : Off v S3.next := fun e => by have := (B2.own.sl.lt hL2 e); omega
      have hb4 : Bs S4 (.slice (some ⟨S3.next, 0, none⟩) 1 1) [y.kind] := Sl.keep hb3 fun d hd => by
        simp [Value.blkOf] at hd
        subst hd
        exact (hk4 _ (by simp [St.next_new]) hoff).1
      simp only [guard_undef, List.contains_cons, List.contains_nil, Nat.reduceBEq, Int.cast_ofNat_Int, and_self, k_pend_g, pendV, go_sem, i64_wrap_id, Int.reduceAdd, Int.reduceSub, Int.reduceNeg, Int.reduceMul, Nat.reduceSub, Nat.reduceEqDiff, Nat.reduceAdd, Nat.reduceMul, Nat.reduceLeDiff, ↓reduceIte, reduceCtorEq, Int.reduceToNat, Int.reduceLT, Int.reduceLE, Int.reduceEq, h1]
      refine hK_of (B4.app hL4 hL hb4 (by simp only [List.length_append, be_length, List.length_cons, List.length_nil]; omega)) ?_
      rintro v9 S9 ⟨hL9, B9, hn9, hk9⟩
      simp only [guard_undef, List.contains_cons, List.contains_nil, Nat.reduceBEq, Int.cast_ofNat_Int, and_self, k_pend_g, pendV, go_sem, i64_wrap_id, Int.reduceAdd, Int.reduceSub, Int.reduceNeg, Int.reduceMul, Nat.reduceSub, Nat.reduceEqDiff, Nat.reduceAdd, Nat.reduceMul, Nat.reduceLeDiff, ↓reduceIte, reduceCtorEq, Int.reduceToNat, Int.reduceLT, Int.reduceLE, Int.reduceEq, h1]
      (first | refine cK_keep [0,3,5,11,12,30] fun t1 hk' => ?_ | refine lK_keep [0,3,5,11,12,30] fun t1 hk' => ?_ | refine iK_keep [0,3,5,11,12,30] fun t1 hk' => ?_ | refine hK_keep [0,3,5,11,12,30] fun t1 hk' => ?_); simp only [guard_undef, List.contains_cons, List.contains_nil, Nat.reduceBEq, Int.cast_ofNat_Int, and_self, k_pend_g, pendV, go_sem, i64_wrap_id, Int.reduceAdd, Int.reduceSub, Int.reduceNeg, Int.reduceMul, Nat.reduceSub, Nat.reduceEqDiff, Nat.reduceAdd, Nat.reduceMul, Nat.reduceLeDiff, ↓reduceIte, reduceCtorEq, Int.reduceToNat, Int.reduceLT, Int.reduceLE, Int.reduceEq, keepL_cons, keepL_nil, slots_cons, slots_nil, h1] at hk'; have hk := hk'; clear hk'
      obtain ⟨X9, hX9⟩ : ∃ X9, X9 = (X ++ be y.node 4) ++ [y.kind] := ⟨_, rfl⟩
      rw [← hX9] at B9
      have hX9l : X9.length ≤ 109000050 := by rw [hX9]; simp only [List.length_append, be_length, List.length_cons, List.length_nil]; omega
      refine cK_of (rect82 y.r S9 hyok.r) ?_
      rintro r10 S10 hS10 hL10 B10
      simp only [guard_undef, List.contains_cons, List.contains_nil, Nat.reduceBEq, Int.cast_ofNat_Int, and_self, k_pend_g, pendV, go_sem, i64_wrap_id, Int.reduceAdd, Int.reduceSub, Int.reduceNeg, Int.reduceMul, Nat.reduceSub, Nat.reduceEqDiff, Nat.reduceAdd, Nat.reduceMul, Nat.reduceLeDiff, ↓reduceIte, reduceCtorEq, Int.reduceToNat, Int.reduceLT, Int.reduceLE, Int.reduceEq, hk]
      refine hK_of ((B9.later hL9 B10.keep).app hL10 hL B10.own.sl (by rw [hlr]; omega)) ?_
      rintro v11 S11 ⟨hL11, B11, hn11, hk11⟩
      simp only [guard_undef, List.contains_cons, List.contains_nil, Nat.reduceBEq, Int.cast_ofNat_Int, and_self, k_pend_g, pendV, go_sem, i64_wrap_id, Int.reduceAdd, Int.reduceSub, Int.reduceNeg, Int.reduceMul, Nat.reduceSub, Nat.reduceEqDiff, Nat.reduceAdd, Nat.reduceMul, Nat.reduceLeDiff, ↓reduceIte, reduceCtorEq, Int.reduceToNat, Int.reduceLT, Int.reduceLE, Int.reduceEq, hk]
      (first | refine cK_keep [0,3,5,11,12] fun t1 hk' => ?_ | refine lK_keep [0,3,5,11,12] fun t1 hk' => ?_ | refine iK_keep [0,3,5,11,12] fun t1 hk' => ?_ | refine hK_keep [0,3,5,11,12] fun t1 hk' => ?_); simp only [guard_undef, List.contains_cons, List.contains_nil, Nat.reduceBEq, Int.cast_ofNat_Int, and_self, k_pend_g, pendV, go_sem, i64_wrap_id, Int.reduceAdd, Int.reduceSub, Int.reduceNeg, Int.reduceMul, Nat.reduceSub, Nat.reduceEqDiff, Nat.reduceAdd, Nat.reduceMul, Nat.reduceLeDiff, ↓reduceIte, reduceCtorEq, Int.reduceToNat, Int.reduceLT, Int.reduceLE, Int.reduceEq, keepL_cons, keepL_nil, slots_cons, slots_nil, hk] at hk'; clear hk; have hk := hk'; clear hk'
      refine iK_cut (fun t' S' => ∃ v12, Slots t' [(0, t1 0), (5, t1 5), (11, t1 11), (12, t1 12), (3, v12)] ∧ Live S' ∧ Buf S S' v12 ((X9 ++ rcBytes y.r) ++ (if y.kind = 1 then rcBytes y.h else []))) (fun Q6 hN6 hE6 => iK_split (fun hc => ?_) (fun hc => ?_)) ?_
      · have hk1 : y.kind = 1 := by simpa using hc
        simp only [guard_undef, List.contains_cons, List.contains_nil, Nat.reduceBEq, Int.cast_ofNat_Int, and_self, k_pend_g, pendV, go_sem, i64_wrap_id, Int.reduceAdd, Int.reduceSub, Int.reduceNeg, Int.reduceMul, Nat.reduceSub, Nat.reduceEqDiff, Nat.reduceAdd, Nat.reduceMul, Nat.reduceLeDiff, ↓reduceIte, reduceCtorEq, Int.reduceToNat, Int.reduceLT, Int.reduceLE, Int.reduceEq, hk]
        refine cK_of (rect82 y.h S11 hyok.h) ?_
        rintro r12 S12 hS12 hL12 B12
        simp only [guard_undef, List.contains_cons, List.contains_nil, Nat.reduceBEq, Int.cast_ofNat_Int, and_self, k_pend_g, pendV, go_sem, i64_wrap_id, Int.reduceAdd, Int.reduceSub, Int.reduceNeg, Int.reduceMul, Nat.reduceSub, Nat.reduceEqDiff, Nat.reduceAdd, Nat.reduceMul, Nat.reduceLeDiff, ↓reduceIte, reduceCtorEq, Int.reduceToNat, Int.reduceLT, Int.reduceLE, Int.reduceEq, hk]
        refine hK_of ((B11.later hL11 B12.keep).app hL12 hL B12.own.sl (by simp only [List.length_append, hlr]; omega)) ?_
        rintro v13 S13 ⟨hL13, B13, hn13, hk13⟩
        simp only [guard_undef, List.contains_cons, List.contains_nil, Nat.reduceBEq, Int.cast_ofNat_Int, and_self, k_pend_g, pendV, go_sem, i64_wrap_id, Int.reduceAdd, Int.reduceSub, Int.reduceNeg, Int.reduceMul, Nat.reduceSub, Nat.reduceEqDiff, Nat.reduceAdd, Nat.reduceMul, Nat.reduceLeDiff, ↓reduceIte, reduceCtorEq, Int.reduceToNat, Int.reduceLT, Int.reduceLE, Int.reduceEq, hk]
        refine hN6 _ _ ⟨v13, ?_, hL13, by rw [if_pos hk1]; exact B13⟩
        simp only [guard_undef, List.contains_cons, List.contains_nil, Nat.reduceBEq, Int.cast_ofNat_Int, and_self, k_pend_g, pendV, go_sem, i64_wrap_id, Int.reduceAdd, Int.reduceSub, Int.reduceNeg, Int.reduceMul, Nat.reduceSub, Nat.reduceEqDiff, Nat.reduceAdd, Nat.reduceMul, Nat.reduceLeDiff, ↓reduceIte, reduceCtorEq, Int.reduceToNat, Int.reduceLT, Int.reduceLE, Int.reduceEq, slots_cons, slots_nil, Int.natCast_add, Int.natCast_succ, Int.cast_ofNat_Int, hk]
      · have hk1 : ¬ y.kind = 1 := by simpa using hc
        simp only [guard_undef, List.contains_cons, List.contains_nil, Nat.reduceBEq, Int.cast_ofNat_Int, and_self, k_pend_g, pendV, go_sem, i64_wrap_id, Int.reduceAdd, Int.reduceSub, Int.reduceNeg, Int.reduceMul, Nat.reduceSub, Nat.reduceEqDiff, Nat.reduceAdd, Nat.reduceMul, Nat.reduceLeDiff, ↓reduceIte, reduceCtorEq, Int.reduceToNat, Int.reduceLT, Int.reduceLE, Int.reduceEq, hk]
        refine hN6 _ _ ⟨v11, ?_, hL11, by rw [if_neg hk1, List.append_nil]; exact B11⟩
        simp only [guard_undef, List.contains_cons, List.contains_nil, Nat.reduceBEq, Int.cast_ofNat_Int, and_self, k_pend_g, pendV, go_sem, i64_wrap_id, Int.reduceAdd, Int.reduceSub, Int.reduceNeg, Int.reduceMul, Nat.reduceSub, Nat.reduceEqDiff, Nat.reduceAdd, Nat.reduceMul, Nat.reduceLeDiff, ↓reduceIte, reduceCtorEq, Int.reduceToNat, Int.reduceLT, Int.reduceLE, Int.reduceEq, slots_cons, slots_nil, Int.natCast_add, Int.natCast_succ, Int.cast_ofNat_Int, hk]
      rintro t6 S14 ⟨v14, h6, hL14, B14⟩
      simp only [slots_cons, slots_nil, hk] at h6
      clear hk
      have hzl : (if y.kind = 1 then rcBytes y.h else []).length ≤ 32 := by split <;> simp [rcBytes_length]
      simp only [guard_undef, List.contains_cons, List.contains_nil, Nat.reduceBEq, Int.cast_ofNat_Int, and_self, k_pend_g, pendV, go_sem, i64_wrap_id, Int.reduceAdd, Int.reduceSub, Int.reduceNeg, Int.reduceMul, Nat.reduceSub, Nat.reduceEqDiff, Nat.reduceAdd, Nat.reduceMul, Nat.reduceLeDiff, ↓reduceIte, reduceCtorEq, Int.reduceToNat, Int.reduceLT, Int.reduceLE, Int.reduceEq, h6, wrap64u]
      refine cK_of (rect82 y.c S14 hyok.c) ?_
      rintro r15 S15 hS15 hL15 B15
      simp only [guard_undef, List.contains_cons, List.contains_nil, Nat.reduceBEq, Int.cast_ofNat_Int, and_self, k_pend_g, pendV, go_sem, i64_wrap_id, Int.reduceAdd, Int.reduceSub, Int.reduceNeg, Int.reduceMul, Nat.reduceSub, Nat.reduceEqDiff, Nat.reduceAdd, Nat.reduceMul, Nat.reduceLeDiff, ↓reduceIte, reduceCtorEq, Int.reduceToNat, Int.reduceLT, Int.reduceLE, Int.reduceEq, h6]
      refine hK_of ((B14.later hL14 B15.keep).app hL15 hL B15.own.sl (by simp only [List.length_append, hlr]; omega)) ?_
      rintro v16 S16 ⟨hL16, B16, hn16, hk16⟩
      simp only [guard_undef, List.contains_cons, List.contains_nil, Nat.reduceBEq, Int.cast_ofNat_Int, and_self, k_pend_g, pendV, go_sem, i64_wrap_id, Int.reduceAdd, Int.reduceSub, Int.reduceNeg, Int.reduceMul, Nat.reduceSub, Nat.reduceEqDiff, Nat.reduceAdd, Nat.reduceMul, Nat.reduceLeDiff, ↓reduceIte, reduceCtorEq, Int.reduceToNat, Int.reduceLT, Int.reduceLE, Int.reduceEq, h6]
      refine cK_of (number8 y.color S16) ?_
      rintro r17 S17 hS17 hL17 ⟨hO17, hK17, hF17⟩
      simp only [guard_undef, List.contains_cons, List.contains_nil, Nat.reduceBEq, Int.cast_ofNat_Int, and_self, k_pend_g, pendV, go_sem, i64_wrap_id, Int.reduceAdd, Int.reduceSub, Int.reduceNeg, Int.reduceMul, Nat.reduceSub, Nat.reduceEqDiff, Nat.reduceAdd, Nat.reduceMul, Nat.reduceLeDiff, ↓reduceIte, reduceCtorEq, Int.reduceToNat, Int.reduceLT, Int.reduceLE, Int.reduceEq, h6]
      refine hK_of ((B16.later hL16 hK17).app hL17 hL hO17.sl (by simp only [List.length_append, hlr, be64_length]; omega)) ?_
      rintro v18 S18 ⟨hL18, B18, hn18, hk18⟩
      simp only [guard_undef, List.contains_cons, List.contains_nil, Nat.reduceBEq, Int.cast_ofNat_Int, and_self, k_pend_g, pendV, go_sem, i64_wrap_id, Int.reduceAdd, Int.reduceSub, Int.reduceNeg, Int.reduceMul, Nat.reduceSub, Nat.reduceEqDiff, Nat.reduceAdd, Nat.reduceMul, Nat.reduceLeDiff, ↓reduceIte, reduceCtorEq, Int.reduceToNat, Int.reduceLT, Int.reduceLE, Int.reduceEq, h6, hj1]
      refine hN _ _ ⟨j + 1, v18, by omega, ?_, hL18, ?_⟩ ?_
      · simp only [guard_undef, List.contains_cons, List.contains_nil, Nat.reduceBEq, Int.cast_ofNat_Int, and_self, k_pend_g, pendV, go_sem, i64_wrap_id, Int.reduceAdd, Int.reduceSub, Int.reduceNeg, Int.reduceMul, Nat.reduceSub, Nat.reduceEqDiff, Nat.reduceAdd, Nat.reduceMul, Nat.reduceLeDiff, ↓reduceIte, reduceCtorEq, Int.reduceToNat, Int.reduceLT, Int.reduceLE, Int.reduceEq, slots_cons, slots_nil, Int.natCast_add, Int.natCast_succ, Int.cast_ofNat_Int, h6]
      · have e : be (l.length : Int) 4 ++ flatB (l.take (j + 1)) = ((((X9 ++ rcBytes y.r) ++ (if y.kind = 1 then rcBytes y.h else [])) ++ rcBytes y.c) ++ be64 y.color) := by
          rw [hft, hX9, hX]
          unfold itmBytes
          simp only [List.append_assoc, List.cons_append, List.nil_append]
        rw [e]
        exact B18
      · simp only [guard_undef, List.contains_cons, List.contains_nil, Nat.reduceBEq, Int.cast_ofNat_Int, and_self, k_pend_g, pendV, go_sem, i64_wrap_id, Int.reduceAdd, Int.reduceSub, Int.reduceNeg, Int.reduceMul, Nat.reduceSub, Nat.reduceEqDiff, Nat.reduceAdd, Nat.reduceMul, Nat.reduceLeDiff, ↓reduceIte, reduceCtorEq, Int.reduceToNat, Int.reduceLT, Int.reduceLE, Int.reduceEq, h6, h1]
        simp [RowKit.intOf]
        omega
  · have hkn := Keeps.of_new S2 ⟨false, [.int .u8 y.kind]⟩ fun _ => True
    have hb2 := bs_new1 S2 y.kind
    have hL2' := hL2.new ⟨false, [.int .u8 y.kind]⟩
    have hB2' := B2.laterNew hL2 ⟨false, [.int .u8 y.kind]⟩
    refine cK_of (number4 y.node _ p1 (by omega)) ?_
    rintro r3 S3 hS3 hL3 ⟨hO3, hK3, hF3⟩
    have hb3 := Sl.keeps hL2' hb2 hK3 fun _ _ => trivial
    simp only [guard_undef, List.contains_cons, List.contains_nil, Nat.reduceBEq, Int.cast_ofNat_Int, and_self, k_pend_g, pendV, go_sem, i64_wrap_id, Int.reduceAdd, Int.reduceSub, Int.reduceNeg, Int.reduceMul, Nat.reduceSub, Nat.reduceEqDiff, Nat.reduceAdd, Nat.reduceMul, Nat.reduceLeDiff, ↓reduceIte, reduceCtorEq, Int.reduceToNat, Int.reduceLT, Int.reduceLE, Int.reduceEq, h1]
    refine hK_of ((hB2'.later hL2' hK3).app hL3 hL hO3.sl (by rw [be_length]; omega)) ?_
    rintro v4 S4 ⟨hL4, B4, hn4, hk4⟩
    have hoff : Off v S2.next := fun e => by have := (B2.own.sl.lt hL2 e); omega
    have hb4 : Bs S4 (.slice (some ⟨S2.next, 0, none⟩) 1 1) [y.kind] := Sl.keep hb3 fun d hd => by
      simp [Value.blkOf] at hd
      subst hd
      exact (hk4 _ (by have := hK3.1; simp [St.next_new] at this; omega) hoff).1
    simp only [guard_undef, List.contains_cons, List.contains_nil, Nat.reduceBEq, Int.cast_ofNat_Int, and_self, k_pend_g, pendV, go_sem, i64_wrap_id, Int.reduceAdd, Int.reduceSub, Int.reduceNeg, Int.reduceMul, Nat.reduceSub, Nat.reduceEqDiff, Nat.reduceAdd, Nat.reduceMul, Nat.reduceLeDiff, ↓reduceIte, reduceCtorEq, Int.reduceToNat, Int.reduceLT, Int.reduceLE, Int.reduceEq, h1]
    refine hK_of (B4.app hL4 hL hb4 (by simp only [List.length_append, be_length, List.length_cons, List.length_nil]; omega)) ?_
    rintro v9 S9 ⟨hL9, B9, hn9, hk9⟩
    simp only [guard_undef, List.contains_cons, List.contains_nil, Nat.reduceBEq, Int.cast_ofNat_Int, and_self, k_pend_g, pendV, go_sem, i64_wrap_id, Int.reduceAdd, Int.reduceSub, Int.reduceNeg, Int.reduceMul, Nat.reduceSub, Nat.reduceEqDiff, Nat.reduceAdd, Nat.reduceMul, Nat.reduceLeDiff, ↓reduceIte, reduceCtorEq, Int.reduceToNat, Int.reduceLT, Int.reduceLE, Int.reduceEq, h1]
    (first | refine cK_keep [0,3,5,11,12,30] fun t1 hk' => ?_ | refine lK_keep [0,3,5,11,12,30] fun t1 hk' => ?_ | refine iK_keep [0,3,5,11,12,30] fun t1 hk' => ?_ | refine hK_keep [0,3,5,11,12,30] fun t1 hk' => ?_); simp only [guard_undef, List.contains_cons, List.contains_nil, Nat.reduceBEq, Int.cast_ofNat_Int, and_self, k_pend_g, pendV, go_sem, i64_wrap_id, Int.reduceAdd, Int.reduceSub, Int.reduceNeg, Int.reduceMul, Nat.reduceSub, Nat.reduceEqDiff, Nat.reduceAdd, Nat.reduceMul, Nat.reduceLeDiff, ↓reduceIte, reduceCtorEq, Int.reduceToNat, Int.reduceLT, Int.reduceLE, Int.reduceEq, keepL_cons, keepL_nil, slots_cons, slots_nil, h1] at hk'; have hk := hk'; clear hk'
    obtain ⟨X9, hX9⟩ : ∃ X9, X9 = (X ++ be y.node 4) ++ [y.kind] := ⟨_, rfl⟩
    rw [← hX9] at B9
    have hX9l : X9.length ≤ 109000050 := by rw [hX9]; simp only [List.length_append, be_length, List.length_cons, List.length_nil]; omega
    refine cK_of (rect82 y.r S9 hyok.r) ?_
    rintro r10 S10 hS10 hL10 B10
    simp only [guard_undef, List.contains_cons, List.contains_nil, Nat.reduceBEq, Int.cast_ofNat_Int, and_self, k_pend_g, pendV, go_sem, i64_wrap_id, Int.reduceAdd, Int.reduceSub, Int.reduceNeg, Int.reduceMul, Nat.reduceSub, Nat.reduceEqDiff, Nat.reduceAdd, Nat.reduceMul, Nat.reduceLeDiff, ↓reduceIte, reduceCtorEq, Int.reduceToNat, Int.reduceLT, Int.reduceLE, Int.reduceEq, hk]
    refine hK_of ((B9.later hL9 B10.keep).app hL10 hL B10.own.sl (by rw [hlr]; omega)) ?_
    rintro v11 S11 ⟨hL11, B11, hn11, hk11⟩
    simp only [guard_undef, List.contains_cons, List.contains_nil, Nat.reduceBEq, Int.cast_ofNat_Int, and_self, k_pend_g, pendV, go_sem, i64_wrap_id, Int.reduceAdd, Int.reduceSub, Int.reduceNeg, Int.reduceMul, Nat.reduceSub, Nat.reduceEqDiff, Nat.reduceAdd, Nat.reduceMul, Nat.reduceLeDiff, ↓reduceIte, reduceCtorEq, Int.reduceToNat, Int.reduceLT, Int.reduceLE, Int.reduceEq, hk]
    (first | refine cK_keep [0,3,5,11,12] fun t1 hk' => ?_ | refine lK_keep [0,3,5,11,12] fun t1 hk' => ?_ | refine iK_keep [0,3,5,11,12] fun t1 hk' => ?_ | refine hK_keep [0,3,5,11,12] fun t1 hk' => ?_); simp only [guard_undef, List.contains_cons, List.contains_nil, Nat.reduceBEq, Int.cast_ofNat_Int, and_self, k_pend_g, pendV, go_sem, i64_wrap_id, Int.reduceAdd, Int.reduceSub, Int.reduceNeg, Int.reduceMul, Nat.reduceSub, Nat.reduceEqDiff, Nat.reduceAdd, Nat.reduceMul, Nat.reduceLeDiff, ↓reduceIte, reduceCtorEq, Int.reduceToNat, Int.reduceLT, Int.reduceLE, Int.reduceEq, keepL_cons, keepL_nil, slots_cons, slots_nil, hk] at hk'; clear hk; have hk := hk'; clear hk'
    refine iK_cut (fun t' S' => ∃ v12, Slots t' [(0, t1 0), (5, t1 5), (11, t1 11), (12, t1 12), (3, v12)] ∧ Live S' ∧ Buf S S' v12 ((X9 ++ rcBytes y.r) ++ (if y.kind = 1 then rcBytes y.h else []))) (fun Q6 hN6 hE6 => iK_split (fun hc => ?_) (fun hc => ?_)) ?_
    · have hk1 : y.kind = 1 := by simpa using hc
      simp only [guard_undef, List.contains_cons, List.contains_nil, Nat.reduceBEq, Int.cast_ofNat_Int, and_self, k_pend_g, pendV, go_sem, i64_wrap_id, Int.reduceAdd, Int.reduceSub, Int.reduceNeg, Int.reduceMul, Nat.reduceSub, Nat.reduceEqDiff, Nat.reduceAdd, Nat.reduceMul, Nat.reduceLeDiff, ↓reduceIte, reduceCtorEq, Int.reduceToNat, Int.reduceLT, Int.reduceLE, Int.reduceEq, hk]
      refine cK_of (rect82 y.h S11 hyok.h) ?_
      rintro r12 S12 hS12 hL12 B12
      simp only [guard_undef, List.contains_cons, List.contains_nil, Nat.reduceBEq, Int.cast_ofNat_Int, and_self, k_pend_g, pendV, go_sem, i64_wrap_id, Int.reduceAdd, Int.reduceSub, Int.reduceNeg, Int.reduceMul, Nat.reduceSub, Nat.reduceEqDiff, Nat.reduceAdd, Nat.reduceMul, Nat.reduceLeDiff, ↓reduceIte, reduceCtorEq, Int.reduceToNat, Int.reduceLT, Int.reduceLE, Int.reduceEq, hk]
      refine hK_of ((B11.later hL11 B12.keep).app hL12 hL B12.own.sl (by simp only [List.length_append, hlr]; omega)) ?_
      rintro v13 S13 ⟨hL13, B13, hn13, hk13⟩
      simp only [guard_undef, List.contains_cons, List.contains_nil, Nat.reduceBEq, Int.cast_ofNat_Int, and_self, k_pend_g, pendV, go_sem, i64_wrap_id, Int.reduceAdd, Int.reduceSub, Int.reduceNeg, Int.reduceMul, Nat.reduceSub, Nat.reduceEqDiff, Nat.reduceAdd, Nat.reduceMul, Nat.reduceLeDiff, ↓reduceIte, reduceCtorEq, Int.reduceToNat, Int.reduceLT, Int.reduceLE, Int.reduceEq, hk]
      refine hN6 _ _ ⟨v13, ?_, hL13, by rw [if_pos hk1]; exact B13⟩
      simp only [guard_undef, List.contains_cons, List.contains_nil, Nat.reduceBEq, Int.cast_ofNat_Int, and_self, k_pend_g, pendV, go_sem, i64_wrap_id, Int.reduceAdd, Int.reduceSub, Int.reduceNeg, Int.reduceMul, Nat.reduceSub, Nat.reduceEqDiff, Nat.reduceAdd, Nat.reduceMul, Nat.reduceLeDiff, ↓reduceIte, reduceCtorEq, Int.reduceToNat, Int.reduceLT, Int.reduceLE, Int.reduceEq, slots_cons, slots_nil, Int.natCast_add, Int.natCast_succ, Int.cast_ofNat_Int, hk]
    · have hk1 : ¬ y.kind = 1 := by simpa using hc
      simp only [guard_undef, List.contains_cons, List.contains_nil, Nat.reduceBEq, Int.cast_ofNat_Int, and_self, k_pend_g, pendV, go_sem, i64_wrap_id, Int.reduceAdd, Int.reduceSub, Int.reduceNeg, Int.reduceMul, Nat.reduceSub, Nat.reduceEqDiff, Nat.reduceAdd, Nat.reduceMul, Nat.reduceLeDiff, ↓reduceIte, reduceCtorEq, Int.reduceToNat, Int.reduceLT, Int.reduceLE, Int.reduceEq, hk]
      refine hN6 _ _ ⟨v11, ?_, hL11, by rw [if_neg hk1, List.append_nil]; exact B11⟩
      simp only [guard_undef, List.contains_cons, List.contains_nil, Nat.reduceBEq, Int.cast_ofNat_Int, and_self, k_pend_g, pendV, go_sem, i64_wrap_id, Int.reduceAdd, Int.reduceSub, Int.reduceNeg, Int.reduceMul, Nat.reduceSub, Nat.reduceEqDiff, Nat.reduceAdd, Nat.reduceMul, Nat.reduceLeDiff, ↓reduceIte, reduceCtorEq, Int.reduceToNat, Int.reduceLT, Int.reduceLE, Int.reduceEq, slots_cons, slots_nil, Int.natCast_add, Int.natCast_succ, Int.cast_ofNat_Int, hk]
    rintro t6 S14 ⟨v14, h6, hL14, B14⟩
    simp only [slots_cons, slots_nil, hk] at h6
    clear hk
    have hzl : (if y.kind = 1 then rcBytes y.h else []).length ≤ 32 := by split <;> simp [rcBytes_length]
    simp only [guard_undef, List.contains_cons, List.contains_nil, Nat.reduceBEq, Int.cast_ofNat_Int, and_self, k_pend_g, pendV, go_sem, i64_wrap_id, Int.reduceAdd, Int.reduceSub, Int.reduceNeg, Int.reduceMul, Nat.reduceSub, Nat.reduceEqDiff, Nat.reduceAdd, Nat.reduceMul, Nat.reduceLeDiff, ↓reduceIte, reduceCtorEq, Int.reduceToNat, Int.reduceLT, Int.reduceLE, Int.reduceEq, h6, wrap64u]
    refine cK_of (rect82 y.c S14 hyok.c) ?_
    rintro r15 S15 hS15 hL15 B15
    simp only [guard_undef, List.contains_cons, List.contains_nil, Nat.reduceBEq, Int.cast_ofNat_Int, and_self, k_pend_g, pendV, go_sem, i64_wrap_id, Int.reduceAdd, Int.reduceSub, Int.reduceNeg, Int.reduceMul, Nat.reduceSub, Nat.reduceEqDiff, Nat.reduceAdd, Nat.reduceMul, Nat.reduceLeDiff, ↓reduceIte, reduceCtorEq, Int.reduceToNat, Int.reduceLT, Int.reduceLE, Int.reduceEq, h6]
    refine hK_of ((B14.later hL14 B15.keep).app hL15 hL B15.own.sl (by simp only [List.length_append, hlr]; omega)) ?_
    rintro v16 S16 ⟨hL16, B16, hn16, hk16⟩
    simp only [guard_undef, List.contains_cons, List.contains_nil, Nat.reduceBEq, Int.cast_ofNat_Int, and_self, k_pend_g, pendV, go_sem, i64_wrap_id, Int.reduceAdd, Int.reduceSub, Int.reduceNeg, Int.reduceMul, Nat.reduceSub, Nat.reduceEqDiff, Nat.reduceAdd, Nat.reduceMul, Nat.reduceLeDiff, ↓reduceIte, reduceCtorEq, Int.reduceToNat, Int.reduceLT, Int.reduceLE, Int.reduceEq, h6]
    refine cK_of (number8 y.color S16) ?_
    rintro r17 S17 hS17 hL17 ⟨hO17, hK17, hF17⟩
    simp only [guard_undef, List.contains_cons, List.contains_nil, Nat.reduceBEq, Int.cast_ofNat_Int, and_self, k_pend_g, pendV, go_sem, i64_wrap_id, Int.reduceAdd, Int.reduceSub, Int.reduceNeg, Int.reduceMul, Nat.reduceSub, Nat.reduceEqDiff, Nat.reduceAdd, Nat.reduceMul, Nat.reduceLeDiff, ↓reduceIte, reduceCtorEq, Int.reduceToNat, Int.reduceLT, Int.reduceLE, Int.reduceEq, h6]
    refine hK_of ((B16.later hL16 hK17).app hL17 hL hO17.sl (by simp only [List.length_append, hlr, be64_length]; omega)) ?_
    rintro v18 S18 ⟨hL18, B18, hn18, hk18⟩
    simp only [guard_undef, List.contains_cons, List.contains_nil, Nat.reduceBEq, Int.cast_ofNat_Int, and_self, k_pend_g, pendV, go_sem, i64_wrap_id, Int.reduceAdd, Int.reduceSub, Int.reduceNeg, Int.reduceMul, Nat.reduceSub, Nat.reduceEqDiff, Nat.reduceAdd, Nat.reduceMul, Nat.reduceLeDiff, ↓reduceIte, reduceCtorEq, Int.reduceToNat, Int.reduceLT, Int.reduceLE, Int.reduceEq, h6, hj1]
    refine hN _ _ ⟨j + 1, v18, by omega, ?_, hL18, ?_⟩ ?_
    · simp only [guard_undef, List.contains_cons, List.contains_nil, Nat.reduceBEq, Int.cast_ofNat_Int, and_self, k_pend_g, pendV, go_sem, i64_wrap_id, Int.reduceAdd, Int.reduceSub, Int.reduceNeg, Int.reduceMul, Nat.reduceSub, Nat.reduceEqDiff, Nat.reduceAdd, Nat.reduceMul, Nat.reduceLeDiff, ↓reduceIte, reduceCtorEq, Int.reduceToNat, Int.reduceLT, Int.reduceLE, Int.reduceEq, slots_cons, slots_nil, Int.natCast_add, Int.natCast_succ, Int.cast_ofNat_Int, h6]
    · have e : be (l.length : Int) 4 ++ flatB (l.take (j + 1)) = ((((X9 ++ rcBytes y.r) ++ (if y.kind = 1 then rcBytes y.h else [])) ++ rcBytes y.c) ++ be64 y.color) := by
        rw [hft, hX9, hX]
        unfold itmBytes
        simp only [List.append_assoc, List.cons_append, List.nil_append]
      rw [e]
      exact B18
    · simp only [guard_undef, List.contains_cons, List.contains_nil, Nat.reduceBEq, Int.cast_ofNat_Int, and_self, k_pend_g, pendV, go_sem, i64_wrap_id, Int.reduceAdd, Int.reduceSub, Int.reduceNeg, Int.reduceMul, Nat.reduceSub, Nat.reduceEqDiff, Nat.reduceAdd, Nat.reduceMul, Nat.reduceLeDiff, ↓reduceIte, reduceCtorEq, Int.reduceToNat, Int.reduceLT, Int.reduceLE, Int.reduceEq, h6, h1]
      simp [RowKit.intOf]
      omega

theorem Itm.cells_inj {x y : Itm} (h : x.cells = y.cells) : x = y := by
  obtain ⟨a, b, ⟨c1, c2, c3, c4⟩, ⟨d1, d2, d3, d4⟩, ⟨e1, e2, e3, e4⟩, f⟩ := x
  obtain ⟨a', b', ⟨c1', c2', c3', c4'⟩, ⟨d1', d2', d3', d4'⟩, ⟨e1', e2', e3', e4'⟩, f'⟩ := y
  simp only [Itm.cells, List.cons.injEq, Value.int.injEq, true_and, and_true] at h
  simp [h]
def itmSh : List Cel := List.replicate 15 (.int .i64)
theorem Itm.flat {x : Itm} (h : x.Ok) : FlatOk itmSh x.cells :=
  ⟨⟨_, rfl, wfI h.node⟩, ⟨_, rfl, wfI h.kind⟩, ⟨_, rfl, wfI h.r.a⟩, ⟨_, rfl, wfI h.r.b⟩, ⟨_, rfl, wfI h.r.c⟩, ⟨_, rfl, wfI h.r.d⟩, ⟨_, rfl, wfI h.h.a⟩, ⟨_, rfl, wfI h.h.b⟩, ⟨_, rfl, wfI h.h.c⟩, ⟨_, rfl, wfI h.h.d⟩,
    ⟨_, rfl, wfI h.c.a⟩, ⟨_, rfl, wfI h.c.b⟩, ⟨_, rfl, wfI h.c.c⟩, ⟨_, rfl, wfI h.c.d⟩, ⟨_, rfl, wfI h.color⟩, trivial⟩
theorem itm_eq {x y : Itm} (hx : x.Ok) (hy : y.Ok) : ∃ r, flatEq [true, true, true, true, true, true, true, true, true, true, true, true, true, true, true] x.cells y.cells = some r ∧ (r = true ↔ x = y) := by
  obtain ⟨r, h1, h2⟩ := flatEq_flat (Itm.flat hx) (Itm.flat hy)
  exact ⟨r, h1, h2.trans ⟨Itm.cells_inj, fun e => by rw [e]⟩⟩

theorem same48 (x y : Value) (l l' : List Itm) (S : St) (hx : Is S x l) (hy : Is S y l') (hn : l.length ≤ 1000000000) (hn' : l'.length ≤ 1000000000) (hl : ∀ z ∈ l, z.Ok) (hl' : ∀ z ∈ l', z.Ok) :
    ACalls Try.prog 48 [x, y] S (BoolIs (l = l') S) := by
  refine ACalls.run hmix Try.func48 cN48 kN48 rfl fun hL Q hQ => ?_
  obtain ⟨a, e, rfl⟩ := hx.slice
  obtain ⟨a', e', rfl⟩ := hy.slice
  by_cases hll : (l.length : Int) = l'.length
  rotate_left
  · have hne : ((l.length : Int) != l'.length) = true := by simpa using hll
    simp only [guard_undef, List.contains_cons, List.contains_nil, Nat.reduceBEq, Int.cast_ofNat_Int, and_self, k_pend_g, pendV, go_sem, i64_wrap_id, Int.reduceAdd, Int.reduceSub, Int.reduceNeg, Int.reduceMul, Nat.reduceSub, Nat.reduceEqDiff, Nat.reduceAdd, Nat.reduceMul, Nat.reduceLeDiff, ↓reduceIte, reduceCtorEq, Int.reduceToNat, Int.reduceLT, Int.reduceLE, Int.reduceEq, aN48, hne]
    refine hQ _ _ _ ?_; (first | rw [k_body_ret] | rw [k_body_normal]); simp only [resVals, resVal, ev, Env.get_put, ↓reduceIte, Nat.reduceEqDiff, Option.bind_some, Option.map_some, reduceCtorEq, ldv_true, ldv_false, lloadV_agg, partL, List.toList_toArray, cellsOf_set, cellsOf_new, rd_set, rd_new, List.length_cons, List.length_nil, Nat.reduceAdd, Nat.reduceLeDiff, Nat.le_refl, List.take_succ_cons, List.take_zero, List.drop_zero, Nat.add_eq_left, Nat.left_eq_add, List.getElem?_cons_zero, List.getElem?_cons_succ, aN48]; rw [retQ_some]; simp only [oneOr]
    exact ⟨rfl, false, rfl, by simp; intro e; apply hll; rw [e]⟩
  have hln : l.length = l'.length := by omega
  simp only [guard_undef, List.contains_cons, List.contains_nil, Nat.reduceBEq, Int.cast_ofNat_Int, and_self, k_pend_g, pendV, go_sem, i64_wrap_id, Int.reduceAdd, Int.reduceSub, Int.reduceNeg, Int.reduceMul, Nat.reduceSub, Nat.reduceEqDiff, Nat.reduceAdd, Nat.reduceMul, Nat.reduceLeDiff, ↓reduceIte, reduceCtorEq, Int.reduceToNat, Int.reduceLT, Int.reduceLE, Int.reduceEq, aN48, hll]
  refine lK_of (fun t' S' => S' = S ∧ ∃ j : Nat, j ≤ l.length ∧ Slots t' [(0, .slice a l.length e), (1, .slice a' l'.length e'), (12, .int .i64 l'.length), (13, .int .i64 j)] ∧ ∀ (k : Nat) (h1 : k < l.length) (h2 : k < l'.length), k < j → l[k] = l'[k]) (fun t' _ => (l.length - RowKit.intOf (t' 13)).toNat) ?_ ?_
  · refine ⟨rfl, 0, by omega, ?_, fun k _ _ hk => by omega⟩
    simp only [guard_undef, List.contains_cons, List.contains_nil, Nat.reduceBEq, Int.cast_ofNat_Int, and_self, k_pend_g, pendV, go_sem, i64_wrap_id, Int.reduceAdd, Int.reduceSub, Int.reduceNeg, Int.reduceMul, Nat.reduceSub, Nat.reduceEqDiff, Nat.reduceAdd, Nat.reduceMul, Nat.reduceLeDiff, ↓reduceIte, reduceCtorEq, Int.reduceToNat, Int.reduceLT, Int.reduceLE, Int.reduceEq, slots_cons, slots_nil, Int.natCast_add, Int.natCast_succ, Int.cast_ofNat_Int, hll]
  rintro t1 S1 Q1 ⟨rfl, j, hj, h1, hr⟩ _ hN hE
  simp only [slots_cons, slots_nil] at h1
  by_cases hjn : j = l.length
  · have hnl : ¬ ((j : Int) < l'.length) := by omega
    simp only [guard_undef, List.contains_cons, List.contains_nil, Nat.reduceBEq, Int.cast_ofNat_Int, and_self, k_pend_g, pendV, go_sem, i64_wrap_id, Int.reduceAdd, Int.reduceSub, Int.reduceNeg, Int.reduceMul, Nat.reduceSub, Nat.reduceEqDiff, Nat.reduceAdd, Nat.reduceMul, Nat.reduceLeDiff, ↓reduceIte, reduceCtorEq, Int.reduceToNat, Int.reduceLT, Int.reduceLE, Int.reduceEq, h1, hnl]
    refine hE _ _ _ (by simp) ?_
    simp only [guard_undef, List.contains_cons, List.contains_nil, Nat.reduceBEq, Int.cast_ofNat_Int, and_self, k_pend_g, pendV, go_sem, i64_wrap_id, Int.reduceAdd, Int.reduceSub, Int.reduceNeg, Int.reduceMul, Nat.reduceSub, Nat.reduceEqDiff, Nat.reduceAdd, Nat.reduceMul, Nat.reduceLeDiff, ↓reduceIte, reduceCtorEq, Int.reduceToNat, Int.reduceLT, Int.reduceLE, Int.reduceEq, h1]
    refine hQ _ _ _ ?_; (first | rw [k_body_ret] | rw [k_body_normal]); simp only [resVals, resVal, ev, Env.get_put, ↓reduceIte, Nat.reduceEqDiff, Option.bind_some, Option.map_some, reduceCtorEq, ldv_true, ldv_false, lloadV_agg, partL, List.toList_toArray, cellsOf_set, cellsOf_new, rd_set, rd_new, List.length_cons, List.length_nil, Nat.reduceAdd, Nat.reduceLeDiff, Nat.le_refl, List.take_succ_cons, List.take_zero, List.drop_zero, Nat.add_eq_left, Nat.left_eq_add, List.getElem?_cons_zero, List.getElem?_cons_succ, aN48, h1]; rw [retQ_some]; simp only [oneOr]
    refine ⟨rfl, true, rfl, by simp; exact List.ext_getElem hln fun k h1 h2 => hr k h1 h2 (by omega)⟩
  have hjl : j < l.length := by omega
  have hjl' : j < l'.length := by omega
  obtain ⟨d, o, f, hv, he, hc⟩ := hx.ne (by omega)
  cases hv
  obtain ⟨d', o', f', hv', he', hc'⟩ := hy.ne (by omega)
  cases hv'
  have hlt : (j : Int) < l.length := by omega
  have hlt' : (j : Int) < l'.length := by omega
  have hj0 : (0 : Int) ≤ j := by omega
  have hj1 : IntKind.i64.wrap ((j : Int) + 1) = j + 1 := wrap64_id (by omega) (by omega)
  have hcj := items_at hc j hjl
  have hcj' := items_at hc' j hjl'
  obtain ⟨q, hq, hqe⟩ := itm_eq (hl _ (List.getElem_mem hjl)) (hl' _ (List.getElem_mem hjl'))
  cases q
  · simp only [guard_undef, List.contains_cons, List.contains_nil, Nat.reduceBEq, Int.cast_ofNat_Int, and_self, k_pend_g, pendV, go_sem, i64_wrap_id, Int.reduceAdd, Int.reduceSub, Int.reduceNeg, Int.reduceMul, Nat.reduceSub, Nat.reduceEqDiff, Nat.reduceAdd, Nat.reduceMul, Nat.reduceLeDiff, ↓reduceIte, reduceCtorEq, Int.reduceToNat, Int.reduceLT, Int.reduceLE, Int.reduceEq, h1, hlt, hlt', hj0, Int.toNat_natCast, hcj, hcj', hq]
    refine hE _ _ _ (by simp) ?_
    simp only [guard_undef, List.contains_cons, List.contains_nil, Nat.reduceBEq, Int.cast_ofNat_Int, and_self, k_pend_g, pendV, go_sem, i64_wrap_id, Int.reduceAdd, Int.reduceSub, Int.reduceNeg, Int.reduceMul, Nat.reduceSub, Nat.reduceEqDiff, Nat.reduceAdd, Nat.reduceMul, Nat.reduceLeDiff, ↓reduceIte, reduceCtorEq, Int.reduceToNat, Int.reduceLT, Int.reduceLE, Int.reduceEq]
    refine hQ _ _ _ ?_; (first | rw [k_body_ret] | rw [k_body_normal]); simp only [resVals, resVal, ev, Env.get_put, ↓reduceIte, Nat.reduceEqDiff, Option.bind_some, Option.map_some, reduceCtorEq, ldv_true, ldv_false, lloadV_agg, partL, List.toList_toArray, cellsOf_set, cellsOf_new, rd_set, rd_new, List.length_cons, List.length_nil, Nat.reduceAdd, Nat.reduceLeDiff, Nat.le_refl, List.take_succ_cons, List.take_zero, List.drop_zero, Nat.add_eq_left, Nat.left_eq_add, List.getElem?_cons_zero, List.getElem?_cons_succ, aN48, h1]; rw [retQ_some]; simp only [oneOr]
    refine ⟨rfl, false, rfl, by simp; intro e; have := hqe.2 (by simp only [e]); cases this⟩
  · simp only [guard_undef, List.contains_cons, List.contains_nil, Nat.reduceBEq, Int.cast_ofNat_Int, and_self, k_pend_g, pendV, go_sem, i64_wrap_id, Int.reduceAdd, Int.reduceSub, Int.reduceNeg, Int.reduceMul, Nat.reduceSub, Nat.reduceEqDiff, Nat.reduceAdd, Nat.reduceMul, Nat.reduceLeDiff, ↓reduceIte, reduceCtorEq, Int.reduceToNat, Int.reduceLT, Int.reduceLE, Int.reduceEq, h1, hlt, hlt', hj0, Int.toNat_natCast, hcj, hcj', hq, hj1]
    refine hN _ _ ⟨rfl, j + 1, by omega, ?_, fun k g1 g2 hk => ?_⟩ ?_
    · simp only [guard_undef, List.contains_cons, List.contains_nil, Nat.reduceBEq, Int.cast_ofNat_Int, and_self, k_pend_g, pendV, go_sem, i64_wrap_id, Int.reduceAdd, Int.reduceSub, Int.reduceNeg, Int.reduceMul, Nat.reduceSub, Nat.reduceEqDiff, Nat.reduceAdd, Nat.reduceMul, Nat.reduceLeDiff, ↓reduceIte, reduceCtorEq, Int.reduceToNat, Int.reduceLT, Int.reduceLE, Int.reduceEq, slots_cons, slots_nil, Int.natCast_add, Int.natCast_succ, Int.cast_ofNat_Int, h1]
    · by_cases hkj : k = j
      · subst hkj; exact hqe.1 rfl
      · exact hr k g1 g2 (by omega)
    · simp only [guard_undef, List.contains_cons, List.contains_nil, Nat.reduceBEq, Int.cast_ofNat_Int, and_self, k_pend_g, pendV, go_sem, i64_wrap_id, Int.reduceAdd, Int.reduceSub, Int.reduceNeg, Int.reduceMul, Nat.reduceSub, Nat.reduceEqDiff, Nat.reduceAdd, Nat.reduceMul, Nat.reduceLeDiff, ↓reduceIte, reduceCtorEq, Int.reduceToNat, Int.reduceLT, Int.reduceLE, Int.reduceEq, h1]
      simp [RowKit.intOf]
      omega

def oneI : Itm := ⟨0, 0, zeroR, zeroR, zeroR, 1⟩
theorem right_one : RightP oneI := ⟨⟨by simp [oneI], by simp [oneI], by simp [oneI], by simp [oneI]⟩, ⟨by simp [oneI, zeroR, Rc.Fit, fitI], by simp [oneI, zeroR, Rc.Fit, fitI], by simp [oneI, zeroR, Rc.Fit, fitI]⟩, .inr ⟨rfl, rfl⟩⟩
theorem awake42 (S : St) : ACalls Try.prog 42 [] S fun r S' => r = .bool true ∧ KeepsAll S S' := by
  refine ACalls.run hmix Try.func42 cN42 kN42 rfl fun hL Q hQ => ?_
  simp only [guard_undef, List.contains_cons, List.contains_nil, Nat.reduceBEq, Int.cast_ofNat_Int, and_self, k_pend_g, pendV, go_sem, i64_wrap_id, Int.reduceAdd, Int.reduceSub, Int.reduceNeg, Int.reduceMul, Nat.reduceSub, Nat.reduceEqDiff, Nat.reduceAdd, Nat.reduceMul, Nat.reduceLeDiff, ↓reduceIte, reduceCtorEq, Int.reduceToNat, Int.reduceLT, Int.reduceLE, Int.reduceEq, aN42]
  refine cK_of (encode45 (.slice none 0 0) [] S (.inl ⟨rfl, rfl, rfl⟩) (by simp)) ?_
  rintro r S1 hS1 hL1 ⟨hK, h1, _⟩
  obtain ⟨v, rfl, hO, hF⟩ := h1 (by simp)
  obtain ⟨a, e, rfl⟩ := hO.sl.slice
  have hl : (itemsBytes []).length = 4 := by simp [itemsBytes, flatB, be_length]
  simp only [guard_undef, List.contains_cons, List.contains_nil, Nat.reduceBEq, Int.cast_ofNat_Int, and_self, k_pend_g, pendV, go_sem, i64_wrap_id, Int.reduceAdd, Int.reduceSub, Int.reduceNeg, Int.reduceMul, Nat.reduceSub, Nat.reduceEqDiff, Nat.reduceAdd, Nat.reduceMul, Nat.reduceLeDiff, ↓reduceIte, reduceCtorEq, Int.reduceToNat, Int.reduceLT, Int.reduceLE, Int.reduceEq, hl]
  have hr := right44 oneI S1
  unfold oneI Itm.cells zeroR at hr
  refine cK_of hr ?_
  rintro v S2 hS2 hL2 ⟨rfl, c, rfl, hc⟩
  have : c = true := hc.2 right_one
  subst this
  simp only [guard_undef, List.contains_cons, List.contains_nil, Nat.reduceBEq, Int.cast_ofNat_Int, and_self, k_pend_g, pendV, go_sem, i64_wrap_id, Int.reduceAdd, Int.reduceSub, Int.reduceNeg, Int.reduceMul, Nat.reduceSub, Nat.reduceEqDiff, Nat.reduceAdd, Nat.reduceMul, Nat.reduceLeDiff, ↓reduceIte, reduceCtorEq, Int.reduceToNat, Int.reduceLT, Int.reduceLE, Int.reduceEq]
  refine hQ _ _ _ ?_; (first | rw [k_body_ret] | rw [k_body_normal]); simp only [resVals, resVal, ev, Env.get_put, ↓reduceIte, Nat.reduceEqDiff, Option.bind_some, Option.map_some, reduceCtorEq, ldv_true, ldv_false, lloadV_agg, partL, List.toList_toArray, cellsOf_set, cellsOf_new, rd_set, rd_new, List.length_cons, List.length_nil, Nat.reduceAdd, Nat.reduceLeDiff, Nat.le_refl, List.take_succ_cons, List.take_zero, List.drop_zero, Nat.add_eq_left, Nat.left_eq_add, List.getElem?_cons_zero, List.getElem?_cons_succ, aN42]; rw [retQ_some]; simp only [oneOr]
  exact ⟨trivial, hK⟩
end Go.Proofs.Ytbgnaeagdneikaa
