/- The document's answer, read anew: how a number is taken. -/
import Derived.Test.YtbgnaeagdneikaaCoreAm
import Derived.Test.YtbgnaeagdneikaaYB
import Derived.Test.YtbgnaeagdneikaaSeatKKN
-- pp: new
namespace Go.Proofs.Ytbgnaeagdneikaa
open Go Go.Proofs.Ytbgnaeagdneikaa.Abs
set_option linter.unusedSimpArgs false
set_option linter.unusedVariables false

/-- Bytes within what another slice reads. -/
def InSl (x' x : Value) : Prop := ∀ d, Value.blkOf x' = some d → Value.blkOf x = some d

theorem refTakeN (x : Value) (xs : List Int) (bad : Bool) (n : Nat) (S : St) (h : Bs S x xs) (hx : Byt xs) (hn1 : 1 ≤ n) (hn : n ≤ 8) :
    ACalls Try.prog 35 [.agg #[x, .bool bad], .int .i64 n] S fun r S' => S' = S ∧ ∃ x', r = .tuple #[.int .u64 (takeN n xs bad).1, .agg #[x', .bool (takeN n xs bad).2.2]] ∧ Bs S x' (takeN n xs bad).2.1 ∧ InSl x' x := by
  refine ACalls.run hmix Try.func35 cN35 kN35 rfl fun hL Q hQ => ?_
  obtain ⟨a, e, hxv⟩ := h.slice
  by_cases hb : bad = true ∨ xs.length < n
  · have ht : takeN n xs bad = (0, [], true) := by simp [takeN, hb]
    rw [ht] at hQ
    cases bad with
    | true =>
      simp only [guard_undef, List.contains_cons, List.contains_nil, Nat.reduceBEq, Int.cast_ofNat_Int, and_self, k_pend_g, pendV, go_sem, i64_wrap_id, Int.reduceAdd, Int.reduceSub, Int.reduceNeg, Int.reduceMul, Nat.reduceSub, Nat.reduceEqDiff, Nat.reduceAdd, Nat.reduceMul, Nat.reduceLeDiff, ↓reduceIte, reduceCtorEq, Int.reduceToNat, Int.reduceLT, Int.reduceLE, Int.reduceEq, aN35, hxv]
      refine hQ _ _ _ ?_; (first | rw [k_body_ret] | rw [k_body_normal]); simp only [resVals, resVal, ev, Env.get_put, ↓reduceIte, Nat.reduceEqDiff, Option.bind_some, Option.map_some, reduceCtorEq, ldv_true, ldv_false, lloadV_agg, partL, List.toList_toArray, cellsOf_set, cellsOf_new, rd_set, rd_new, List.length_cons, List.length_nil, Nat.reduceAdd, Nat.reduceLeDiff, Nat.le_refl, List.take_succ_cons, List.take_zero, List.drop_zero, Nat.add_eq_left, Nat.left_eq_add, List.getElem?_cons_zero, List.getElem?_cons_succ, aN35]; rw [retQ_some]; simp only [oneOr]
      exact ⟨trivial, _, rfl, .inl ⟨rfl, rfl, rfl⟩, fun d hd => by simp [Value.blkOf] at hd⟩
    | false =>
      have hl : (xs.length : Int) < n := by rcases hb with hb | hb; cases hb; omega
      simp only [guard_undef, List.contains_cons, List.contains_nil, Nat.reduceBEq, Int.cast_ofNat_Int, and_self, k_pend_g, pendV, go_sem, i64_wrap_id, Int.reduceAdd, Int.reduceSub, Int.reduceNeg, Int.reduceMul, Nat.reduceSub, Nat.reduceEqDiff, Nat.reduceAdd, Nat.reduceMul, Nat.reduceLeDiff, ↓reduceIte, reduceCtorEq, Int.reduceToNat, Int.reduceLT, Int.reduceLE, Int.reduceEq, aN35, hxv, hl]
      refine hQ _ _ _ ?_; (first | rw [k_body_ret] | rw [k_body_normal]); simp only [resVals, resVal, ev, Env.get_put, ↓reduceIte, Nat.reduceEqDiff, Option.bind_some, Option.map_some, reduceCtorEq, ldv_true, ldv_false, lloadV_agg, partL, List.toList_toArray, cellsOf_set, cellsOf_new, rd_set, rd_new, List.length_cons, List.length_nil, Nat.reduceAdd, Nat.reduceLeDiff, Nat.le_refl, List.take_succ_cons, List.take_zero, List.drop_zero, Nat.add_eq_left, Nat.left_eq_add, List.getElem?_cons_zero, List.getElem?_cons_succ, aN35]; rw [retQ_some]; simp only [oneOr]
      exact ⟨trivial, _, rfl, .inl ⟨rfl, rfl, rfl⟩, fun d hd => by simp [Value.blkOf] at hd⟩
  · have ht : takeN n xs bad = (num (xs.take n), xs.drop n, false) := by simp only [takeN, if_neg hb]
    rw [ht] at hQ
    simp only [not_or, Bool.not_eq_true, Nat.not_lt] at hb
    obtain ⟨rfl, hl⟩ := hb
    have hl' : ¬ ((xs.length : Int) < n) := by omega
    rcases h with ⟨rfl, h0, hcs⟩ | ⟨d, o, e, rfl, he, hc⟩
    · omega
    · have hd : d < S.next := by
        obtain ⟨b, hb, _⟩ := cellsOf_some hc
        exact hL _ _ hb
      simp only [guard_undef, List.contains_cons, List.contains_nil, Nat.reduceBEq, Int.cast_ofNat_Int, and_self, k_pend_g, pendV, go_sem, i64_wrap_id, Int.reduceAdd, Int.reduceSub, Int.reduceNeg, Int.reduceMul, Nat.reduceSub, Nat.reduceEqDiff, Nat.reduceAdd, Nat.reduceMul, Nat.reduceLeDiff, ↓reduceIte, reduceCtorEq, Int.reduceToNat, Int.reduceLT, Int.reduceLE, Int.reduceEq, aN35, hl']
      refine lK_of (fun t' S' => S' = S ∧ ∃ k : Nat, k ≤ n ∧ Slots t' [(1, .int .i64 n), (2, .agg #[.slice (some ⟨d, o, none⟩) xs.length e, .bool false]), (5, .agg #[.slice none 0 0, .bool false]), (18, .int .i64 n), (19, .int .i64 k), (6, .int .u64 (num (xs.take k)))])
        (fun t' _ => (n - RowKit.intOf (t' 19)).toNat) ?_ ?_
      · refine ⟨rfl, 0, by omega, ?_⟩
        simp only [guard_undef, List.contains_cons, List.contains_nil, Nat.reduceBEq, Int.cast_ofNat_Int, and_self, k_pend_g, pendV, go_sem, i64_wrap_id, Int.reduceAdd, Int.reduceSub, Int.reduceNeg, Int.reduceMul, Nat.reduceSub, Nat.reduceEqDiff, Nat.reduceAdd, Nat.reduceMul, Nat.reduceLeDiff, ↓reduceIte, reduceCtorEq, Int.reduceToNat, Int.reduceLT, Int.reduceLE, Int.reduceEq, slots_cons, slots_nil, Int.natCast_add, Int.natCast_succ, Int.cast_ofNat_Int]
        simp [num]
      · rintro t1 S1 Q1 ⟨rfl, k, hk, hs⟩ hL1 hN hE
        simp only [slots_cons, slots_nil] at hs
        by_cases hkn : k = n
        · subst hkn
          have : ¬ ((k : Int) < k) := by omega
          simp only [guard_undef, List.contains_cons, List.contains_nil, Nat.reduceBEq, Int.cast_ofNat_Int, and_self, k_pend_g, pendV, go_sem, i64_wrap_id, Int.reduceAdd, Int.reduceSub, Int.reduceNeg, Int.reduceMul, Nat.reduceSub, Nat.reduceEqDiff, Nat.reduceAdd, Nat.reduceMul, Nat.reduceLeDiff, ↓reduceIte, reduceCtorEq, Int.reduceToNat, Int.reduceLT, Int.reduceLE, Int.reduceEq, hs, this]
          refine hE _ _ _ (by simp) ?_
          have hbd : (0 : Int) ≤ k := by omega
          simp only [guard_undef, List.contains_cons, List.contains_nil, Nat.reduceBEq, Int.cast_ofNat_Int, and_self, k_pend_g, pendV, go_sem, i64_wrap_id, Int.reduceAdd, Int.reduceSub, Int.reduceNeg, Int.reduceMul, Nat.reduceSub, Nat.reduceEqDiff, Nat.reduceAdd, Nat.reduceMul, Nat.reduceLeDiff, ↓reduceIte, reduceCtorEq, Int.reduceToNat, Int.reduceLT, Int.reduceLE, Int.reduceEq, hs, hbd, Int.toNat_natCast, hl, he, Nat.mul_one]
          refine hQ _ _ _ ?_; (first | rw [k_body_ret] | rw [k_body_normal]); simp only [resVals, resVal, ev, Env.get_put, ↓reduceIte, Nat.reduceEqDiff, Option.bind_some, Option.map_some, reduceCtorEq, ldv_true, ldv_false, lloadV_agg, partL, List.toList_toArray, cellsOf_set, cellsOf_new, rd_set, rd_new, List.length_cons, List.length_nil, Nat.reduceAdd, Nat.reduceLeDiff, Nat.le_refl, List.take_succ_cons, List.take_zero, List.drop_zero, Nat.add_eq_left, Nat.left_eq_add, List.getElem?_cons_zero, List.getElem?_cons_succ, aN35, hs]; rw [retQ_some]; simp only [oneOr]
          refine ⟨trivial, _, rfl, .inr ⟨d, o + k, e, by simp, he, ?_⟩, fun d hd => by simpa [Value.blkOf] using hd⟩
          rw [List.length_drop]
          have := cellsOf_of_cells hc (j := k) (n := xs.length - k) (by omega)
          simp only [Nat.mul_one]
          rw [this]
          simp [bytesV]
          rw [List.take_of_length_le (by simp)]
        · have hlt : ((k : Int) < n) := by omega
          have hcell : rd S1 d (o + k) = some (.int .u8 xs[k]) := by
            rw [rd_of_cells hc (by omega), bytesV_get, List.getElem?_eq_getElem (by omega)]
            rfl
          have hxk := hx xs[k] (List.getElem_mem _)
          have hnk := num_bound xs hx k (by omega)
          have h7 := num_lt7 xs hx k (by omega) (by omega)
          have hk0 : (0 : Int) ≤ k := by omega
          have hk1 : IntKind.i64.wrap ((k : Int) + 1) = k + 1 := wrap64_id (by omega) (by omega)
          have hkl : (k : Int) < xs.length := by omega
          have hw1 : IntKind.u64.wrap (num (xs.take k) * 256) = num (xs.take k) * 256 := by rw [wrap64u]; omega
          have hw2 : IntKind.u64.wrap (num (xs.take k) * 256 + xs[k]) = num (xs.take k) * 256 + xs[k] := by rw [wrap64u]; omega
          simp only [guard_undef, List.contains_cons, List.contains_nil, Nat.reduceBEq, Int.cast_ofNat_Int, and_self, k_pend_g, pendV, go_sem, i64_wrap_id, Int.reduceAdd, Int.reduceSub, Int.reduceNeg, Int.reduceMul, Nat.reduceSub, Nat.reduceEqDiff, Nat.reduceAdd, Nat.reduceMul, Nat.reduceLeDiff, ↓reduceIte, reduceCtorEq, Int.reduceToNat, Int.reduceLT, Int.reduceLE, Int.reduceEq, hs, hlt, hkl, hk0, Int.toNat_natCast, Nat.mul_one, hcell, conv64 hxk.1 hxk.2, hk1, hw1, hw2]
          refine hN _ _ ⟨rfl, k + 1, by omega, ?_⟩ ?_
          · simp only [guard_undef, List.contains_cons, List.contains_nil, Nat.reduceBEq, Int.cast_ofNat_Int, and_self, k_pend_g, pendV, go_sem, i64_wrap_id, Int.reduceAdd, Int.reduceSub, Int.reduceNeg, Int.reduceMul, Nat.reduceSub, Nat.reduceEqDiff, Nat.reduceAdd, Nat.reduceMul, Nat.reduceLeDiff, ↓reduceIte, reduceCtorEq, Int.reduceToNat, Int.reduceLT, Int.reduceLE, Int.reduceEq, slots_cons, slots_nil, Int.natCast_add, Int.natCast_succ, Int.cast_ofNat_Int, hs]
            rw [num_take_succ xs k (by omega)]
          · simp only [guard_undef, List.contains_cons, List.contains_nil, Nat.reduceBEq, Int.cast_ofNat_Int, and_self, k_pend_g, pendV, go_sem, i64_wrap_id, Int.reduceAdd, Int.reduceSub, Int.reduceNeg, Int.reduceMul, Nat.reduceSub, Nat.reduceEqDiff, Nat.reduceAdd, Nat.reduceMul, Nat.reduceLeDiff, ↓reduceIte, reduceCtorEq, Int.reduceToNat, Int.reduceLT, Int.reduceLE, Int.reduceEq, hs, RowKit.intOf]
            omega

theorem InSl.refl (x : Value) : InSl x x := fun _ h => h
theorem InSl.trans {x y z : Value} (h : InSl x y) (k : InSl y z) : InSl x z := fun d hd => k d (h d hd)

theorem refEightN (x : Value) (xs : List Int) (bad : Bool) (S : St) (h : Bs S x xs) (hx : Byt xs) :
    ACalls Try.prog 74 [.agg #[x, .bool bad]] S fun r S' => S' = S ∧ ∃ x', r = .tuple #[.int .i64 (pEight (xs, bad)).1, .agg #[x', .bool (pEight (xs, bad)).2.2]] ∧ Bs S x' (pEight (xs, bad)).2.1 ∧ InSl x' x := by
  refine ACalls.run hmix Try.func74 cN74 kN74 rfl fun hL Q hQ => ?_
  simp only [guard_undef, List.contains_cons, List.contains_nil, Nat.reduceBEq, Int.cast_ofNat_Int, and_self, k_pend_g, pendV, go_sem, i64_wrap_id, Int.reduceAdd, Int.reduceSub, Int.reduceNeg, Int.reduceMul, Nat.reduceSub, Nat.reduceEqDiff, Nat.reduceAdd, Nat.reduceMul, Nat.reduceLeDiff, ↓reduceIte, reduceCtorEq, Int.reduceToNat, Int.reduceLT, Int.reduceLE, Int.reduceEq, aN74]
  refine cK_of (refTakeN x xs bad 8 S h hx (by omega) (by omega)) ?_
  rintro r S' hS hL' ⟨rfl, x', rfl, h2, h3⟩
  simp only [guard_undef, List.contains_cons, List.contains_nil, Nat.reduceBEq, Int.cast_ofNat_Int, and_self, k_pend_g, pendV, go_sem, i64_wrap_id, Int.reduceAdd, Int.reduceSub, Int.reduceNeg, Int.reduceMul, Nat.reduceSub, Nat.reduceEqDiff, Nat.reduceAdd, Nat.reduceMul, Nat.reduceLeDiff, ↓reduceIte, reduceCtorEq, Int.reduceToNat, Int.reduceLT, Int.reduceLE, Int.reduceEq]
  refine hQ _ _ _ ?_; (first | rw [k_body_ret] | rw [k_body_normal]); simp only [resVals, resVal, ev, Env.get_put, ↓reduceIte, Nat.reduceEqDiff, Option.bind_some, Option.map_some, reduceCtorEq, ldv_true, ldv_false, lloadV_agg, partL, List.toList_toArray, cellsOf_set, cellsOf_new, rd_set, rd_new, List.length_cons, List.length_nil, Nat.reduceAdd, Nat.reduceLeDiff, Nat.le_refl, List.take_succ_cons, List.take_zero, List.drop_zero, Nat.add_eq_left, Nat.left_eq_add, List.getElem?_cons_zero, List.getElem?_cons_succ, aN74]; rw [retQ_some]; simp only [oneOr]
  exact ⟨trivial, x', rfl, h2, h3⟩

theorem lengthN (x : Value) (t : Pst) (S : St) (h : Bs S x t.1) (hx : Byt t.1) :
    ACalls Try.prog 73 [.agg #[x, .bool t.2]] S fun r S' => S' = S ∧ ∃ x', r = .tuple #[.agg #[.int .i64 (pLen t).1.1, .int .i64 (pLen t).1.2], .agg #[x', .bool (pLen t).2.2]] ∧ Bs S x' (pLen t).2.1 ∧ InSl x' x := by
  obtain ⟨xs, bad⟩ := t
  refine ACalls.run hmix Try.func73 cN73 kN73 rfl fun hL Q hQ => ?_
  simp only [guard_undef, List.contains_cons, List.contains_nil, Nat.reduceBEq, Int.cast_ofNat_Int, and_self, k_pend_g, pendV, go_sem, i64_wrap_id, Int.reduceAdd, Int.reduceSub, Int.reduceNeg, Int.reduceMul, Nat.reduceSub, Nat.reduceEqDiff, Nat.reduceAdd, Nat.reduceMul, Nat.reduceLeDiff, ↓reduceIte, reduceCtorEq, Int.reduceToNat, Int.reduceLT, Int.reduceLE, Int.reduceEq, aN73]
  refine cK_of (refTakeN x xs bad 1 S h hx (by omega) (by omega)) ?_
  rintro r S' hS hL' ⟨rfl, x1, rfl, h2, h3⟩
  obtain ⟨k, hk⟩ : ∃ k, k = (takeN 1 xs bad).1 := ⟨_, rfl⟩
  have hk8 := takeN_bound (n := 1) (bad := bad) hx
  rw [← hk] at hk8 ⊢
  have hkw : IntKind.i64.wrap k = k := wrap64_id (by omega) (by omega)
  simp only [guard_undef, List.contains_cons, List.contains_nil, Nat.reduceBEq, Int.cast_ofNat_Int, and_self, k_pend_g, pendV, go_sem, i64_wrap_id, Int.reduceAdd, Int.reduceSub, Int.reduceNeg, Int.reduceMul, Nat.reduceSub, Nat.reduceEqDiff, Nat.reduceAdd, Nat.reduceMul, Nat.reduceLeDiff, ↓reduceIte, reduceCtorEq, Int.reduceToNat, Int.reduceLT, Int.reduceLE, Int.reduceEq, hkw]
  refine iK_split (fun hc => ?_) (fun hc => ?_)
  · have hk0 : ¬ k = 0 := by simpa using hc
    have hp : pLen (xs, bad) = ((k, (pEight (takeN 1 xs bad).2).1), (pEight (takeN 1 xs bad).2).2) := by
      unfold pLen pByte
      rw [← hk, if_neg hk0]
    rw [hp] at hQ
    simp only [guard_undef, List.contains_cons, List.contains_nil, Nat.reduceBEq, Int.cast_ofNat_Int, and_self, k_pend_g, pendV, go_sem, i64_wrap_id, Int.reduceAdd, Int.reduceSub, Int.reduceNeg, Int.reduceMul, Nat.reduceSub, Nat.reduceEqDiff, Nat.reduceAdd, Nat.reduceMul, Nat.reduceLeDiff, ↓reduceIte, reduceCtorEq, Int.reduceToNat, Int.reduceLT, Int.reduceLE, Int.reduceEq]
    refine cK_of (refEightN x1 _ _ _ h2 (takeN_byt (t := (xs, bad)) hx)) ?_
    rintro r S' hS hL' ⟨rfl, x2, rfl, h4, h5⟩
    simp only [guard_undef, List.contains_cons, List.contains_nil, Nat.reduceBEq, Int.cast_ofNat_Int, and_self, k_pend_g, pendV, go_sem, i64_wrap_id, Int.reduceAdd, Int.reduceSub, Int.reduceNeg, Int.reduceMul, Nat.reduceSub, Nat.reduceEqDiff, Nat.reduceAdd, Nat.reduceMul, Nat.reduceLeDiff, ↓reduceIte, reduceCtorEq, Int.reduceToNat, Int.reduceLT, Int.reduceLE, Int.reduceEq]
    refine hQ _ _ _ ?_; (first | rw [k_body_ret] | rw [k_body_normal]); simp only [resVals, resVal, ev, Env.get_put, ↓reduceIte, Nat.reduceEqDiff, Option.bind_some, Option.map_some, reduceCtorEq, ldv_true, ldv_false, lloadV_agg, partL, List.toList_toArray, cellsOf_set, cellsOf_new, rd_set, rd_new, List.length_cons, List.length_nil, Nat.reduceAdd, Nat.reduceLeDiff, Nat.le_refl, List.take_succ_cons, List.take_zero, List.drop_zero, Nat.add_eq_left, Nat.left_eq_add, List.getElem?_cons_zero, List.getElem?_cons_succ, aN73]; rw [retQ_some]; simp only [oneOr]
    exact ⟨trivial, x2, rfl, h4, h5.trans h3⟩
  · have hk0 : k = 0 := by simpa using hc
    have hp : pLen (xs, bad) = ((0, 0), (takeN 1 xs bad).2) := by
      unfold pLen pByte
      rw [← hk, if_pos hk0]
    rw [hp] at hQ
    subst hk0
    simp only [guard_undef, List.contains_cons, List.contains_nil, Nat.reduceBEq, Int.cast_ofNat_Int, and_self, k_pend_g, pendV, go_sem, i64_wrap_id, Int.reduceAdd, Int.reduceSub, Int.reduceNeg, Int.reduceMul, Nat.reduceSub, Nat.reduceEqDiff, Nat.reduceAdd, Nat.reduceMul, Nat.reduceLeDiff, ↓reduceIte, reduceCtorEq, Int.reduceToNat, Int.reduceLT, Int.reduceLE, Int.reduceEq]
    refine hQ _ _ _ ?_; (first | rw [k_body_ret] | rw [k_body_normal]); simp only [resVals, resVal, ev, Env.get_put, ↓reduceIte, Nat.reduceEqDiff, Option.bind_some, Option.map_some, reduceCtorEq, ldv_true, ldv_false, lloadV_agg, partL, List.toList_toArray, cellsOf_set, cellsOf_new, rd_set, rd_new, List.length_cons, List.length_nil, Nat.reduceAdd, Nat.reduceLeDiff, Nat.le_refl, List.take_succ_cons, List.take_zero, List.drop_zero, Nat.add_eq_left, Nat.left_eq_add, List.getElem?_cons_zero, List.getElem?_cons_succ, aN73]; rw [retQ_some]; simp only [oneOr]
    exact ⟨trivial, x1, rfl, h2, h3⟩

theorem fourN (x : Value) (t : Pst) (S : St) (h : Bs S x t.1) (hx : Byt t.1) :
    ACalls Try.prog 72 [.agg #[x, .bool t.2]] S fun r S' => S' = S ∧ ∃ x', r = .tuple #[.agg (lenCells (pLens 4 t).1).toArray, .agg #[x', .bool (pLens 4 t).2.2]] ∧ Bs S x' (pLens 4 t).2.1 ∧ InSl x' x := by
  refine ACalls.run hmix Try.func72 cN72 kN72 rfl fun hL Q hQ => ?_
  simp only [guard_undef, List.contains_cons, List.contains_nil, Nat.reduceBEq, Int.cast_ofNat_Int, and_self, k_pend_g, pendV, go_sem, i64_wrap_id, Int.reduceAdd, Int.reduceSub, Int.reduceNeg, Int.reduceMul, Nat.reduceSub, Nat.reduceEqDiff, Nat.reduceAdd, Nat.reduceMul, Nat.reduceLeDiff, ↓reduceIte, reduceCtorEq, Int.reduceToNat, Int.reduceLT, Int.reduceLE, Int.reduceEq, aN72]
  refine lK_unroll ?_
  simp only [guard_undef, List.contains_cons, List.contains_nil, Nat.reduceBEq, Int.cast_ofNat_Int, and_self, k_pend_g, pendV, go_sem, i64_wrap_id, Int.reduceAdd, Int.reduceSub, Int.reduceNeg, Int.reduceMul, Nat.reduceSub, Nat.reduceEqDiff, Nat.reduceAdd, Nat.reduceMul, Nat.reduceLeDiff, ↓reduceIte, reduceCtorEq, Int.reduceToNat, Int.reduceLT, Int.reduceLE, Int.reduceEq]
  refine cK_of (lengthN x t S h hx) ?_
  rintro r S' hS hL' ⟨rfl, x1, rfl, h2, h3⟩
  simp only [guard_undef, List.contains_cons, List.contains_nil, Nat.reduceBEq, Int.cast_ofNat_Int, and_self, k_pend_g, pendV, go_sem, i64_wrap_id, Int.reduceAdd, Int.reduceSub, Int.reduceNeg, Int.reduceMul, Nat.reduceSub, Nat.reduceEqDiff, Nat.reduceAdd, Nat.reduceMul, Nat.reduceLeDiff, ↓reduceIte, reduceCtorEq, Int.reduceToNat, Int.reduceLT, Int.reduceLE, Int.reduceEq]
  refine lK_unroll ?_
  simp only [guard_undef, List.contains_cons, List.contains_nil, Nat.reduceBEq, Int.cast_ofNat_Int, and_self, k_pend_g, pendV, go_sem, i64_wrap_id, Int.reduceAdd, Int.reduceSub, Int.reduceNeg, Int.reduceMul, Nat.reduceSub, Nat.reduceEqDiff, Nat.reduceAdd, Nat.reduceMul, Nat.reduceLeDiff, ↓reduceIte, reduceCtorEq, Int.reduceToNat, Int.reduceLT, Int.reduceLE, Int.reduceEq]
  refine cK_of (lengthN x1 (pLens 1 t).2 _ h2 (pLens_byt 1 hx)) ?_
  rintro r S' hS hL' ⟨rfl, x2, rfl, h4, h5⟩
  simp only [guard_undef, List.contains_cons, List.contains_nil, Nat.reduceBEq, Int.cast_ofNat_Int, and_self, k_pend_g, pendV, go_sem, i64_wrap_id, Int.reduceAdd, Int.reduceSub, Int.reduceNeg, Int.reduceMul, Nat.reduceSub, Nat.reduceEqDiff, Nat.reduceAdd, Nat.reduceMul, Nat.reduceLeDiff, ↓reduceIte, reduceCtorEq, Int.reduceToNat, Int.reduceLT, Int.reduceLE, Int.reduceEq]
  refine lK_unroll ?_
  simp only [guard_undef, List.contains_cons, List.contains_nil, Nat.reduceBEq, Int.cast_ofNat_Int, and_self, k_pend_g, pendV, go_sem, i64_wrap_id, Int.reduceAdd, Int.reduceSub, Int.reduceNeg, Int.reduceMul, Nat.reduceSub, Nat.reduceEqDiff, Nat.reduceAdd, Nat.reduceMul, Nat.reduceLeDiff, ↓reduceIte, reduceCtorEq, Int.reduceToNat, Int.reduceLT, Int.reduceLE, Int.reduceEq]
  refine cK_of (lengthN x2 (pLens 2 t).2 _ h4 (pLens_byt 2 hx)) ?_
  rintro r S' hS hL' ⟨rfl, x3, rfl, h6, h7⟩
  simp only [guard_undef, List.contains_cons, List.contains_nil, Nat.reduceBEq, Int.cast_ofNat_Int, and_self, k_pend_g, pendV, go_sem, i64_wrap_id, Int.reduceAdd, Int.reduceSub, Int.reduceNeg, Int.reduceMul, Nat.reduceSub, Nat.reduceEqDiff, Nat.reduceAdd, Nat.reduceMul, Nat.reduceLeDiff, ↓reduceIte, reduceCtorEq, Int.reduceToNat, Int.reduceLT, Int.reduceLE, Int.reduceEq]
  refine lK_unroll ?_
  simp only [guard_undef, List.contains_cons, List.contains_nil, Nat.reduceBEq, Int.cast_ofNat_Int, and_self, k_pend_g, pendV, go_sem, i64_wrap_id, Int.reduceAdd, Int.reduceSub, Int.reduceNeg, Int.reduceMul, Nat.reduceSub, Nat.reduceEqDiff, Nat.reduceAdd, Nat.reduceMul, Nat.reduceLeDiff, ↓reduceIte, reduceCtorEq, Int.reduceToNat, Int.reduceLT, Int.reduceLE, Int.reduceEq]
  refine cK_of (lengthN x3 (pLens 3 t).2 _ h6 (pLens_byt 3 hx)) ?_
  rintro r S' hS hL' ⟨rfl, x4, rfl, h8, h9⟩
  simp only [guard_undef, List.contains_cons, List.contains_nil, Nat.reduceBEq, Int.cast_ofNat_Int, and_self, k_pend_g, pendV, go_sem, i64_wrap_id, Int.reduceAdd, Int.reduceSub, Int.reduceNeg, Int.reduceMul, Nat.reduceSub, Nat.reduceEqDiff, Nat.reduceAdd, Nat.reduceMul, Nat.reduceLeDiff, ↓reduceIte, reduceCtorEq, Int.reduceToNat, Int.reduceLT, Int.reduceLE, Int.reduceEq]
  refine lK_unroll ?_
  simp only [guard_undef, List.contains_cons, List.contains_nil, Nat.reduceBEq, Int.cast_ofNat_Int, and_self, k_pend_g, pendV, go_sem, i64_wrap_id, Int.reduceAdd, Int.reduceSub, Int.reduceNeg, Int.reduceMul, Nat.reduceSub, Nat.reduceEqDiff, Nat.reduceAdd, Nat.reduceMul, Nat.reduceLeDiff, ↓reduceIte, reduceCtorEq, Int.reduceToNat, Int.reduceLT, Int.reduceLE, Int.reduceEq]
  refine hQ _ _ _ ?_; (first | rw [k_body_ret] | rw [k_body_normal]); simp only [resVals, resVal, ev, Env.get_put, ↓reduceIte, Nat.reduceEqDiff, Option.bind_some, Option.map_some, reduceCtorEq, ldv_true, ldv_false, lloadV_agg, partL, List.toList_toArray, cellsOf_set, cellsOf_new, rd_set, rd_new, List.length_cons, List.length_nil, Nat.reduceAdd, Nat.reduceLeDiff, Nat.le_refl, List.take_succ_cons, List.take_zero, List.drop_zero, Nat.add_eq_left, Nat.left_eq_add, List.getElem?_cons_zero, List.getElem?_cons_succ, aN72]; rw [retQ_some]; simp only [oneOr]
  exact ⟨trivial, x4, rfl, h8, ((h9.trans h7).trans h5).trans h3⟩
end Go.Proofs.Ytbgnaeagdneikaa
