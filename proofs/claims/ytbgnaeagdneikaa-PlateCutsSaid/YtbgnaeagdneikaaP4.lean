/- The plate: decoding. -/
import Derived.Test.YtbgnaeagdneikaaP3
import Derived.Test.YtbgnaeagdneikaaSeatKKP
-- pp: new
namespace Go.Proofs.Ytbgnaeagdneikaa
open Go Go.Proofs.Ytbgnaeagdneikaa.Abs
set_option linter.unusedSimpArgs false
set_option linter.unusedVariables false

open Classical in
/-- The list of bytes. -/
noncomputable def decOf (xs : List Int) : Option (List Itm) :=
  match decN (pFour (xs, false)).1.toNat (pFour (xs, false)).2 with
  | some (l, t) => if t = ([], false) then some l else none
  | none => none

theorem pFour_bound {t : Pst} (h : Byt t.1) : 0 ≤ (pFour t).1 ∧ (pFour t).1 < 4294967296 := by
  have := takeN_bound (n := 4) (bad := t.2) h
  unfold pFour
  exact ⟨this.1, by simpa using this.2⟩
theorem pByte_bound {t : Pst} (h : Byt t.1) : 0 ≤ (pByte t).1 ∧ (pByte t).1 < 256 := by
  have := takeN_bound (n := 1) (bad := t.2) h
  unfold pByte
  exact ⟨this.1, by simpa using this.2⟩
theorem pItm_ok {t : Pst} (h : Byt t.1) : (pItm t).1.Ok := by
  have h1 := pFour_bound h
  have h2 := pByte_bound (pI1_byt h)
  have hr : ∀ t : Pst, (pRc t).1.Ok := fun t => ⟨pEight_in _, pEight_in _, pEight_in _, pEight_in _⟩
  refine ⟨by unfold InI64 pItm; simp only; omega, by unfold InI64 pItm; simp only; omega, hr _, ?_, hr _, pEight_in _⟩
  unfold pItm pOptR
  simp only
  split
  · exact hr _
  · exact ⟨by simp [zeroR, InI64], by simp [zeroR, InI64], by simp [zeroR, InI64], by simp [zeroR, InI64]⟩

theorem IsIn.step {S S' : St} {i : Nat} {x : Value} {xs : List Int} {bad : Bool} (h : IsIn S i x xs bad) (hL : Live S) (hk : KeepsAll S S') : IsIn S' i x xs bad := h.keeps hL hk trivial fun _ _ => trivial

/-- All but one block is as it was. -/
abbrev KeepsAll' (S S' : St) (i : Nat) : Prop := Keeps S S' fun j => j ≠ i

set_option maxHeartbeats 2000000 in
theorem decode46 (x : Value) (xs : List Int) (S : St) (h : Bs S x xs) (hx : Byt xs) (hl : xs.length ≤ 900000000) :
    ACalls Try.prog 46 [x] S fun r S' => KeepsAll S S' ∧ ((∃ l v, decOf xs = some l ∧ r = .tuple #[v, .int .i64 0] ∧ Own S' 15 v l.length (itmCells l) ∧ Fresh S v) ∨ (decOf xs = none ∧ r = .tuple #[.slice none 0 0, .int .i64 2])) := by
  refine ACalls.run hmix Try.func46 cN46 kN46 rfl fun hL Q hQ => ?_
  simp only [guard_undef, List.contains_cons, List.contains_nil, Nat.reduceBEq, Int.cast_ofNat_Int, and_self, k_pend_g, pendV, go_sem, i64_wrap_id, Int.reduceAdd, Int.reduceSub, Int.reduceNeg, Int.reduceMul, Nat.reduceSub, Nat.reduceEqDiff, Nat.reduceAdd, Nat.reduceMul, Nat.reduceLeDiff, ↓reduceIte, reduceCtorEq, Int.reduceToNat, Int.reduceLT, Int.reduceLE, Int.reduceEq, aN46]
  refine cK_of (newIn x xs S h hx (by omega)) ?_
  rintro r0 S0 hS0 hL0 ⟨i, x0, rfl, hI0, hK0, hi0, hx0⟩
  simp only [guard_undef, List.contains_cons, List.contains_nil, Nat.reduceBEq, Int.cast_ofNat_Int, and_self, k_pend_g, pendV, go_sem, i64_wrap_id, Int.reduceAdd, Int.reduceSub, Int.reduceNeg, Int.reduceMul, Nat.reduceSub, Nat.reduceEqDiff, Nat.reduceAdd, Nat.reduceMul, Nat.reduceLeDiff, ↓reduceIte, reduceCtorEq, Int.reduceToNat, Int.reduceLT, Int.reduceLE, Int.reduceEq]
  refine cK_of (inFourP i x0 (xs, false) S0 hI0) ?_
  rintro r1 S1 hS1 hL1 hP
  obtain ⟨rfl, x1, hI1, s1⟩ := hP
  have hnb := pFour_bound (t := (xs, false)) hx
  have hbyt0 : Byt (pFour (xs, false)).2.1 := takeN_byt (t := (xs, false)) hx
  obtain ⟨N, hN⟩ : ∃ N : Nat, (pFour (xs, false)).1 = (N : Int) := ⟨(pFour (xs, false)).1.toNat, by omega⟩
  obtain ⟨t0, ht0⟩ : ∃ t0, t0 = (pFour (xs, false)).2 := ⟨_, rfl⟩
  have hdec : decOf xs = match decN N t0 with | some (l, t) => if t = ([], false) then some l else none | none => none := by
    unfold decOf
    rw [hN, ← ht0, Int.toNat_natCast]
  have hKS1 : KeepsAll S S1 := hK0.trans s1.keep fun j hj _ => by omega
  have hi1 := hL1 _ _ hI1.blk
  have hx1 : ∀ d, Value.blkOf x1 = some d → d < S1.next := fun d hd => hI1.data.lt hL1 hd
  rw [hN] at hnb ⊢
  rw [← ht0] at hI1 hbyt0
  simp only [guard_undef, List.contains_cons, List.contains_nil, Nat.reduceBEq, Int.cast_ofNat_Int, and_self, k_pend_g, pendV, go_sem, i64_wrap_id, Int.reduceAdd, Int.reduceSub, Int.reduceNeg, Int.reduceMul, Nat.reduceSub, Nat.reduceEqDiff, Nat.reduceAdd, Nat.reduceMul, Nat.reduceLeDiff, ↓reduceIte, reduceCtorEq, Int.reduceToNat, Int.reduceLT, Int.reduceLE, Int.reduceEq]
  refine lK_of (fun t' S' => ∃ (j : Nat) (l : List Itm) (t : Pst) (x' v : Value), j ≤ N ∧ Slots t' [(4, ptr i), (6, v), (12, .int .u32 N), (13, .int .u32 j)] ∧ Live S' ∧ l.length = j ∧ decN N t0 = (decN (N - j) t).map (fun p => (l ++ p.1, p.2)) ∧ Byt t.1 ∧
      IsIn S' i x' t.1 t.2 ∧ InStep S1 i x1 S' x' ∧ Own S' 15 v l.length (itmCells l) ∧ Fresh S1 v)
    (fun t' _ => (N - RowKit.intOf (t' 13)).toNat) ?_ ?_
  · refine ⟨0, [], t0, x1, .slice none 0 0, by omega, ?_, hL1, rfl, ?_, hbyt0, hI1, InStep.refl _ _ _, .inl ⟨rfl, rfl, rfl⟩, fun d hd => by simp [Value.blkOf] at hd⟩
    · simp only [guard_undef, List.contains_cons, List.contains_nil, Nat.reduceBEq, Int.cast_ofNat_Int, and_self, k_pend_g, pendV, go_sem, i64_wrap_id, Int.reduceAdd, Int.reduceSub, Int.reduceNeg, Int.reduceMul, Nat.reduceSub, Nat.reduceEqDiff, Nat.reduceAdd, Nat.reduceMul, Nat.reduceLeDiff, ↓reduceIte, reduceCtorEq, Int.reduceToNat, Int.reduceLT, Int.reduceLE, Int.reduceEq, slots_cons, slots_nil, Int.natCast_add, Int.natCast_succ, Int.cast_ofNat_Int]
    · simp
  rintro t1 S2 Q1 ⟨j, l, t, x2, v, hj, h1, hL2, hlj, hd, hbt, hI2, s2, hO2, hF2⟩ _ hNn hE
  simp only [slots_cons, slots_nil] at h1
  have hvi : Off v i := fun e => by have := hF2 i e; omega
  have hKS2 : ∀ S' x', InStep S1 i x1 S' x' → KeepsAll S S' := fun S' x' hs => hKS1.trans hs.keep fun j hj _ => by omega
  by_cases hjn : j = N
  · subst hjn
    simp only [guard_undef, List.contains_cons, List.contains_nil, Nat.reduceBEq, Int.cast_ofNat_Int, and_self, k_pend_g, pendV, go_sem, i64_wrap_id, Int.reduceAdd, Int.reduceSub, Int.reduceNeg, Int.reduceMul, Nat.reduceSub, Nat.reduceEqDiff, Nat.reduceAdd, Nat.reduceMul, Nat.reduceLeDiff, ↓reduceIte, reduceCtorEq, Int.reduceToNat, Int.reduceLT, Int.reduceLE, Int.reduceEq, h1, Int.lt_irrefl]
    refine hE _ _ _ (by simp) ?_
    simp only [guard_undef, List.contains_cons, List.contains_nil, Nat.reduceBEq, Int.cast_ofNat_Int, and_self, k_pend_g, pendV, go_sem, i64_wrap_id, Int.reduceAdd, Int.reduceSub, Int.reduceNeg, Int.reduceMul, Nat.reduceSub, Nat.reduceEqDiff, Nat.reduceAdd, Nat.reduceMul, Nat.reduceLeDiff, ↓reduceIte, reduceCtorEq, Int.reduceToNat, Int.reduceLT, Int.reduceLE, Int.reduceEq, h1]
    refine cK_of (inDone i x2 _ _ S2 hI2) ?_
    rintro r3 S3 hS3 hL3 ⟨rfl, rfl⟩
    rw [Nat.sub_self] at hd
    simp only [decN, Option.map_some, List.append_nil] at hd
    rw [hd] at hdec
    simp only at hdec
    cases hdn : (!t.2 && (t.1.length : Int) == 0)
    · simp only [guard_undef, List.contains_cons, List.contains_nil, Nat.reduceBEq, Int.cast_ofNat_Int, and_self, k_pend_g, pendV, go_sem, i64_wrap_id, Int.reduceAdd, Int.reduceSub, Int.reduceNeg, Int.reduceMul, Nat.reduceSub, Nat.reduceEqDiff, Nat.reduceAdd, Nat.reduceMul, Nat.reduceLeDiff, ↓reduceIte, reduceCtorEq, Int.reduceToNat, Int.reduceLT, Int.reduceLE, Int.reduceEq, h1]
      refine hQ _ _ _ ?_; (first | rw [k_body_ret] | rw [k_body_normal]); simp only [resVals, resVal, ev, Env.get_put, ↓reduceIte, Nat.reduceEqDiff, Option.bind_some, Option.map_some, reduceCtorEq, ldv_true, ldv_false, lloadV_agg, partL, List.toList_toArray, cellsOf_set, cellsOf_new, rd_set, rd_new, List.length_cons, List.length_nil, Nat.reduceAdd, Nat.reduceLeDiff, Nat.le_refl, List.take_succ_cons, List.take_zero, List.drop_zero, Nat.add_eq_left, Nat.left_eq_add, List.getElem?_cons_zero, List.getElem?_cons_succ, aN46, h1]; rw [retQ_some]; simp only [oneOr]
      refine ⟨hKS2 _ _ s2, .inr ⟨?_, trivial⟩⟩
      rw [hdec, if_neg]
      intro e
      rw [e] at hdn
      simp at hdn
    · simp only [guard_undef, List.contains_cons, List.contains_nil, Nat.reduceBEq, Int.cast_ofNat_Int, and_self, k_pend_g, pendV, go_sem, i64_wrap_id, Int.reduceAdd, Int.reduceSub, Int.reduceNeg, Int.reduceMul, Nat.reduceSub, Nat.reduceEqDiff, Nat.reduceAdd, Nat.reduceMul, Nat.reduceLeDiff, ↓reduceIte, reduceCtorEq, Int.reduceToNat, Int.reduceLT, Int.reduceLE, Int.reduceEq, h1]
      refine hQ _ _ _ ?_; (first | rw [k_body_ret] | rw [k_body_normal]); simp only [resVals, resVal, ev, Env.get_put, ↓reduceIte, Nat.reduceEqDiff, Option.bind_some, Option.map_some, reduceCtorEq, ldv_true, ldv_false, lloadV_agg, partL, List.toList_toArray, cellsOf_set, cellsOf_new, rd_set, rd_new, List.length_cons, List.length_nil, Nat.reduceAdd, Nat.reduceLeDiff, Nat.le_refl, List.take_succ_cons, List.take_zero, List.drop_zero, Nat.add_eq_left, Nat.left_eq_add, List.getElem?_cons_zero, List.getElem?_cons_succ, aN46, h1]; rw [retQ_some]; simp only [oneOr]
      refine ⟨hKS2 _ _ s2, .inl ⟨l, v, ?_, rfl, hO2, fun d hd => by have := hF2 d hd; have := hKS1.1; omega⟩⟩
      rw [hdec, if_pos]
      obtain ⟨ts, tb⟩ := t
      simp only [Bool.and_eq_true, Bool.not_eq_true', beq_iff_eq] at hdn
      have : ts = [] := List.eq_nil_of_length_eq_zero (by omega)
      rw [this, hdn.1]
  have hjl : (j : Int) < N := by omega
  have hj1 : IntKind.u32.wrap ((j : Int) + 1) = j + 1 := by rw [wrap32u]; omega
  simp only [guard_undef, List.contains_cons, List.contains_nil, Nat.reduceBEq, Int.cast_ofNat_Int, and_self, k_pend_g, pendV, go_sem, i64_wrap_id, Int.reduceAdd, Int.reduceSub, Int.reduceNeg, Int.reduceMul, Nat.reduceSub, Nat.reduceEqDiff, Nat.reduceAdd, Nat.reduceMul, Nat.reduceLeDiff, ↓reduceIte, reduceCtorEq, Int.reduceToNat, Int.reduceLT, Int.reduceLE, Int.reduceEq, h1, hjl]
  refine cK_of (inFourP i x2 t S2 hI2) ?_
  rintro r3 S3 hS3 hL3 hP
  obtain ⟨rfl, x3, hI3, s3⟩ := hP
  simp only [guard_undef, List.contains_cons, List.contains_nil, Nat.reduceBEq, Int.cast_ofNat_Int, and_self, k_pend_g, pendV, go_sem, i64_wrap_id, Int.reduceAdd, Int.reduceSub, Int.reduceNeg, Int.reduceMul, Nat.reduceSub, Nat.reduceEqDiff, Nat.reduceAdd, Nat.reduceMul, Nat.reduceLeDiff, ↓reduceIte, reduceCtorEq, Int.reduceToNat, Int.reduceLT, Int.reduceLE, Int.reduceEq, h1]
  refine cK_of (inByteP i x3 (pI1 t) S3 hI3) ?_
  rintro r4 S4 hS4 hL4 hP
  obtain ⟨rfl, x4, hI4, s4⟩ := hP
  have hn3 := pFour_bound hbt
  have hn4 := pByte_bound (pI1_byt hbt)
  have hw3 : IntKind.i64.wrap (pFour t).1 = (pFour t).1 := wrap64_id (by omega) (by omega)
  have hw4 : IntKind.i64.wrap (pByte (pI1 t)).1 = (pByte (pI1 t)).1 := wrap64_id (by omega) (by omega)
  simp only [guard_undef, List.contains_cons, List.contains_nil, Nat.reduceBEq, Int.cast_ofNat_Int, and_self, k_pend_g, pendV, go_sem, i64_wrap_id, Int.reduceAdd, Int.reduceSub, Int.reduceNeg, Int.reduceMul, Nat.reduceSub, Nat.reduceEqDiff, Nat.reduceAdd, Nat.reduceMul, Nat.reduceLeDiff, ↓reduceIte, reduceCtorEq, Int.reduceToNat, Int.reduceLT, Int.reduceLE, Int.reduceEq, h1, hw3, hw4, ↓ow_all]
  (first | refine cK_keep [4,6,7,12,13] fun t1 hk' => ?_ | refine lK_keep [4,6,7,12,13] fun t1 hk' => ?_ | refine iK_keep [4,6,7,12,13] fun t1 hk' => ?_ | refine hK_keep [4,6,7,12,13] fun t1 hk' => ?_); simp only [guard_undef, List.contains_cons, List.contains_nil, Nat.reduceBEq, Int.cast_ofNat_Int, and_self, k_pend_g, pendV, go_sem, i64_wrap_id, Int.reduceAdd, Int.reduceSub, Int.reduceNeg, Int.reduceMul, Nat.reduceSub, Nat.reduceEqDiff, Nat.reduceAdd, Nat.reduceMul, Nat.reduceLeDiff, ↓reduceIte, reduceCtorEq, Int.reduceToNat, Int.reduceLT, Int.reduceLE, Int.reduceEq, keepL_cons, keepL_nil, slots_cons, slots_nil, h1] at hk'; have hk := hk'; clear hk'
  refine cK_of (get81 i x4 (pI2 t) S4 hI4) ?_
  rintro r5 S5 hS5 hL5 hP
  obtain ⟨rfl, x5, hI5, s5⟩ := hP
  unfold Rc.cells
  simp only [guard_undef, List.contains_cons, List.contains_nil, Nat.reduceBEq, Int.cast_ofNat_Int, and_self, k_pend_g, pendV, go_sem, i64_wrap_id, Int.reduceAdd, Int.reduceSub, Int.reduceNeg, Int.reduceMul, Nat.reduceSub, Nat.reduceEqDiff, Nat.reduceAdd, Nat.reduceMul, Nat.reduceLeDiff, ↓reduceIte, reduceCtorEq, Int.reduceToNat, Int.reduceLT, Int.reduceLE, Int.reduceEq, hk]
  obtain ⟨kd, hkd⟩ : ∃ kd, kd = (pByte (pI1 t)).1 := ⟨_, rfl⟩
  rw [← hkd] at hk ⊢
  have s5' := ((s2.trans s3).trans s4).trans s5
  have hpk : (pOptR ((pByte (pI1 t)).1 = 1) (pI3 t)) = pOptR (kd = 1) (pI3 t) := by simp only [hkd]
  obtain ⟨H, hH⟩ : ∃ H, H = (pOptR (kd = 1) (pI3 t)).1 := ⟨_, rfl⟩
  have ht4 : (pOptR (kd = 1) (pI3 t)).2 = pI4 t := by unfold pI4; rw [hpk]
  refine iK_cut (fun t' S' => ∃ x6, Slots t' [(4, t1 4), (6, t1 6), (12, t1 12), (13, t1 13), (7, .agg #[.int .i64 (pFour t).1, .int .i64 kd, .int .i64 (pRc (pI2 t)).1.a, .int .i64 (pRc (pI2 t)).1.b, .int .i64 (pRc (pI2 t)).1.c, .int .i64 (pRc (pI2 t)).1.d,
      .int .i64 H.a, .int .i64 H.b, .int .i64 H.c, .int .i64 H.d, .int .i64 0, .int .i64 0, .int .i64 0, .int .i64 0, .int .i64 0])] ∧ Live S' ∧ IsIn S' i x6 (pI4 t).1 (pI4 t).2 ∧ InStep S1 i x1 S' x6 ∧ KeepsAll' S2 S' i) (fun Q6 hN6 hE6 => iK_split (fun hc => ?_) (fun hc => ?_)) ?_
  · have hk1 : kd = 1 := by simpa using hc
    have hop : pOptR (kd = 1) (pI3 t) = pRc (pI3 t) := by unfold pOptR; rw [if_pos hk1]
    simp only [guard_undef, List.contains_cons, List.contains_nil, Nat.reduceBEq, Int.cast_ofNat_Int, and_self, k_pend_g, pendV, go_sem, i64_wrap_id, Int.reduceAdd, Int.reduceSub, Int.reduceNeg, Int.reduceMul, Nat.reduceSub, Nat.reduceEqDiff, Nat.reduceAdd, Nat.reduceMul, Nat.reduceLeDiff, ↓reduceIte, reduceCtorEq, Int.reduceToNat, Int.reduceLT, Int.reduceLE, Int.reduceEq, hk]
    refine cK_of (get81 i x5 (pI3 t) S5 hI5) ?_
    rintro r6 S6 hS6 hL6 hP
    obtain ⟨rfl, x6, hI6, s6⟩ := hP
    unfold Rc.cells
    simp only [guard_undef, List.contains_cons, List.contains_nil, Nat.reduceBEq, Int.cast_ofNat_Int, and_self, k_pend_g, pendV, go_sem, i64_wrap_id, Int.reduceAdd, Int.reduceSub, Int.reduceNeg, Int.reduceMul, Nat.reduceSub, Nat.reduceEqDiff, Nat.reduceAdd, Nat.reduceMul, Nat.reduceLeDiff, ↓reduceIte, reduceCtorEq, Int.reduceToNat, Int.reduceLT, Int.reduceLE, Int.reduceEq, hk]
    refine hN6 _ _ ⟨x6, ?_, hL6, by rw [← ht4, hop]; exact hI6, s5'.trans s6, ((s3.trans s4).trans s5).keep.trans s6.keep fun _ _ hp => hp⟩
    rw [hop] at hH
    rw [hH]
    simp only [guard_undef, List.contains_cons, List.contains_nil, Nat.reduceBEq, Int.cast_ofNat_Int, and_self, k_pend_g, pendV, go_sem, i64_wrap_id, Int.reduceAdd, Int.reduceSub, Int.reduceNeg, Int.reduceMul, Nat.reduceSub, Nat.reduceEqDiff, Nat.reduceAdd, Nat.reduceMul, Nat.reduceLeDiff, ↓reduceIte, reduceCtorEq, Int.reduceToNat, Int.reduceLT, Int.reduceLE, Int.reduceEq, slots_cons, slots_nil, Int.natCast_add, Int.natCast_succ, Int.cast_ofNat_Int, hk]
  · have hk1 : ¬ kd = 1 := by simpa using hc
    have hop : pOptR (kd = 1) (pI3 t) = (zeroR, pI3 t) := by unfold pOptR; rw [if_neg hk1]
    simp only [guard_undef, List.contains_cons, List.contains_nil, Nat.reduceBEq, Int.cast_ofNat_Int, and_self, k_pend_g, pendV, go_sem, i64_wrap_id, Int.reduceAdd, Int.reduceSub, Int.reduceNeg, Int.reduceMul, Nat.reduceSub, Nat.reduceEqDiff, Nat.reduceAdd, Nat.reduceMul, Nat.reduceLeDiff, ↓reduceIte, reduceCtorEq, Int.reduceToNat, Int.reduceLT, Int.reduceLE, Int.reduceEq, hk]
    refine hN6 _ _ ⟨x5, ?_, hL5, by rw [← ht4, hop]; exact hI5, s5', ((s3.trans s4).trans s5).keep⟩
    rw [hop] at hH
    rw [hH]
    simp only [zeroR]
    simp only [guard_undef, List.contains_cons, List.contains_nil, Nat.reduceBEq, Int.cast_ofNat_Int, and_self, k_pend_g, pendV, go_sem, i64_wrap_id, Int.reduceAdd, Int.reduceSub, Int.reduceNeg, Int.reduceMul, Nat.reduceSub, Nat.reduceEqDiff, Nat.reduceAdd, Nat.reduceMul, Nat.reduceLeDiff, ↓reduceIte, reduceCtorEq, Int.reduceToNat, Int.reduceLT, Int.reduceLE, Int.reduceEq, slots_cons, slots_nil, Int.natCast_add, Int.natCast_succ, Int.cast_ofNat_Int, hk]
  rintro t6 S6 ⟨x6, h6, hL6, hI6, s6, hk6⟩
  simp only [slots_cons, slots_nil, hk] at h6
  clear hk
  simp only [guard_undef, List.contains_cons, List.contains_nil, Nat.reduceBEq, Int.cast_ofNat_Int, and_self, k_pend_g, pendV, go_sem, i64_wrap_id, Int.reduceAdd, Int.reduceSub, Int.reduceNeg, Int.reduceMul, Nat.reduceSub, Nat.reduceEqDiff, Nat.reduceAdd, Nat.reduceMul, Nat.reduceLeDiff, ↓reduceIte, reduceCtorEq, Int.reduceToNat, Int.reduceLT, Int.reduceLE, Int.reduceEq, h6]
  refine cK_of (get81 i x6 (pI4 t) S6 hI6) ?_
  rintro r7 S7 hS7 hL7 hP
  obtain ⟨rfl, x7, hI7, s7⟩ := hP
  unfold Rc.cells
  simp only [guard_undef, List.contains_cons, List.contains_nil, Nat.reduceBEq, Int.cast_ofNat_Int, and_self, k_pend_g, pendV, go_sem, i64_wrap_id, Int.reduceAdd, Int.reduceSub, Int.reduceNeg, Int.reduceMul, Nat.reduceSub, Nat.reduceEqDiff, Nat.reduceAdd, Nat.reduceMul, Nat.reduceLeDiff, ↓reduceIte, reduceCtorEq, Int.reduceToNat, Int.reduceLT, Int.reduceLE, Int.reduceEq, h6]
  refine cK_of (inEightP i x7 (pI5 t) S7 hI7) ?_
  rintro r8 S8 hS8 hL8 hP
  obtain ⟨rfl, x8, hI8, s8⟩ := hP
  have s8' := (s6.trans s7).trans s8
  have hk8 : KeepsAll' S2 S8 i := (Keeps.trans hk6 s7.keep fun _ _ hp => hp).trans s8.keep fun _ _ hp => hp
  have hcells : (pItm t).1.cells = [.int .i64 (pFour t).1, .int .i64 kd, .int .i64 (pRc (pI2 t)).1.a, .int .i64 (pRc (pI2 t)).1.b, .int .i64 (pRc (pI2 t)).1.c, .int .i64 (pRc (pI2 t)).1.d, .int .i64 H.a, .int .i64 H.b, .int .i64 H.c, .int .i64 H.d,
      .int .i64 (pRc (pI4 t)).1.a, .int .i64 (pRc (pI4 t)).1.b, .int .i64 (pRc (pI4 t)).1.c, .int .i64 (pRc (pI4 t)).1.d, .int .i64 (pEight (pI5 t)).1] := by
    unfold Itm.cells pItm
    simp only [hH, hkd]
  have hI8' : IsIn S8 i x8 (pItm t).2.1 (pItm t).2.2 := hI8
  obtain ⟨y, hy⟩ : ∃ y, y = (pItm t).1 := ⟨_, rfl⟩
  rw [← hy] at hcells
  have hsucc : N - j = (N - (j + 1)) + 1 := by omega
  rw [hsucc, decN, ← hy] at hd
  simp only [guard_undef, List.contains_cons, List.contains_nil, Nat.reduceBEq, Int.cast_ofNat_Int, and_self, k_pend_g, pendV, go_sem, i64_wrap_id, Int.reduceAdd, Int.reduceSub, Int.reduceNeg, Int.reduceMul, Nat.reduceSub, Nat.reduceEqDiff, Nat.reduceAdd, Nat.reduceMul, Nat.reduceLeDiff, ↓reduceIte, reduceCtorEq, Int.reduceToNat, Int.reduceLT, Int.reduceLE, Int.reduceEq, h6]
  (first | refine cK_keep [4,6,7,12,13] fun t1 hk' => ?_ | refine lK_keep [4,6,7,12,13] fun t1 hk' => ?_ | refine iK_keep [4,6,7,12,13] fun t1 hk' => ?_ | refine hK_keep [4,6,7,12,13] fun t1 hk' => ?_); simp only [guard_undef, List.contains_cons, List.contains_nil, Nat.reduceBEq, Int.cast_ofNat_Int, and_self, k_pend_g, pendV, go_sem, i64_wrap_id, Int.reduceAdd, Int.reduceSub, Int.reduceNeg, Int.reduceMul, Nat.reduceSub, Nat.reduceEqDiff, Nat.reduceAdd, Nat.reduceMul, Nat.reduceLeDiff, ↓reduceIte, reduceCtorEq, Int.reduceToNat, Int.reduceLT, Int.reduceLE, Int.reduceEq, keepL_cons, keepL_nil, slots_cons, slots_nil, h6] at hk'; have hk := hk'; clear hk'
  rw [← hcells] at hk
  refine cK_of (inBad i x8 _ _ S8 hI8') ?_
  rintro r9 S9 hS9 hL9 ⟨rfl, rfl⟩
  have hylen := y.cells_length
  have hytk : y.cells.take 15 = y.cells := List.take_of_length_le (by omega)
  have hdn : ¬ ((pItm t).2.2 = false ∧ RightP y) → decOf xs = none := by
    intro hn
    rw [if_neg hn] at hd
    simp only [Option.map_none] at hd
    rw [hdec, hd]
  cases hbad : (pItm t).2.2
  rotate_left
  · simp only [guard_undef, List.contains_cons, List.contains_nil, Nat.reduceBEq, Int.cast_ofNat_Int, and_self, k_pend_g, pendV, go_sem, i64_wrap_id, Int.reduceAdd, Int.reduceSub, Int.reduceNeg, Int.reduceMul, Nat.reduceSub, Nat.reduceEqDiff, Nat.reduceAdd, Nat.reduceMul, Nat.reduceLeDiff, ↓reduceIte, reduceCtorEq, Int.reduceToNat, Int.reduceLT, Int.reduceLE, Int.reduceEq, hk]
    refine hE _ _ _ (by simp) ?_
    simp only [guard_undef, List.contains_cons, List.contains_nil, Nat.reduceBEq, Int.cast_ofNat_Int, and_self, k_pend_g, pendV, go_sem, i64_wrap_id, Int.reduceAdd, Int.reduceSub, Int.reduceNeg, Int.reduceMul, Nat.reduceSub, Nat.reduceEqDiff, Nat.reduceAdd, Nat.reduceMul, Nat.reduceLeDiff, ↓reduceIte, reduceCtorEq, Int.reduceToNat, Int.reduceLT, Int.reduceLE, Int.reduceEq]
    refine hQ _ _ _ ?_; (first | rw [k_body_ret] | rw [k_body_normal]); simp only [resVals, resVal, ev, Env.get_put, ↓reduceIte, Nat.reduceEqDiff, Option.bind_some, Option.map_some, reduceCtorEq, ldv_true, ldv_false, lloadV_agg, partL, List.toList_toArray, cellsOf_set, cellsOf_new, rd_set, rd_new, List.length_cons, List.length_nil, Nat.reduceAdd, Nat.reduceLeDiff, Nat.le_refl, List.take_succ_cons, List.take_zero, List.drop_zero, Nat.add_eq_left, Nat.left_eq_add, List.getElem?_cons_zero, List.getElem?_cons_succ, aN46, hk]; rw [retQ_some]; simp only [oneOr]
    exact ⟨hKS2 _ _ s8', .inr ⟨hdn (by simp [hbad]), trivial⟩⟩
  simp only [guard_undef, List.contains_cons, List.contains_nil, Nat.reduceBEq, Int.cast_ofNat_Int, and_self, k_pend_g, pendV, go_sem, i64_wrap_id, Int.reduceAdd, Int.reduceSub, Int.reduceNeg, Int.reduceMul, Nat.reduceSub, Nat.reduceEqDiff, Nat.reduceAdd, Nat.reduceMul, Nat.reduceLeDiff, ↓reduceIte, reduceCtorEq, Int.reduceToNat, Int.reduceLT, Int.reduceLE, Int.reduceEq, hk, hylen, hytk]
  refine cK_of (right44 y S9) ?_
  rintro r10 S10 hS10 hL10 ⟨rfl, c, rfl, hc⟩
  cases c
  · simp only [guard_undef, List.contains_cons, List.contains_nil, Nat.reduceBEq, Int.cast_ofNat_Int, and_self, k_pend_g, pendV, go_sem, i64_wrap_id, Int.reduceAdd, Int.reduceSub, Int.reduceNeg, Int.reduceMul, Nat.reduceSub, Nat.reduceEqDiff, Nat.reduceAdd, Nat.reduceMul, Nat.reduceLeDiff, ↓reduceIte, reduceCtorEq, Int.reduceToNat, Int.reduceLT, Int.reduceLE, Int.reduceEq, hk]
    refine hE _ _ _ (by simp) ?_
    simp only [guard_undef, List.contains_cons, List.contains_nil, Nat.reduceBEq, Int.cast_ofNat_Int, and_self, k_pend_g, pendV, go_sem, i64_wrap_id, Int.reduceAdd, Int.reduceSub, Int.reduceNeg, Int.reduceMul, Nat.reduceSub, Nat.reduceEqDiff, Nat.reduceAdd, Nat.reduceMul, Nat.reduceLeDiff, ↓reduceIte, reduceCtorEq, Int.reduceToNat, Int.reduceLT, Int.reduceLE, Int.reduceEq]
    refine hQ _ _ _ ?_; (first | rw [k_body_ret] | rw [k_body_normal]); simp only [resVals, resVal, ev, Env.get_put, ↓reduceIte, Nat.reduceEqDiff, Option.bind_some, Option.map_some, reduceCtorEq, ldv_true, ldv_false, lloadV_agg, partL, List.toList_toArray, cellsOf_set, cellsOf_new, rd_set, rd_new, List.length_cons, List.length_nil, Nat.reduceAdd, Nat.reduceLeDiff, Nat.le_refl, List.take_succ_cons, List.take_zero, List.drop_zero, Nat.add_eq_left, Nat.left_eq_add, List.getElem?_cons_zero, List.getElem?_cons_succ, aN46, hk]; rw [retQ_some]; simp only [oneOr]
    exact ⟨hKS2 _ _ s8', .inr ⟨hdn (fun hh => by have := hc.2 hh.2; cases this), trivial⟩⟩
  have hry := hc.1 rfl
  rw [if_pos ⟨hbad, hry⟩] at hd
  have hKn := Keeps.of_new S10 ⟨false, y.cells⟩ fun _ => True
  have hO10 : Own S10 15 v l.length (itmCells l) := hO2.keep fun d hd => hk8.2 d (hO2.sl.lt hL2 hd) fun e => hvi (by rw [hd, e])
  have hO11 := Own.keeps hL10 hO10 hKn fun _ _ => trivial
  have hnew : Sl (S10.new ⟨false, y.cells⟩) 15 (.slice (some ⟨S10.next, 0, none⟩) 1 15) 1 y.cells := .inr ⟨S10.next, 0, 15, rfl, .inr rfl, by rw [cellsOf_new, if_pos rfl, if_pos (by simp only [hylen]; omega), List.drop_zero, Nat.one_mul, hytk]⟩
  simp only [guard_undef, List.contains_cons, List.contains_nil, Nat.reduceBEq, Int.cast_ofNat_Int, and_self, k_pend_g, pendV, go_sem, i64_wrap_id, Int.reduceAdd, Int.reduceSub, Int.reduceNeg, Int.reduceMul, Nat.reduceSub, Nat.reduceEqDiff, Nat.reduceAdd, Nat.reduceMul, Nat.reduceLeDiff, ↓reduceIte, reduceCtorEq, Int.reduceToNat, Int.reduceLT, Int.reduceLE, Int.reduceEq, hk, hylen, hytk, ↓ow_all]
  refine hK_of (append_live (hL10.new _) (append_own (R := fun v' S' => Own S' 15 v' (l.length + 1) (itmCells l ++ y.cells) ∧ Keeps (S10.new ⟨false, y.cells⟩) S' (fun i => Value.blkOf v ≠ some i) ∧ (∀ i, Value.blkOf v' = some i → Value.blkOf v = some i ∨ (S10.new ⟨false, y.cells⟩).next ≤ i)) (by omega) hO11 hnew (by omega) fun v' S' h1 h2 h3 => ⟨h1, h2, h3⟩)) ?_
  rintro v12 S12 ⟨hL12, hO12, hk12, hF12⟩
  simp only [guard_undef, List.contains_cons, List.contains_nil, Nat.reduceBEq, Int.cast_ofNat_Int, and_self, k_pend_g, pendV, go_sem, i64_wrap_id, Int.reduceAdd, Int.reduceSub, Int.reduceNeg, Int.reduceMul, Nat.reduceSub, Nat.reduceEqDiff, Nat.reduceAdd, Nat.reduceMul, Nat.reduceLeDiff, ↓reduceIte, reduceCtorEq, Int.reduceToNat, Int.reduceLT, Int.reduceLE, Int.reduceEq, hk, hj1]
  have hvlt : ∀ d, Value.blkOf v = some d → d < S10.next := fun d hd => hO10.sl.lt hL10 hd
  have hK1012 : Keeps S10 S12 fun q => Value.blkOf v ≠ some q := hKn.all.trans hk12 fun _ _ hp => hp
  have hfar : ∀ q, q < S1.next → Value.blkOf v ≠ some q := fun q hq e => by have := hF2 q e; omega
  have hIn12 : IsIn S12 i x8 (pItm t).2.1 (pItm t).2.2 := hI8'.keeps hL10 hK1012 (hfar i hi1) fun q hq => hfar q (hx1 q (s8'.data q hq))
  refine hNn _ _ ⟨j + 1, l ++ [y], (pItm t).2, x8, v12, by omega, ?_, hL12, by simp [hlj], ?_, pItm_byt hbt, hIn12, ⟨s8'.keep.trans hK1012 fun q hq _ => hfar q hq, s8'.data⟩, ?_, ?_⟩ ?_
  · simp only [guard_undef, List.contains_cons, List.contains_nil, Nat.reduceBEq, Int.cast_ofNat_Int, and_self, k_pend_g, pendV, go_sem, i64_wrap_id, Int.reduceAdd, Int.reduceSub, Int.reduceNeg, Int.reduceMul, Nat.reduceSub, Nat.reduceEqDiff, Nat.reduceAdd, Nat.reduceMul, Nat.reduceLeDiff, ↓reduceIte, reduceCtorEq, Int.reduceToNat, Int.reduceLT, Int.reduceLE, Int.reduceEq, slots_cons, slots_nil, Int.natCast_add, Int.natCast_succ, Int.cast_ofNat_Int, hk]
  · rw [hd, Option.map_map]
    congr 1
    funext p
    simp
  · rw [List.length_append, List.length_cons, List.length_nil]
    have e : itmCells (l ++ [y]) = itmCells l ++ y.cells := by unfold itmCells; rw [List.flatMap_append, List.flatMap_cons, List.flatMap_nil, List.append_nil]
    rw [e]
    exact hO12
  · intro d hd
    rcases hF12 d hd with hh | hh
    · exact hF2 d hh
    · simp [St.next_new] at hh
      have := s8'.keep.1
      omega
  · simp only [guard_undef, List.contains_cons, List.contains_nil, Nat.reduceBEq, Int.cast_ofNat_Int, and_self, k_pend_g, pendV, go_sem, i64_wrap_id, Int.reduceAdd, Int.reduceSub, Int.reduceNeg, Int.reduceMul, Nat.reduceSub, Nat.reduceEqDiff, Nat.reduceAdd, Nat.reduceMul, Nat.reduceLeDiff, ↓reduceIte, reduceCtorEq, Int.reduceToNat, Int.reduceLT, Int.reduceLE, Int.reduceEq, hk, h1]
    simp [RowKit.intOf]
    omega
end Go.Proofs.Ytbgnaeagdneikaa
