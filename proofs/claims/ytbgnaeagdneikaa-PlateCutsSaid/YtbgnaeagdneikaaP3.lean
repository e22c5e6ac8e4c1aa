/- The plate: lists of items. -/
import Derived.Test.YtbgnaeagdneikaaP2
import Derived.Test.YtbgnaeagdneikaaSeatKKP
-- pp: new
namespace Go.Proofs.Ytbgnaeagdneikaa
open Go Go.Proofs.Ytbgnaeagdneikaa.Abs
set_option linter.unusedSimpArgs false
set_option linter.unusedVariables false

theorem Itm.cells_length (x : Itm) : x.cells.length = 15 := rfl
theorem itmCells_length (l : List Itm) : (itmCells l).length = l.length * 15 := by
  induction l with
  | nil => rfl
  | cons x l ih => unfold itmCells at ih ⊢; rw [List.flatMap_cons, List.length_append, ih, List.length_cons, Itm.cells_length]; omega
theorem itmCells_at : ∀ (l : List Itm) (j : Nat) (h : j < l.length), ((itmCells l).drop (j * 15)).take 15 = l[j].cells
  | x :: l, 0, _ => by simp [itmCells, List.flatMap_cons, List.take_append, Itm.cells_length]; rw [List.take_of_length_le (by rw [Itm.cells_length]; omega)]
  | x :: l, j + 1, h => by
    have := itmCells_at l j (by simpa using h)
    rw [Nat.succ_mul, Nat.add_comm, ← List.drop_drop]
    have e : (itmCells (x :: l)).drop 15 = itmCells l := by unfold itmCells; rw [List.flatMap_cons]; exact List.drop_left' (Itm.cells_length x)
    rw [e, this]
    rfl
theorem items_at {S : St} {d o : Nat} {l : List Itm} (h : cellsOf S d o (l.length * 15) = some (itmCells l)) (j : Nat) (hj : j < l.length) : cellsOf S d (o + j * 15) 15 = some l[j].cells := by
  rw [cellsOf_of_cells h (by omega), itmCells_at l j hj]

/-- A slice of items. -/
def Is (S : St) (v : Value) (l : List Itm) : Prop := Sl S 15 v l.length (itmCells l)

theorem enters79 : enters Try.prog 79 = true := by kernel_rfl
theorem not79 (x : Itm) (S : St) : ACalls Try.prog 79 [.agg x.cells.toArray] S (BoolIs (¬ RightP x) S) := by
  refine ACalls.run hmix Try.func79 cN79 kN79 rfl fun hL Q hQ => ?_
  have hl := x.cells_length
  have ht : x.cells.take 15 = x.cells := List.take_of_length_le (by omega)
  simp only [guard_undef, List.contains_cons, List.contains_nil, Nat.reduceBEq, Int.cast_ofNat_Int, and_self, k_pend_g, pendV, go_sem, i64_wrap_id, Int.reduceAdd, Int.reduceSub, Int.reduceNeg, Int.reduceMul, Nat.reduceSub, Nat.reduceEqDiff, Nat.reduceAdd, Nat.reduceMul, Nat.reduceLeDiff, ↓reduceIte, reduceCtorEq, Int.reduceToNat, Int.reduceLT, Int.reduceLE, Int.reduceEq, aN79, hl, ht]
  refine cK_of (right44 x S) ?_
  rintro v S' hS hL' ⟨rfl, c, rfl, hc⟩
  simp only [guard_undef, List.contains_cons, List.contains_nil, Nat.reduceBEq, Int.cast_ofNat_Int, and_self, k_pend_g, pendV, go_sem, i64_wrap_id, Int.reduceAdd, Int.reduceSub, Int.reduceNeg, Int.reduceMul, Nat.reduceSub, Nat.reduceEqDiff, Nat.reduceAdd, Nat.reduceMul, Nat.reduceLeDiff, ↓reduceIte, reduceCtorEq, Int.reduceToNat, Int.reduceLT, Int.reduceLE, Int.reduceEq]
  refine hQ _ _ _ ?_; (first | rw [k_body_ret] | rw [k_body_normal]); simp only [resVals, resVal, ev, Env.get_put, ↓reduceIte, Nat.reduceEqDiff, Option.bind_some, Option.map_some, reduceCtorEq, ldv_true, ldv_false, lloadV_agg, partL, List.toList_toArray, cellsOf_set, cellsOf_new, rd_set, rd_new, List.length_cons, List.length_nil, Nat.reduceAdd, Nat.reduceLeDiff, Nat.le_refl, List.take_succ_cons, List.take_zero, List.drop_zero, Nat.add_eq_left, Nat.left_eq_add, List.getElem?_cons_zero, List.getElem?_cons_succ, aN79]; rw [retQ_some]; simp only [oneOr]
  exact ⟨rfl, !c, rfl, by cases c <;> simp_all⟩

def fn79 : Value := .func (.func 79) #[] #[]
theorem index93 (x : Value) (l : List Itm) (S : St) (h : Is S x l) (hn : l.length ≤ 1000000000) :
    ACalls Try.prog 93 [x, fn79] S fun r S' => S' = S ∧ ∃ k : Int, r = .int .i64 k ∧ (k ≥ 0 ↔ ¬ ∀ y ∈ l, RightP y) := by
  refine ACalls.run hmix Try.func93 cN93 kN93 rfl fun hL Q hQ => ?_
  unfold fn79
  obtain ⟨a, e, rfl⟩ := h.slice
  simp only [guard_undef, List.contains_cons, List.contains_nil, Nat.reduceBEq, Int.cast_ofNat_Int, and_self, k_pend_g, pendV, go_sem, i64_wrap_id, Int.reduceAdd, Int.reduceSub, Int.reduceNeg, Int.reduceMul, Nat.reduceSub, Nat.reduceEqDiff, Nat.reduceAdd, Nat.reduceMul, Nat.reduceLeDiff, ↓reduceIte, reduceCtorEq, Int.reduceToNat, Int.reduceLT, Int.reduceLE, Int.reduceEq, aN93]
  refine lK_of (fun t' S' => S' = S ∧ ∃ j : Nat, j ≤ l.length ∧ Slots t' [(0, .slice a l.length e), (1, .func (.func 79) #[] #[]), (7, .int .i64 l.length), (8, .int .i64 j)] ∧ ∀ y ∈ l.take j, RightP y) (fun t' _ => (l.length - RowKit.intOf (t' 8)).toNat) ?_ ?_
  · refine ⟨rfl, 0, by omega, ?_, by simp⟩
    simp only [guard_undef, List.contains_cons, List.contains_nil, Nat.reduceBEq, Int.cast_ofNat_Int, and_self, k_pend_g, pendV, go_sem, i64_wrap_id, Int.reduceAdd, Int.reduceSub, Int.reduceNeg, Int.reduceMul, Nat.reduceSub, Nat.reduceEqDiff, Nat.reduceAdd, Nat.reduceMul, Nat.reduceLeDiff, ↓reduceIte, reduceCtorEq, Int.reduceToNat, Int.reduceLT, Int.reduceLE, Int.reduceEq, slots_cons, slots_nil, Int.natCast_add, Int.natCast_succ, Int.cast_ofNat_Int]
  rintro t1 S1 Q1 ⟨rfl, j, hj, h1, hr⟩ _ hN hE
  simp only [slots_cons, slots_nil] at h1
  by_cases hjn : j = l.length
  · subst hjn
    simp only [guard_undef, List.contains_cons, List.contains_nil, Nat.reduceBEq, Int.cast_ofNat_Int, and_self, k_pend_g, pendV, go_sem, i64_wrap_id, Int.reduceAdd, Int.reduceSub, Int.reduceNeg, Int.reduceMul, Nat.reduceSub, Nat.reduceEqDiff, Nat.reduceAdd, Nat.reduceMul, Nat.reduceLeDiff, ↓reduceIte, reduceCtorEq, Int.reduceToNat, Int.reduceLT, Int.reduceLE, Int.reduceEq, h1, Int.lt_irrefl]
    refine hE _ _ _ (by simp) ?_
    simp only [guard_undef, List.contains_cons, List.contains_nil, Nat.reduceBEq, Int.cast_ofNat_Int, and_self, k_pend_g, pendV, go_sem, i64_wrap_id, Int.reduceAdd, Int.reduceSub, Int.reduceNeg, Int.reduceMul, Nat.reduceSub, Nat.reduceEqDiff, Nat.reduceAdd, Nat.reduceMul, Nat.reduceLeDiff, ↓reduceIte, reduceCtorEq, Int.reduceToNat, Int.reduceLT, Int.reduceLE, Int.reduceEq, h1]
    refine hQ _ _ _ ?_; (first | rw [k_body_ret] | rw [k_body_normal]); simp only [resVals, resVal, ev, Env.get_put, ↓reduceIte, Nat.reduceEqDiff, Option.bind_some, Option.map_some, reduceCtorEq, ldv_true, ldv_false, lloadV_agg, partL, List.toList_toArray, cellsOf_set, cellsOf_new, rd_set, rd_new, List.length_cons, List.length_nil, Nat.reduceAdd, Nat.reduceLeDiff, Nat.le_refl, List.take_succ_cons, List.take_zero, List.drop_zero, Nat.add_eq_left, Nat.left_eq_add, List.getElem?_cons_zero, List.getElem?_cons_succ, aN93, h1]; rw [retQ_some]; simp only [oneOr]
    rw [List.take_of_length_le (Nat.le_refl _)] at hr
    exact ⟨trivial, -1, rfl, by simp; exact hr⟩
  · obtain ⟨d, o, e', hv, he, hc⟩ := h.ne (by omega)
    cases hv
    have hlt : (j : Int) < l.length := by omega
    have hj0 : (0 : Int) ≤ j := by omega
    have hj1 : IntKind.i64.wrap ((j : Int) + 1) = j + 1 := wrap64_id (by omega) (by omega)
    have hjl : j < l.length := by omega
    have hcj := items_at hc j hjl
    simp only [guard_undef, List.contains_cons, List.contains_nil, Nat.reduceBEq, Int.cast_ofNat_Int, and_self, k_pend_g, pendV, go_sem, i64_wrap_id, Int.reduceAdd, Int.reduceSub, Int.reduceNeg, Int.reduceMul, Nat.reduceSub, Nat.reduceEqDiff, Nat.reduceAdd, Nat.reduceMul, Nat.reduceLeDiff, ↓reduceIte, reduceCtorEq, Int.reduceToNat, Int.reduceLT, Int.reduceLE, Int.reduceEq, h1, hlt, hj0, Int.toNat_natCast, hcj, enters79]
    refine cK_of (not79 l[j] _) ?_
    rintro v S' hS hL' ⟨rfl, c, rfl, hcc⟩
    cases c
    · simp only [guard_undef, List.contains_cons, List.contains_nil, Nat.reduceBEq, Int.cast_ofNat_Int, and_self, k_pend_g, pendV, go_sem, i64_wrap_id, Int.reduceAdd, Int.reduceSub, Int.reduceNeg, Int.reduceMul, Nat.reduceSub, Nat.reduceEqDiff, Nat.reduceAdd, Nat.reduceMul, Nat.reduceLeDiff, ↓reduceIte, reduceCtorEq, Int.reduceToNat, Int.reduceLT, Int.reduceLE, Int.reduceEq, h1, hj1]
      refine hN _ _ ⟨rfl, j + 1, by omega, ?_, ?_⟩ ?_
      · simp only [guard_undef, List.contains_cons, List.contains_nil, Nat.reduceBEq, Int.cast_ofNat_Int, and_self, k_pend_g, pendV, go_sem, i64_wrap_id, Int.reduceAdd, Int.reduceSub, Int.reduceNeg, Int.reduceMul, Nat.reduceSub, Nat.reduceEqDiff, Nat.reduceAdd, Nat.reduceMul, Nat.reduceLeDiff, ↓reduceIte, reduceCtorEq, Int.reduceToNat, Int.reduceLT, Int.reduceLE, Int.reduceEq, slots_cons, slots_nil, Int.natCast_add, Int.natCast_succ, Int.cast_ofNat_Int, h1]
      · rw [List.take_succ_eq_append_getElem hjl]
        intro y hy
        rcases List.mem_append.1 hy with hy | hy
        · exact hr y hy
        · simp at hy
          subst hy
          exact Classical.byContradiction fun hh => by have := hcc.2 hh; cases this
      · simp only [guard_undef, List.contains_cons, List.contains_nil, Nat.reduceBEq, Int.cast_ofNat_Int, and_self, k_pend_g, pendV, go_sem, i64_wrap_id, Int.reduceAdd, Int.reduceSub, Int.reduceNeg, Int.reduceMul, Nat.reduceSub, Nat.reduceEqDiff, Nat.reduceAdd, Nat.reduceMul, Nat.reduceLeDiff, ↓reduceIte, reduceCtorEq, Int.reduceToNat, Int.reduceLT, Int.reduceLE, Int.reduceEq, h1]
        simp [RowKit.intOf]
        omega
    · simp only [guard_undef, List.contains_cons, List.contains_nil, Nat.reduceBEq, Int.cast_ofNat_Int, and_self, k_pend_g, pendV, go_sem, i64_wrap_id, Int.reduceAdd, Int.reduceSub, Int.reduceNeg, Int.reduceMul, Nat.reduceSub, Nat.reduceEqDiff, Nat.reduceAdd, Nat.reduceMul, Nat.reduceLeDiff, ↓reduceIte, reduceCtorEq, Int.reduceToNat, Int.reduceLT, Int.reduceLE, Int.reduceEq, h1]
      refine hE _ _ _ (by simp) ?_
      simp only [guard_undef, List.contains_cons, List.contains_nil, Nat.reduceBEq, Int.cast_ofNat_Int, and_self, k_pend_g, pendV, go_sem, i64_wrap_id, Int.reduceAdd, Int.reduceSub, Int.reduceNeg, Int.reduceMul, Nat.reduceSub, Nat.reduceEqDiff, Nat.reduceAdd, Nat.reduceMul, Nat.reduceLeDiff, ↓reduceIte, reduceCtorEq, Int.reduceToNat, Int.reduceLT, Int.reduceLE, Int.reduceEq]
      refine hQ _ _ _ ?_; (first | rw [k_body_ret] | rw [k_body_normal]); simp only [resVals, resVal, ev, Env.get_put, ↓reduceIte, Nat.reduceEqDiff, Option.bind_some, Option.map_some, reduceCtorEq, ldv_true, ldv_false, lloadV_agg, partL, List.toList_toArray, cellsOf_set, cellsOf_new, rd_set, rd_new, List.length_cons, List.length_nil, Nat.reduceAdd, Nat.reduceLeDiff, Nat.le_refl, List.take_succ_cons, List.take_zero, List.drop_zero, Nat.add_eq_left, Nat.left_eq_add, List.getElem?_cons_zero, List.getElem?_cons_succ, aN93, h1]; rw [retQ_some]; simp only [oneOr]
      refine ⟨trivial, j, rfl, ?_⟩
      exact ⟨fun _ hall => (hcc.1 rfl) (hall _ (List.getElem_mem _)), fun _ => by omega⟩

theorem has78 (x : Value) (l : List Itm) (S : St) (h : Is S x l) (hn : l.length ≤ 1000000000) : ACalls Try.prog 78 [x, fn79] S (BoolIs (¬ ∀ y ∈ l, RightP y) S) := by
  refine ACalls.run hmix Try.func78 cN78 kN78 rfl fun hL Q hQ => ?_
  simp only [guard_undef, List.contains_cons, List.contains_nil, Nat.reduceBEq, Int.cast_ofNat_Int, and_self, k_pend_g, pendV, go_sem, i64_wrap_id, Int.reduceAdd, Int.reduceSub, Int.reduceNeg, Int.reduceMul, Nat.reduceSub, Nat.reduceEqDiff, Nat.reduceAdd, Nat.reduceMul, Nat.reduceLeDiff, ↓reduceIte, reduceCtorEq, Int.reduceToNat, Int.reduceLT, Int.reduceLE, Int.reduceEq, aN78]
  refine cK_of (index93 x l S h hn) ?_
  rintro r S' hS hL' ⟨rfl, k, rfl, hk⟩
  simp only [guard_undef, List.contains_cons, List.contains_nil, Nat.reduceBEq, Int.cast_ofNat_Int, and_self, k_pend_g, pendV, go_sem, i64_wrap_id, Int.reduceAdd, Int.reduceSub, Int.reduceNeg, Int.reduceMul, Nat.reduceSub, Nat.reduceEqDiff, Nat.reduceAdd, Nat.reduceMul, Nat.reduceLeDiff, ↓reduceIte, reduceCtorEq, Int.reduceToNat, Int.reduceLT, Int.reduceLE, Int.reduceEq]
  refine hQ _ _ _ ?_; (first | rw [k_body_ret] | rw [k_body_normal]); simp only [resVals, resVal, ev, Env.get_put, ↓reduceIte, Nat.reduceEqDiff, Option.bind_some, Option.map_some, reduceCtorEq, ldv_true, ldv_false, lloadV_agg, partL, List.toList_toArray, cellsOf_set, cellsOf_new, rd_set, rd_new, List.length_cons, List.length_nil, Nat.reduceAdd, Nat.reduceLeDiff, Nat.le_refl, List.take_succ_cons, List.take_zero, List.drop_zero, Nat.add_eq_left, Nat.left_eq_add, List.getElem?_cons_zero, List.getElem?_cons_succ, aN78]; rw [retQ_some]; simp only [oneOr]
  exact ⟨rfl, _, rfl, by rw [decide_eq_true_eq]; exact hk⟩

theorem flatB_take (l : List Itm) (j : Nat) (h : j < l.length) : flatB (l.take (j + 1)) = flatB (l.take j) ++ itmBytes l[j] := by
  unfold flatB
  rw [List.take_succ_eq_append_getElem h, List.flatMap_append, List.flatMap_cons, List.flatMap_nil, List.append_nil]
theorem rcBytes_length (r : Rc) : (rcBytes r).length = 32 := by simp [rcBytes, be64_length]
theorem itmBytes_length (x : Itm) : (itmBytes x).length ≤ 109 := by
  unfold itmBytes
  have : (if x.kind = 1 then rcBytes x.h else []).length ≤ 32 := by split <;> simp [rcBytes_length]
  simp only [List.length_append, List.length_cons, be_length, rcBytes_length, be64_length]
  omega

/-- A list's bytes. -/
theorem encode45 (x : Value) (l : List Itm) (S : St) (h : Is S x l) (hn : l.length ≤ 1000000) :
    ACalls Try.prog 45 [x] S fun r S' => KeepsAll S S' ∧ ((∀ y ∈ l, RightP y) → ∃ v, r = .tuple #[v, .int .i64 0] ∧ OwnBs S' v (itemsBytes l) ∧ Fresh S v) ∧ ((¬ ∀ y ∈ l, RightP y) → r = .tuple #[.slice none 0 0, .int .i64 1]) := by
  refine ACalls.run hmix Try.func45 cN45 kN45 rfl fun hL Q hQ => ?_
  simp only [guard_undef, List.contains_cons, List.contains_nil, Nat.reduceBEq, Int.cast_ofNat_Int, and_self, k_pend_g, pendV, go_sem, i64_wrap_id, Int.reduceAdd, Int.reduceSub, Int.reduceNeg, Int.reduceMul, Nat.reduceSub, Nat.reduceEqDiff, Nat.reduceAdd, Nat.reduceMul, Nat.reduceLeDiff, ↓reduceIte, reduceCtorEq, Int.reduceToNat, Int.reduceLT, Int.reduceLE, Int.reduceEq, aN45]
  refine cK_of (has78 x l S h (by omega)) ?_
  rintro r0 S hS hL' ⟨rfl, c, rfl, hc⟩
  cases c
  rotate_left
  · simp only [guard_undef, List.contains_cons, List.contains_nil, Nat.reduceBEq, Int.cast_ofNat_Int, and_self, k_pend_g, pendV, go_sem, i64_wrap_id, Int.reduceAdd, Int.reduceSub, Int.reduceNeg, Int.reduceMul, Nat.reduceSub, Nat.reduceEqDiff, Nat.reduceAdd, Nat.reduceMul, Nat.reduceLeDiff, ↓reduceIte, reduceCtorEq, Int.reduceToNat, Int.reduceLT, Int.reduceLE, Int.reduceEq]
    refine hQ _ _ _ ?_; (first | rw [k_body_ret] | rw [k_body_normal]); simp only [resVals, resVal, ev, Env.get_put, ↓reduceIte, Nat.reduceEqDiff, Option.bind_some, Option.map_some, reduceCtorEq, ldv_true, ldv_false, lloadV_agg, partL, List.toList_toArray, cellsOf_set, cellsOf_new, rd_set, rd_new, List.length_cons, List.length_nil, Nat.reduceAdd, Nat.reduceLeDiff, Nat.le_refl, List.take_succ_cons, List.take_zero, List.drop_zero, Nat.add_eq_left, Nat.left_eq_add, List.getElem?_cons_zero, List.getElem?_cons_succ, aN45]; rw [retQ_some]; simp only [oneOr]
    exact ⟨Keeps.refl _ _, fun hr => absurd hr (hc.1 rfl), fun _ => trivial⟩
  have hr : ∀ y ∈ l, RightP y := Classical.byContradiction fun hh => by have := hc.2 hh; cases this
  obtain ⟨a, e, rfl⟩ := h.slice
  have hk0 := Keeps.of_new S ⟨false, [.slice none 0 0]⟩ fun _ => True
  have h0 : Is (S.new ⟨false, [.slice none 0 0]⟩) (.slice a l.length e) l := Sl.keeps hL h hk0 fun _ _ => trivial
  have hw : IntKind.u32.wrap (l.length : Int) = l.length := by rw [wrap32u]; omega
  simp only [guard_undef, List.contains_cons, List.contains_nil, Nat.reduceBEq, Int.cast_ofNat_Int, and_self, k_pend_g, pendV, go_sem, i64_wrap_id, Int.reduceAdd, Int.reduceSub, Int.reduceNeg, Int.reduceMul, Nat.reduceSub, Nat.reduceEqDiff, Nat.reduceAdd, Nat.reduceMul, Nat.reduceLeDiff, ↓reduceIte, reduceCtorEq, Int.reduceToNat, Int.reduceLT, Int.reduceLE, Int.reduceEq, hw]
  refine cK_of (outFour S.next (.slice none 0 0) [] l.length _ ⟨by simp [St.blk_new], .inl ⟨rfl, rfl, rfl⟩, by simp [Value.blkOf]⟩ (by omega) (by omega) (by simp)) ?_
  rintro r1 S1 hS1 hL1 hP
  obtain ⟨rfl, d1, hO1, s1⟩ := hP
  rw [List.nil_append] at hO1
  have hkeep : KeepsAll S S1 := hk0.trans s1.keep fun i hi _ => ⟨by omega, by simp [Value.blkOf]⟩
  simp only [guard_undef, List.contains_cons, List.contains_nil, Nat.reduceBEq, Int.cast_ofNat_Int, and_self, k_pend_g, pendV, go_sem, i64_wrap_id, Int.reduceAdd, Int.reduceSub, Int.reduceNeg, Int.reduceMul, Nat.reduceSub, Nat.reduceEqDiff, Nat.reduceAdd, Nat.reduceMul, Nat.reduceLeDiff, ↓reduceIte, reduceCtorEq, Int.reduceToNat, Int.reduceLT, Int.reduceLE, Int.reduceEq]
  have hd1 : ∀ i, i < S.next → Off d1 i := fun i hi e => by
    rcases s1.data i e with hh | hh
    · simp [Value.blkOf] at hh
    · simp [St.next_new] at hh; omega
  have hks : ∀ S2 d2, OutStep S1 S.next d1 S2 d2 → KeepsAll S S2 := fun S2 d2 hs => hkeep.trans hs.keep fun i hi _ => ⟨by omega, hd1 i hi⟩
  refine lK_of (fun t' S2 => ∃ (j : Nat) (d2 : Value), j ≤ l.length ∧ Slots t' [(4, ptr S.next), (13, .slice a l.length e), (14, .int .i64 l.length), (15, .int .i64 j)] ∧ Live S2 ∧ IsOut S2 S.next d2 (be (l.length : Int) 4 ++ flatB (l.take j)) ∧ OutStep S1 S.next d1 S2 d2)
    (fun t' _ => (l.length - RowKit.intOf (t' 15)).toNat) ?_ ?_
  · refine ⟨0, d1, by omega, ?_, hL1, by simpa [flatB] using hO1, OutStep.refl _ _ _⟩
    simp only [guard_undef, List.contains_cons, List.contains_nil, Nat.reduceBEq, Int.cast_ofNat_Int, and_self, k_pend_g, pendV, go_sem, i64_wrap_id, Int.reduceAdd, Int.reduceSub, Int.reduceNeg, Int.reduceMul, Nat.reduceSub, Nat.reduceEqDiff, Nat.reduceAdd, Nat.reduceMul, Nat.reduceLeDiff, ↓reduceIte, reduceCtorEq, Int.reduceToNat, Int.reduceLT, Int.reduceLE, Int.reduceEq, slots_cons, slots_nil, Int.natCast_add, Int.natCast_succ, Int.cast_ofNat_Int]
  rintro t1 S2 Q1 ⟨j, d2, hj, h1, hL2, hO2, s2⟩ _ hN hE
  simp only [slots_cons, slots_nil] at h1
  have hfl := flatMap_length_le itmBytes 109 itmBytes_length (l.take j)
  have htl : (l.take j).length ≤ l.length := by simp; omega
  have hfl2 : (be (l.length : Int) 4 ++ flatB (l.take j)).length ≤ 109000004 := by
    unfold flatB
    rw [List.length_append, be_length]
    omega
  by_cases hjn : j = l.length
  · subst hjn
    simp only [guard_undef, List.contains_cons, List.contains_nil, Nat.reduceBEq, Int.cast_ofNat_Int, and_self, k_pend_g, pendV, go_sem, i64_wrap_id, Int.reduceAdd, Int.reduceSub, Int.reduceNeg, Int.reduceMul, Nat.reduceSub, Nat.reduceEqDiff, Nat.reduceAdd, Nat.reduceMul, Nat.reduceLeDiff, ↓reduceIte, reduceCtorEq, Int.reduceToNat, Int.reduceLT, Int.reduceLE, Int.reduceEq, h1, Int.lt_irrefl]
    refine hE _ _ _ (by simp) ?_
    rw [List.take_of_length_le (Nat.le_refl _)] at hO2 hfl2
    simp only [guard_undef, List.contains_cons, List.contains_nil, Nat.reduceBEq, Int.cast_ofNat_Int, and_self, k_pend_g, pendV, go_sem, i64_wrap_id, Int.reduceAdd, Int.reduceSub, Int.reduceNeg, Int.reduceMul, Nat.reduceSub, Nat.reduceEqDiff, Nat.reduceAdd, Nat.reduceMul, Nat.reduceLeDiff, ↓reduceIte, reduceCtorEq, Int.reduceToNat, Int.reduceLT, Int.reduceLE, Int.reduceEq, h1]
    refine cK_of (outBytes S.next d2 _ S2 hO2 (by omega)) ?_
    rintro v S3 hS3 hL3 ⟨hO3, hK3, hF3⟩
    simp only [guard_undef, List.contains_cons, List.contains_nil, Nat.reduceBEq, Int.cast_ofNat_Int, and_self, k_pend_g, pendV, go_sem, i64_wrap_id, Int.reduceAdd, Int.reduceSub, Int.reduceNeg, Int.reduceMul, Nat.reduceSub, Nat.reduceEqDiff, Nat.reduceAdd, Nat.reduceMul, Nat.reduceLeDiff, ↓reduceIte, reduceCtorEq, Int.reduceToNat, Int.reduceLT, Int.reduceLE, Int.reduceEq, h1]
    refine hQ _ _ _ ?_; (first | rw [k_body_ret] | rw [k_body_normal]); simp only [resVals, resVal, ev, Env.get_put, ↓reduceIte, Nat.reduceEqDiff, Option.bind_some, Option.map_some, reduceCtorEq, ldv_true, ldv_false, lloadV_agg, partL, List.toList_toArray, cellsOf_set, cellsOf_new, rd_set, rd_new, List.length_cons, List.length_nil, Nat.reduceAdd, Nat.reduceLeDiff, Nat.le_refl, List.take_succ_cons, List.take_zero, List.drop_zero, Nat.add_eq_left, Nat.left_eq_add, List.getElem?_cons_zero, List.getElem?_cons_succ, aN45, h1]; rw [retQ_some]; simp only [oneOr]
    refine ⟨(hks S2 d2 s2).trans hK3 fun _ _ _ => trivial, fun _ => ⟨v, rfl, hO3, fun i hi => ?_⟩, fun hh => absurd hr hh⟩
    have := hF3 i hi
    have := (hks S2 d2 s2).1
    omega
  have hjl : j < l.length := by omega
  have hS2 : Is S2 (.slice a l.length e) l := Sl.keeps hL h (hks S2 d2 s2) fun _ _ => trivial
  obtain ⟨d, o, e', hv, he, hcc⟩ := hS2.ne (by omega)
  cases hv
  have hlt : (j : Int) < l.length := by omega
  have hj0 : (0 : Int) ≤ j := by omega
  have hj1 : IntKind.i64.wrap ((j : Int) + 1) = j + 1 := wrap64_id (by omega) (by omega)
  have hcj := items_at hcc j hjl
  obtain ⟨y, hy⟩ : ∃ y, y = l[j] := ⟨_, rfl⟩
  have hry : RightP y := by rw [hy]; exact hr _ (List.getElem_mem _)
  have hft := flatB_take l j hjl
  rw [← hy] at hcj hft
  obtain ⟨⟨p1, p2, p3, p4⟩, ⟨p5, p6, p7⟩, p8⟩ := hry
  have hwn : IntKind.u32.wrap y.node = y.node := by rw [wrap32u]; omega
  have hkr : 0 ≤ y.kind ∧ y.kind ≤ 1 := by rcases p8 with p8 | ⟨p8, _⟩ <;> omega
  have hwk : IntKind.u8.wrap y.kind = y.kind := by rw [wrap8]; omega
  unfold Itm.cells at hcj
  obtain ⟨X, hX⟩ : ∃ X, X = be (l.length : Int) 4 ++ flatB (l.take j) := ⟨_, rfl⟩
  rw [← hX] at hO2 hfl2
  have hlr := rcBytes_length
  simp only [guard_undef, List.contains_cons, List.contains_nil, Nat.reduceBEq, Int.cast_ofNat_Int, and_self, k_pend_g, pendV, go_sem, i64_wrap_id, Int.reduceAdd, Int.reduceSub, Int.reduceNeg, Int.reduceMul, Nat.reduceSub, Nat.reduceEqDiff, Nat.reduceAdd, Nat.reduceMul, Nat.reduceLeDiff, ↓reduceIte, reduceCtorEq, Int.reduceToNat, Int.reduceLT, Int.reduceLE, Int.reduceEq, h1, hlt, hj0, Int.toNat_natCast, hcj, hwn, hwk]
  refine cK_of (outFour S.next d2 _ y.node S2 hO2 (by omega) (by omega) (by omega)) ?_
  rintro r3 S3 hS3 hL3 hP
  obtain ⟨rfl, d3, hO3, s3⟩ := hP
  simp only [guard_undef, List.contains_cons, List.contains_nil, Nat.reduceBEq, Int.cast_ofNat_Int, and_self, k_pend_g, pendV, go_sem, i64_wrap_id, Int.reduceAdd, Int.reduceSub, Int.reduceNeg, Int.reduceMul, Nat.reduceSub, Nat.reduceEqDiff, Nat.reduceAdd, Nat.reduceMul, Nat.reduceLeDiff, ↓reduceIte, reduceCtorEq, Int.reduceToNat, Int.reduceLT, Int.reduceLE, Int.reduceEq, h1, hwk]
  (first | refine cK_keep [4,6,13,14,15] fun t1 hk' => ?_ | refine lK_keep [4,6,13,14,15] fun t1 hk' => ?_ | refine iK_keep [4,6,13,14,15] fun t1 hk' => ?_ | refine hK_keep [4,6,13,14,15] fun t1 hk' => ?_); simp only [guard_undef, List.contains_cons, List.contains_nil, Nat.reduceBEq, Int.cast_ofNat_Int, and_self, k_pend_g, pendV, go_sem, i64_wrap_id, Int.reduceAdd, Int.reduceSub, Int.reduceNeg, Int.reduceMul, Nat.reduceSub, Nat.reduceEqDiff, Nat.reduceAdd, Nat.reduceMul, Nat.reduceLeDiff, ↓reduceIte, reduceCtorEq, Int.reduceToNat, Int.reduceLT, Int.reduceLE, Int.reduceEq, keepL_cons, keepL_nil, slots_cons, slots_nil, h1] at hk'; have hk := hk'; clear hk'
  refine cK_of (outByte S.next d3 _ y.kind S3 hO3 (by omega) (by omega) (by simp only [List.length_append, be_length]; omega)) ?_
  rintro r4 S4 hS4 hL4 hP
  obtain ⟨rfl, d4, hO4, s4⟩ := hP
  simp only [guard_undef, List.contains_cons, List.contains_nil, Nat.reduceBEq, Int.cast_ofNat_Int, and_self, k_pend_g, pendV, go_sem, i64_wrap_id, Int.reduceAdd, Int.reduceSub, Int.reduceNeg, Int.reduceMul, Nat.reduceSub, Nat.reduceEqDiff, Nat.reduceAdd, Nat.reduceMul, Nat.reduceLeDiff, ↓reduceIte, reduceCtorEq, Int.reduceToNat, Int.reduceLT, Int.reduceLE, Int.reduceEq, hk]
  refine cK_of (put80 S.next d4 _ y.r S4 hO4 (by simp only [List.length_append, be_length, List.length_cons, List.length_nil]; omega)) ?_
  rintro r5 S5 hS5 hL5 hP
  obtain ⟨rfl, d5, hO5, s5⟩ := hP
  have s5' := ((s2.trans s3).trans s4).trans s5
  simp only [guard_undef, List.contains_cons, List.contains_nil, Nat.reduceBEq, Int.cast_ofNat_Int, and_self, k_pend_g, pendV, go_sem, i64_wrap_id, Int.reduceAdd, Int.reduceSub, Int.reduceNeg, Int.reduceMul, Nat.reduceSub, Nat.reduceEqDiff, Nat.reduceAdd, Nat.reduceMul, Nat.reduceLeDiff, ↓reduceIte, reduceCtorEq, Int.reduceToNat, Int.reduceLT, Int.reduceLE, Int.reduceEq, hk]
  obtain ⟨X5, hX5⟩ : ∃ X5, X5 = ((X ++ be y.node 4) ++ [y.kind]) ++ rcBytes y.r := ⟨_, rfl⟩
  rw [← hX5] at hO5
  have hX5l : X5.length ≤ 109000050 := by rw [hX5]; simp only [List.length_append, be_length, List.length_cons, List.length_nil]; have := hlr y.r; omega
  refine iK_cut (fun t' S' => ∃ d6, Slots t' [(4, t1 4), (6, t1 6), (13, t1 13), (14, t1 14), (15, t1 15)] ∧ Live S' ∧ IsOut S' S.next d6 (X5 ++ (if y.kind = 1 then rcBytes y.h else [])) ∧ OutStep S1 S.next d1 S' d6) (fun Q6 hN6 hE6 => iK_split (fun hc => ?_) (fun hc => ?_)) ?_
  · have hk1 : y.kind = 1 := by simpa using hc
    simp only [guard_undef, List.contains_cons, List.contains_nil, Nat.reduceBEq, Int.cast_ofNat_Int, and_self, k_pend_g, pendV, go_sem, i64_wrap_id, Int.reduceAdd, Int.reduceSub, Int.reduceNeg, Int.reduceMul, Nat.reduceSub, Nat.reduceEqDiff, Nat.reduceAdd, Nat.reduceMul, Nat.reduceLeDiff, ↓reduceIte, reduceCtorEq, Int.reduceToNat, Int.reduceLT, Int.reduceLE, Int.reduceEq, hk]
    refine cK_of (put80 S.next d5 _ y.h S5 hO5 (by omega)) ?_
    rintro r6 S6 hS6 hL6 hP
    obtain ⟨rfl, d6, hO6, s6⟩ := hP
    simp only [guard_undef, List.contains_cons, List.contains_nil, Nat.reduceBEq, Int.cast_ofNat_Int, and_self, k_pend_g, pendV, go_sem, i64_wrap_id, Int.reduceAdd, Int.reduceSub, Int.reduceNeg, Int.reduceMul, Nat.reduceSub, Nat.reduceEqDiff, Nat.reduceAdd, Nat.reduceMul, Nat.reduceLeDiff, ↓reduceIte, reduceCtorEq, Int.reduceToNat, Int.reduceLT, Int.reduceLE, Int.reduceEq, hk]
    refine hN6 _ _ ⟨d6, ?_, hL6, by rw [if_pos hk1]; exact hO6, s5'.trans s6⟩
    simp only [guard_undef, List.contains_cons, List.contains_nil, Nat.reduceBEq, Int.cast_ofNat_Int, and_self, k_pend_g, pendV, go_sem, i64_wrap_id, Int.reduceAdd, Int.reduceSub, Int.reduceNeg, Int.reduceMul, Nat.reduceSub, Nat.reduceEqDiff, Nat.reduceAdd, Nat.reduceMul, Nat.reduceLeDiff, ↓reduceIte, reduceCtorEq, Int.reduceToNat, Int.reduceLT, Int.reduceLE, Int.reduceEq, slots_cons, slots_nil, Int.natCast_add, Int.natCast_succ, Int.cast_ofNat_Int, hk]
  · have hk1 : ¬ y.kind = 1 := by simpa using hc
    simp only [guard_undef, List.contains_cons, List.contains_nil, Nat.reduceBEq, Int.cast_ofNat_Int, and_self, k_pend_g, pendV, go_sem, i64_wrap_id, Int.reduceAdd, Int.reduceSub, Int.reduceNeg, Int.reduceMul, Nat.reduceSub, Nat.reduceEqDiff, Nat.reduceAdd, Nat.reduceMul, Nat.reduceLeDiff, ↓reduceIte, reduceCtorEq, Int.reduceToNat, Int.reduceLT, Int.reduceLE, Int.reduceEq, hk]
    refine hN6 _ _ ⟨d5, ?_, hL5, by rw [if_neg hk1, List.append_nil]; exact hO5, s5'⟩
    simp only [guard_undef, List.contains_cons, List.contains_nil, Nat.reduceBEq, Int.cast_ofNat_Int, and_self, k_pend_g, pendV, go_sem, i64_wrap_id, Int.reduceAdd, Int.reduceSub, Int.reduceNeg, Int.reduceMul, Nat.reduceSub, Nat.reduceEqDiff, Nat.reduceAdd, Nat.reduceMul, Nat.reduceLeDiff, ↓reduceIte, reduceCtorEq, Int.reduceToNat, Int.reduceLT, Int.reduceLE, Int.reduceEq, slots_cons, slots_nil, Int.natCast_add, Int.natCast_succ, Int.cast_ofNat_Int, hk]
  rintro t6 S6 ⟨d6, h6, hL6, hO6, s6⟩
  simp only [slots_cons, slots_nil, hk] at h6
  clear hk
  have hzl : (if y.kind = 1 then rcBytes y.h else []).length ≤ 32 := by split <;> simp [rcBytes_length]
  simp only [guard_undef, List.contains_cons, List.contains_nil, Nat.reduceBEq, Int.cast_ofNat_Int, and_self, k_pend_g, pendV, go_sem, i64_wrap_id, Int.reduceAdd, Int.reduceSub, Int.reduceNeg, Int.reduceMul, Nat.reduceSub, Nat.reduceEqDiff, Nat.reduceAdd, Nat.reduceMul, Nat.reduceLeDiff, ↓reduceIte, reduceCtorEq, Int.reduceToNat, Int.reduceLT, Int.reduceLE, Int.reduceEq, h6]
  refine cK_of (put80 S.next d6 _ y.c S6 hO6 (by simp only [List.length_append]; omega)) ?_
  rintro r7 S7 hS7 hL7 hP
  obtain ⟨rfl, d7, hO7, s7⟩ := hP
  simp only [guard_undef, List.contains_cons, List.contains_nil, Nat.reduceBEq, Int.cast_ofNat_Int, and_self, k_pend_g, pendV, go_sem, i64_wrap_id, Int.reduceAdd, Int.reduceSub, Int.reduceNeg, Int.reduceMul, Nat.reduceSub, Nat.reduceEqDiff, Nat.reduceAdd, Nat.reduceMul, Nat.reduceLeDiff, ↓reduceIte, reduceCtorEq, Int.reduceToNat, Int.reduceLT, Int.reduceLE, Int.reduceEq, h6]
  refine cK_of (outEight S.next d7 _ y.color S7 hO7 (by simp only [List.length_append, hlr]; omega)) ?_
  rintro r8 S8 hS8 hL8 hP
  obtain ⟨rfl, d8, hO8, s8⟩ := hP
  simp only [guard_undef, List.contains_cons, List.contains_nil, Nat.reduceBEq, Int.cast_ofNat_Int, and_self, k_pend_g, pendV, go_sem, i64_wrap_id, Int.reduceAdd, Int.reduceSub, Int.reduceNeg, Int.reduceMul, Nat.reduceSub, Nat.reduceEqDiff, Nat.reduceAdd, Nat.reduceMul, Nat.reduceLeDiff, ↓reduceIte, reduceCtorEq, Int.reduceToNat, Int.reduceLT, Int.reduceLE, Int.reduceEq, h6, hj1]
  refine hN _ _ ⟨j + 1, d8, by omega, ?_, hL8, ?_, (s6.trans s7).trans s8⟩ ?_
  · simp only [guard_undef, List.contains_cons, List.contains_nil, Nat.reduceBEq, Int.cast_ofNat_Int, and_self, k_pend_g, pendV, go_sem, i64_wrap_id, Int.reduceAdd, Int.reduceSub, Int.reduceNeg, Int.reduceMul, Nat.reduceSub, Nat.reduceEqDiff, Nat.reduceAdd, Nat.reduceMul, Nat.reduceLeDiff, ↓reduceIte, reduceCtorEq, Int.reduceToNat, Int.reduceLT, Int.reduceLE, Int.reduceEq, slots_cons, slots_nil, Int.natCast_add, Int.natCast_succ, Int.cast_ofNat_Int, h6]
  · have e : be (l.length : Int) 4 ++ flatB (l.take (j + 1)) = ((X5 ++ (if y.kind = 1 then rcBytes y.h else [])) ++ rcBytes y.c) ++ be64 y.color := by
      rw [hft, hX5, hX]
      unfold itmBytes
      simp only [List.append_assoc, List.cons_append, List.nil_append]
    rw [e]
    exact hO8
  · simp only [guard_undef, List.contains_cons, List.contains_nil, Nat.reduceBEq, Int.cast_ofNat_Int, and_self, k_pend_g, pendV, go_sem, i64_wrap_id, Int.reduceAdd, Int.reduceSub, Int.reduceNeg, Int.reduceMul, Nat.reduceSub, Nat.reduceEqDiff, Nat.reduceAdd, Nat.reduceMul, Nat.reduceLeDiff, ↓reduceIte, reduceCtorEq, Int.reduceToNat, Int.reduceLT, Int.reduceLE, Int.reduceEq, h6, h1]
    simp [RowKit.intOf]
    omega
end Go.Proofs.Ytbgnaeagdneikaa
