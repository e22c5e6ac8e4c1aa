/- Trees: steps up. -/
import Derived.Test.YtbgnaeagdneikaaT0
import Derived.Test.YtbgnaeagdneikaaP2
import Derived.Test.YtbgnaeagdneikaaSeatKKT
-- pp: new
namespace Go.Proofs.Ytbgnaeagdneikaa
open Go Go.Proofs.Ytbgnaeagdneikaa.Abs
set_option linter.unusedSimpArgs false
set_option linter.unusedVariables false

theorem Nd.cells_length {x : Nd} (h : x.Ok) : x.cells.length = 49 := by unfold Nd.cells; rw [List.length_append, h.s.len]; rfl
theorem ndCells_length : ∀ (l : List Nd), (∀ x ∈ l, x.Ok) → (ndCells l).length = l.length * 49
  | [], _ => rfl
  | x :: l, h => by
    have := ndCells_length l fun y hy => h y (by simp [hy])
    unfold ndCells at this ⊢
    rw [List.flatMap_cons, List.length_append, this, List.length_cons, Nd.cells_length (h x (by simp))]
    omega
theorem ndCells_at : ∀ (l : List Nd) (hk : ∀ x ∈ l, x.Ok) (j : Nat) (h : j < l.length), ((ndCells l).drop (j * 49)).take 49 = l[j].cells
  | x :: l, hk, 0, _ => by
    have e : ndCells (x :: l) = x.cells ++ ndCells l := by simp [ndCells]
    rw [e, Nat.zero_mul, List.drop_zero]
    exact List.take_left' (Nd.cells_length (hk x (by simp)))
  | x :: l, hk, j + 1, h => by
    have := ndCells_at l (fun y hy => hk y (by simp [hy])) j (by simpa using h)
    rw [Nat.succ_mul, Nat.add_comm, ← List.drop_drop]
    have e : (ndCells (x :: l)).drop 49 = ndCells l := by unfold ndCells; rw [List.flatMap_cons]; exact List.drop_left' (Nd.cells_length (hk x (by simp)))
    rw [e, this]
    rfl
/-- A slice of nodes. -/
def Ns (S : St) (v : Value) (l : List Nd) : Prop := Sl S 49 v l.length (ndCells l)
theorem nodes_at {S : St} {d o : Nat} {l : List Nd} (hk : ∀ x ∈ l, x.Ok) (h : cellsOf S d o (l.length * 49) = some (ndCells l)) (j : Nat) (hj : j < l.length) : cellsOf S d (o + j * 49) 49 = some l[j].cells := by
  rw [cellsOf_of_cells h (by omega), ndCells_at l hk j hj]
theorem style_at {S : St} {d o : Nat} {l : List Nd} (hk : ∀ x ∈ l, x.Ok) (h : cellsOf S d o (l.length * 49) = some (ndCells l)) (j : Nat) (hj : j < l.length) : cellsOf S d (o + j * 49) 48 = some l[j].s.cells := by
  have h1 := nodes_at hk h j hj
  have := cellsOf_of_cells (j := 0) (n := 48) h1 (by omega)
  rw [Nat.add_zero, List.drop_zero] at this
  rw [this]
  unfold Nd.cells
  rw [List.take_left' (hk _ (List.getElem_mem hj)).s.len]
theorem par_at {S : St} {d o : Nat} {l : List Nd} (hk : ∀ x ∈ l, x.Ok) (h : cellsOf S d o (l.length * 49) = some (ndCells l)) (j : Nat) (hj : j < l.length) : rd S d (o + j * 49 + 48) = some (.int .i64 (par l j)) := by
  rw [rd_of_cells (nodes_at hk h j hj) (by omega), par_get hj]
  unfold Nd.cells
  rw [List.getElem?_append_right (by rw [(hk _ (List.getElem_mem hj)).s.len]; omega), (hk _ (List.getElem_mem hj)).s.len]
  rfl

set_option maxHeartbeats 2000000 in
theorem up83 (x : Value) (l : List Nd) (k : Nat) (S : St) (h : Ns S x l) (hok : ∀ x ∈ l, x.Ok) (hk : k < l.length) (hn : l.length ≤ 1000000) (ht : Tr (par l) k) :
    ACalls Try.prog 83 [x, .int .i64 k] S fun r S' => S' = S ∧ r = match posOf (par l k) (chain (par l) ((k : Int) - 1)) with | some n => .tuple #[.int .i64 n, .bool true] | none => .tuple #[.int .i64 0, .bool false] := by
  refine ACalls.run hmix Try.func83 cN83 kN83 rfl fun hL Q hQ => ?_
  obtain ⟨d, o, e, rfl, he, hc⟩ := h.ne (by omega)
  have hw : IntKind.i64.wrap ((k : Int) - 1) = k - 1 := wrap64_id (by omega) (by omega)
  simp only [guard_undef, List.contains_cons, List.contains_nil, Nat.reduceBEq, Int.cast_ofNat_Int, and_self, k_pend_g, pendV, go_sem, i64_wrap_id, Int.reduceAdd, Int.reduceSub, Int.reduceNeg, Int.reduceMul, Nat.reduceSub, Nat.reduceEqDiff, Nat.reduceAdd, Nat.reduceMul, Nat.reduceLeDiff, ↓reduceIte, reduceCtorEq, Int.reduceToNat, Int.reduceLT, Int.reduceLE, Int.reduceEq, aN83, hw]
  refine lK_of (fun t' S' => S' = S ∧ ∃ (a : Int) (n : Nat), -1 ≤ a ∧ a + n ≤ (k : Int) - 1 ∧ posOf (par l k) (chain (par l) ((k : Int) - 1)) = (posOf (par l k) (chain (par l) a)).map (· + n) ∧ Slots t' [(0, .slice (some ⟨d, o, none⟩) l.length e), (1, .int .i64 k), (6, .int .i64 n), (7, .int .i64 a)]) (fun t' _ => (RowKit.intOf (t' 7) + 1).toNat) ?_ ?_
  · refine ⟨rfl, (k : Int) - 1, 0, by omega, by omega, by simp, ?_⟩
    simp only [guard_undef, List.contains_cons, List.contains_nil, Nat.reduceBEq, Int.cast_ofNat_Int, and_self, k_pend_g, pendV, go_sem, i64_wrap_id, Int.reduceAdd, Int.reduceSub, Int.reduceNeg, Int.reduceMul, Nat.reduceSub, Nat.reduceEqDiff, Nat.reduceAdd, Nat.reduceMul, Nat.reduceLeDiff, ↓reduceIte, reduceCtorEq, Int.reduceToNat, Int.reduceLT, Int.reduceLE, Int.reduceEq, slots_cons, slots_nil, Int.natCast_add, Int.natCast_succ, Int.cast_ofNat_Int]
  rintro t1 S1 Q1 ⟨rfl, a, n, h1, h2, h3, hs⟩ _ hN hE
  simp only [slots_cons, slots_nil] at hs
  by_cases ha : a < 0
  · have hg : ¬ (0 ≤ a) := by omega
    simp only [guard_undef, List.contains_cons, List.contains_nil, Nat.reduceBEq, Int.cast_ofNat_Int, and_self, k_pend_g, pendV, go_sem, i64_wrap_id, Int.reduceAdd, Int.reduceSub, Int.reduceNeg, Int.reduceMul, Nat.reduceSub, Nat.reduceEqDiff, Nat.reduceAdd, Nat.reduceMul, Nat.reduceLeDiff, ↓reduceIte, reduceCtorEq, Int.reduceToNat, Int.reduceLT, Int.reduceLE, Int.reduceEq, hs, hg]
    refine hE _ _ _ (by simp) ?_
    simp only [guard_undef, List.contains_cons, List.contains_nil, Nat.reduceBEq, Int.cast_ofNat_Int, and_self, k_pend_g, pendV, go_sem, i64_wrap_id, Int.reduceAdd, Int.reduceSub, Int.reduceNeg, Int.reduceMul, Nat.reduceSub, Nat.reduceEqDiff, Nat.reduceAdd, Nat.reduceMul, Nat.reduceLeDiff, ↓reduceIte, reduceCtorEq, Int.reduceToNat, Int.reduceLT, Int.reduceLE, Int.reduceEq, hs]
    refine hQ _ _ _ ?_; (first | rw [k_body_ret] | rw [k_body_normal]); simp only [resVals, resVal, ev, Env.get_put, ↓reduceIte, Nat.reduceEqDiff, Option.bind_some, Option.map_some, reduceCtorEq, ldv_true, ldv_false, lloadV_agg, partL, List.toList_toArray, cellsOf_set, cellsOf_new, rd_set, rd_new, List.length_cons, List.length_nil, Nat.reduceAdd, Nat.reduceLeDiff, Nat.le_refl, List.take_succ_cons, List.take_zero, List.drop_zero, Nat.add_eq_left, Nat.left_eq_add, List.getElem?_cons_zero, List.getElem?_cons_succ, aN83, hs]; rw [retQ_some]; simp only [oneOr]
    rw [h3, chain_neg _ ha]
    simp [posOf]
  have hg : 0 ≤ a := by omega
  obtain ⟨j, rfl⟩ : ∃ j : Nat, a = j := ⟨a.toNat, by omega⟩
  have hjk : j < l.length := by omega
  have hjl : (j : Int) < l.length := by omega
  have hkl : (k : Int) < l.length := by omega
  have hk0 : (0 : Int) ≤ k := by omega
  have hpk := par_at hok hc k hk
  have hpj := par_at hok hc j hjk
  have htj := ht j (by omega)
  have hch := chain_pos ht (a := (j : Int)) (by omega) (by omega)
  rw [Int.toNat_natCast] at hch
  rw [hch, posOf] at h3
  have hw1 : IntKind.i64.wrap ((n : Int) + 1) = n + 1 := wrap64_id (by omega) (by omega)
  by_cases hp : (j : Int) = par l k
  · have hpe : ((j : Int) == par l k) = true := by simpa using hp
    rw [if_pos hp] at h3
    simp only [guard_undef, List.contains_cons, List.contains_nil, Nat.reduceBEq, Int.cast_ofNat_Int, and_self, k_pend_g, pendV, go_sem, i64_wrap_id, Int.reduceAdd, Int.reduceSub, Int.reduceNeg, Int.reduceMul, Nat.reduceSub, Nat.reduceEqDiff, Nat.reduceAdd, Nat.reduceMul, Nat.reduceLeDiff, ↓reduceIte, reduceCtorEq, Int.reduceToNat, Int.reduceLT, Int.reduceLE, Int.reduceEq, hs, hg, hkl, hk0, Int.toNat_natCast, hpk, hpe]
    refine hE _ _ _ (by simp) ?_
    simp only [guard_undef, List.contains_cons, List.contains_nil, Nat.reduceBEq, Int.cast_ofNat_Int, and_self, k_pend_g, pendV, go_sem, i64_wrap_id, Int.reduceAdd, Int.reduceSub, Int.reduceNeg, Int.reduceMul, Nat.reduceSub, Nat.reduceEqDiff, Nat.reduceAdd, Nat.reduceMul, Nat.reduceLeDiff, ↓reduceIte, reduceCtorEq, Int.reduceToNat, Int.reduceLT, Int.reduceLE, Int.reduceEq, hs]
    refine hQ _ _ _ ?_; (first | rw [k_body_ret] | rw [k_body_normal]); simp only [resVals, resVal, ev, Env.get_put, ↓reduceIte, Nat.reduceEqDiff, Option.bind_some, Option.map_some, reduceCtorEq, ldv_true, ldv_false, lloadV_agg, partL, List.toList_toArray, cellsOf_set, cellsOf_new, rd_set, rd_new, List.length_cons, List.length_nil, Nat.reduceAdd, Nat.reduceLeDiff, Nat.le_refl, List.take_succ_cons, List.take_zero, List.drop_zero, Nat.add_eq_left, Nat.left_eq_add, List.getElem?_cons_zero, List.getElem?_cons_succ, aN83, hs]; rw [retQ_some]; simp only [oneOr]
    rw [h3]
    simp
  · have hpe : ((j : Int) == par l k) = false := by simpa using hp
    rw [if_neg hp] at h3
    simp only [guard_undef, List.contains_cons, List.contains_nil, Nat.reduceBEq, Int.cast_ofNat_Int, and_self, k_pend_g, pendV, go_sem, i64_wrap_id, Int.reduceAdd, Int.reduceSub, Int.reduceNeg, Int.reduceMul, Nat.reduceSub, Nat.reduceEqDiff, Nat.reduceAdd, Nat.reduceMul, Nat.reduceLeDiff, ↓reduceIte, reduceCtorEq, Int.reduceToNat, Int.reduceLT, Int.reduceLE, Int.reduceEq, hs, hg, hkl, hk0, Int.toNat_natCast, hpk, hpe, hw1, hjl, hpj]
    refine hN _ _ ⟨rfl, par l j, n + 1, by omega, by omega, ?_, ?_⟩ ?_
    · rw [h3, Option.map_map]
      congr 1
      funext q
      simp
      omega
    · simp only [guard_undef, List.contains_cons, List.contains_nil, Nat.reduceBEq, Int.cast_ofNat_Int, and_self, k_pend_g, pendV, go_sem, i64_wrap_id, Int.reduceAdd, Int.reduceSub, Int.reduceNeg, Int.reduceMul, Nat.reduceSub, Nat.reduceEqDiff, Nat.reduceAdd, Nat.reduceMul, Nat.reduceLeDiff, ↓reduceIte, reduceCtorEq, Int.reduceToNat, Int.reduceLT, Int.reduceLE, Int.reduceEq, slots_cons, slots_nil, Int.natCast_add, Int.natCast_succ, Int.cast_ofNat_Int, hs]
    · simp only [guard_undef, List.contains_cons, List.contains_nil, Nat.reduceBEq, Int.cast_ofNat_Int, and_self, k_pend_g, pendV, go_sem, i64_wrap_id, Int.reduceAdd, Int.reduceSub, Int.reduceNeg, Int.reduceMul, Nat.reduceSub, Nat.reduceEqDiff, Nat.reduceAdd, Nat.reduceMul, Nat.reduceLeDiff, ↓reduceIte, reduceCtorEq, Int.reduceToNat, Int.reduceLT, Int.reduceLE, Int.reduceEq, hs]
      simp [RowKit.intOf]
      omega

set_option maxHeartbeats 2000000 in
theorem above94 (x : Value) (l : List Nd) (p a : Int) (k : Nat) (S : St) (h : Ns S x l) (hok : ∀ x ∈ l, x.Ok) (hk : k ≤ l.length) (ht : Tr (par l) k) (h0 : -1 ≤ a) (ha : a < k) :
    ACalls Try.prog 94 [x, .int .i64 p, .int .i64 a] S (BoolIs (p ∈ chain (par l) a) S) := by
  refine ACalls.run hmix Try.func94 cN94 kN94 rfl fun hL Q hQ => ?_
  obtain ⟨b, e, rfl⟩ := Sl.slice h
  simp only [guard_undef, List.contains_cons, List.contains_nil, Nat.reduceBEq, Int.cast_ofNat_Int, and_self, k_pend_g, pendV, go_sem, i64_wrap_id, Int.reduceAdd, Int.reduceSub, Int.reduceNeg, Int.reduceMul, Nat.reduceSub, Nat.reduceEqDiff, Nat.reduceAdd, Nat.reduceMul, Nat.reduceLeDiff, ↓reduceIte, reduceCtorEq, Int.reduceToNat, Int.reduceLT, Int.reduceLE, Int.reduceEq, aN94]
  refine lK_of (fun t' S' => S' = S ∧ ∃ (c : Int), -1 ≤ c ∧ c < k ∧ (p ∈ chain (par l) a ↔ p ∈ chain (par l) c) ∧ Slots t' [(0, .slice b l.length e), (1, .int .i64 p), (2, .int .i64 c)]) (fun t' _ => (RowKit.intOf (t' 2) + 1).toNat) ?_ ?_
  · refine ⟨rfl, a, h0, ha, Iff.rfl, ?_⟩
    simp only [guard_undef, List.contains_cons, List.contains_nil, Nat.reduceBEq, Int.cast_ofNat_Int, and_self, k_pend_g, pendV, go_sem, i64_wrap_id, Int.reduceAdd, Int.reduceSub, Int.reduceNeg, Int.reduceMul, Nat.reduceSub, Nat.reduceEqDiff, Nat.reduceAdd, Nat.reduceMul, Nat.reduceLeDiff, ↓reduceIte, reduceCtorEq, Int.reduceToNat, Int.reduceLT, Int.reduceLE, Int.reduceEq, slots_cons, slots_nil, Int.natCast_add, Int.natCast_succ, Int.cast_ofNat_Int]
  rintro t1 S1 Q1 ⟨rfl, c, h1, h2, h3, hs⟩ _ hN hE
  simp only [slots_cons, slots_nil] at hs
  by_cases hc : c < 0
  · have hg : ¬ (0 ≤ c) := by omega
    simp only [guard_undef, List.contains_cons, List.contains_nil, Nat.reduceBEq, Int.cast_ofNat_Int, and_self, k_pend_g, pendV, go_sem, i64_wrap_id, Int.reduceAdd, Int.reduceSub, Int.reduceNeg, Int.reduceMul, Nat.reduceSub, Nat.reduceEqDiff, Nat.reduceAdd, Nat.reduceMul, Nat.reduceLeDiff, ↓reduceIte, reduceCtorEq, Int.reduceToNat, Int.reduceLT, Int.reduceLE, Int.reduceEq, hs, hg]
    refine hE _ _ _ (by simp) ?_
    simp only [guard_undef, List.contains_cons, List.contains_nil, Nat.reduceBEq, Int.cast_ofNat_Int, and_self, k_pend_g, pendV, go_sem, i64_wrap_id, Int.reduceAdd, Int.reduceSub, Int.reduceNeg, Int.reduceMul, Nat.reduceSub, Nat.reduceEqDiff, Nat.reduceAdd, Nat.reduceMul, Nat.reduceLeDiff, ↓reduceIte, reduceCtorEq, Int.reduceToNat, Int.reduceLT, Int.reduceLE, Int.reduceEq, hs]
    refine hQ _ _ _ ?_; (first | rw [k_body_ret] | rw [k_body_normal]); simp only [resVals, resVal, ev, Env.get_put, ↓reduceIte, Nat.reduceEqDiff, Option.bind_some, Option.map_some, reduceCtorEq, ldv_true, ldv_false, lloadV_agg, partL, List.toList_toArray, cellsOf_set, cellsOf_new, rd_set, rd_new, List.length_cons, List.length_nil, Nat.reduceAdd, Nat.reduceLeDiff, Nat.le_refl, List.take_succ_cons, List.take_zero, List.drop_zero, Nat.add_eq_left, Nat.left_eq_add, List.getElem?_cons_zero, List.getElem?_cons_succ, aN94, hs]; rw [retQ_some]; simp only [oneOr]
    exact ⟨rfl, false, rfl, by rw [h3, chain_neg _ hc]; simp⟩
  have hg : 0 ≤ c := by omega
  obtain ⟨j, rfl⟩ : ∃ j : Nat, c = j := ⟨c.toNat, by omega⟩
  have hjk : j < l.length := by omega
  have hjl : (j : Int) < l.length := by omega
  obtain ⟨d, o, f, hv, he, hcs⟩ := h.ne (by omega)
  cases hv
  have hpj := par_at hok hcs j hjk
  have htj := ht j (by omega)
  have hch := chain_pos ht (a := (j : Int)) (by omega) (by omega)
  rw [Int.toNat_natCast] at hch
  rw [hch] at h3
  by_cases hp : (j : Int) = p
  · have hpe : ((j : Int) == p) = true := by simpa using hp
    simp only [guard_undef, List.contains_cons, List.contains_nil, Nat.reduceBEq, Int.cast_ofNat_Int, and_self, k_pend_g, pendV, go_sem, i64_wrap_id, Int.reduceAdd, Int.reduceSub, Int.reduceNeg, Int.reduceMul, Nat.reduceSub, Nat.reduceEqDiff, Nat.reduceAdd, Nat.reduceMul, Nat.reduceLeDiff, ↓reduceIte, reduceCtorEq, Int.reduceToNat, Int.reduceLT, Int.reduceLE, Int.reduceEq, hs, hg, hpe]
    refine hE _ _ _ (by simp) ?_
    simp only [guard_undef, List.contains_cons, List.contains_nil, Nat.reduceBEq, Int.cast_ofNat_Int, and_self, k_pend_g, pendV, go_sem, i64_wrap_id, Int.reduceAdd, Int.reduceSub, Int.reduceNeg, Int.reduceMul, Nat.reduceSub, Nat.reduceEqDiff, Nat.reduceAdd, Nat.reduceMul, Nat.reduceLeDiff, ↓reduceIte, reduceCtorEq, Int.reduceToNat, Int.reduceLT, Int.reduceLE, Int.reduceEq, hs]
    refine hQ _ _ _ ?_; (first | rw [k_body_ret] | rw [k_body_normal]); simp only [resVals, resVal, ev, Env.get_put, ↓reduceIte, Nat.reduceEqDiff, Option.bind_some, Option.map_some, reduceCtorEq, ldv_true, ldv_false, lloadV_agg, partL, List.toList_toArray, cellsOf_set, cellsOf_new, rd_set, rd_new, List.length_cons, List.length_nil, Nat.reduceAdd, Nat.reduceLeDiff, Nat.le_refl, List.take_succ_cons, List.take_zero, List.drop_zero, Nat.add_eq_left, Nat.left_eq_add, List.getElem?_cons_zero, List.getElem?_cons_succ, aN94, hs]; rw [retQ_some]; simp only [oneOr]
    exact ⟨rfl, true, rfl, by rw [h3]; simp [hp]⟩
  · have hpe : ((j : Int) == p) = false := by simpa using hp
    simp only [guard_undef, List.contains_cons, List.contains_nil, Nat.reduceBEq, Int.cast_ofNat_Int, and_self, k_pend_g, pendV, go_sem, i64_wrap_id, Int.reduceAdd, Int.reduceSub, Int.reduceNeg, Int.reduceMul, Nat.reduceSub, Nat.reduceEqDiff, Nat.reduceAdd, Nat.reduceMul, Nat.reduceLeDiff, ↓reduceIte, reduceCtorEq, Int.reduceToNat, Int.reduceLT, Int.reduceLE, Int.reduceEq, hs, hg, Int.toNat_natCast, hpe, hjl, hpj]
    refine hN _ _ ⟨rfl, par l j, by omega, by omega, ?_, ?_⟩ ?_
    · rw [h3]
      simp only [List.mem_cons]
      exact ⟨fun h => h.resolve_left fun e => hp e.symm, .inr⟩
    · simp only [guard_undef, List.contains_cons, List.contains_nil, Nat.reduceBEq, Int.cast_ofNat_Int, and_self, k_pend_g, pendV, go_sem, i64_wrap_id, Int.reduceAdd, Int.reduceSub, Int.reduceNeg, Int.reduceMul, Nat.reduceSub, Nat.reduceEqDiff, Nat.reduceAdd, Nat.reduceMul, Nat.reduceLeDiff, ↓reduceIte, reduceCtorEq, Int.reduceToNat, Int.reduceLT, Int.reduceLE, Int.reduceEq, slots_cons, slots_nil, Int.natCast_add, Int.natCast_succ, Int.cast_ofNat_Int, hs]
    · simp only [guard_undef, List.contains_cons, List.contains_nil, Nat.reduceBEq, Int.cast_ofNat_Int, and_self, k_pend_g, pendV, go_sem, i64_wrap_id, Int.reduceAdd, Int.reduceSub, Int.reduceNeg, Int.reduceMul, Nat.reduceSub, Nat.reduceEqDiff, Nat.reduceAdd, Nat.reduceMul, Nat.reduceLeDiff, ↓reduceIte, reduceCtorEq, Int.reduceToNat, Int.reduceLT, Int.reduceLE, Int.reduceEq, hs]
      simp [RowKit.intOf]
      omega

set_option maxHeartbeats 2000000 in
theorem deep61 (x : Value) (l : List Nd) (a : Int) (k : Nat) (S : St) (h : Ns S x l) (hok : ∀ x ∈ l, x.Ok) (hk : k ≤ l.length) (hn : l.length ≤ 1000000) (ht : Tr (par l) k) (h0 : -1 ≤ a) (ha : a < k) :
    ACalls Try.prog 61 [x, .int .i64 a] S fun r S' => S' = S ∧ r = .int .i64 ((chain (par l) a).length : Nat) := by
  refine ACalls.run hmix Try.func61 cN61 kN61 rfl fun hL Q hQ => ?_
  obtain ⟨b, e, rfl⟩ := Sl.slice h
  simp only [guard_undef, List.contains_cons, List.contains_nil, Nat.reduceBEq, Int.cast_ofNat_Int, and_self, k_pend_g, pendV, go_sem, i64_wrap_id, Int.reduceAdd, Int.reduceSub, Int.reduceNeg, Int.reduceMul, Nat.reduceSub, Nat.reduceEqDiff, Nat.reduceAdd, Nat.reduceMul, Nat.reduceLeDiff, ↓reduceIte, reduceCtorEq, Int.reduceToNat, Int.reduceLT, Int.reduceLE, Int.reduceEq, aN61]
  refine lK_of (fun t' S' => S' = S ∧ ∃ (c : Int) (n : Nat), -1 ≤ c ∧ c + n < k ∧ (chain (par l) a).length = n + (chain (par l) c).length ∧ Slots t' [(0, .slice b l.length e), (1, .int .i64 c), (5, .int .i64 n)]) (fun t' _ => (RowKit.intOf (t' 1) + 1).toNat) ?_ ?_
  · refine ⟨rfl, a, 0, h0, by omega, by omega, ?_⟩
    simp only [guard_undef, List.contains_cons, List.contains_nil, Nat.reduceBEq, Int.cast_ofNat_Int, and_self, k_pend_g, pendV, go_sem, i64_wrap_id, Int.reduceAdd, Int.reduceSub, Int.reduceNeg, Int.reduceMul, Nat.reduceSub, Nat.reduceEqDiff, Nat.reduceAdd, Nat.reduceMul, Nat.reduceLeDiff, ↓reduceIte, reduceCtorEq, Int.reduceToNat, Int.reduceLT, Int.reduceLE, Int.reduceEq, slots_cons, slots_nil, Int.natCast_add, Int.natCast_succ, Int.cast_ofNat_Int]
  rintro t1 S1 Q1 ⟨rfl, c, n, h1, h2, h3, hs⟩ _ hN hE
  simp only [slots_cons, slots_nil] at hs
  by_cases hc : c < 0
  · have hg : ¬ (0 ≤ c) := by omega
    simp only [guard_undef, List.contains_cons, List.contains_nil, Nat.reduceBEq, Int.cast_ofNat_Int, and_self, k_pend_g, pendV, go_sem, i64_wrap_id, Int.reduceAdd, Int.reduceSub, Int.reduceNeg, Int.reduceMul, Nat.reduceSub, Nat.reduceEqDiff, Nat.reduceAdd, Nat.reduceMul, Nat.reduceLeDiff, ↓reduceIte, reduceCtorEq, Int.reduceToNat, Int.reduceLT, Int.reduceLE, Int.reduceEq, hs, hg]
    refine hE _ _ _ (by simp) ?_
    simp only [guard_undef, List.contains_cons, List.contains_nil, Nat.reduceBEq, Int.cast_ofNat_Int, and_self, k_pend_g, pendV, go_sem, i64_wrap_id, Int.reduceAdd, Int.reduceSub, Int.reduceNeg, Int.reduceMul, Nat.reduceSub, Nat.reduceEqDiff, Nat.reduceAdd, Nat.reduceMul, Nat.reduceLeDiff, ↓reduceIte, reduceCtorEq, Int.reduceToNat, Int.reduceLT, Int.reduceLE, Int.reduceEq, hs]
    refine hQ _ _ _ ?_; (first | rw [k_body_ret] | rw [k_body_normal]); simp only [resVals, resVal, ev, Env.get_put, ↓reduceIte, Nat.reduceEqDiff, Option.bind_some, Option.map_some, reduceCtorEq, ldv_true, ldv_false, lloadV_agg, partL, List.toList_toArray, cellsOf_set, cellsOf_new, rd_set, rd_new, List.length_cons, List.length_nil, Nat.reduceAdd, Nat.reduceLeDiff, Nat.le_refl, List.take_succ_cons, List.take_zero, List.drop_zero, Nat.add_eq_left, Nat.left_eq_add, List.getElem?_cons_zero, List.getElem?_cons_succ, aN61, hs]; rw [retQ_some]; simp only [oneOr]
    rw [h3, chain_neg _ hc]
    simp
  have hg : 0 ≤ c := by omega
  obtain ⟨j, rfl⟩ : ∃ j : Nat, c = j := ⟨c.toNat, by omega⟩
  have hjk : j < l.length := by omega
  have hjl : (j : Int) < l.length := by omega
  obtain ⟨d, o, f, hv, he, hcs⟩ := h.ne (by omega)
  cases hv
  have hpj := par_at hok hcs j hjk
  have htj := ht j (by omega)
  have hch := chain_pos ht (a := (j : Int)) (by omega) (by omega)
  rw [Int.toNat_natCast] at hch
  rw [hch, List.length_cons] at h3
  have hw1 : IntKind.i64.wrap ((n : Int) + 1) = n + 1 := wrap64_id (by omega) (by omega)
  simp only [guard_undef, List.contains_cons, List.contains_nil, Nat.reduceBEq, Int.cast_ofNat_Int, and_self, k_pend_g, pendV, go_sem, i64_wrap_id, Int.reduceAdd, Int.reduceSub, Int.reduceNeg, Int.reduceMul, Nat.reduceSub, Nat.reduceEqDiff, Nat.reduceAdd, Nat.reduceMul, Nat.reduceLeDiff, ↓reduceIte, reduceCtorEq, Int.reduceToNat, Int.reduceLT, Int.reduceLE, Int.reduceEq, hs, hg, Int.toNat_natCast, hjl, hpj, hw1]
  refine hN _ _ ⟨rfl, par l j, n + 1, by omega, by omega, by omega, ?_⟩ ?_
  · simp only [guard_undef, List.contains_cons, List.contains_nil, Nat.reduceBEq, Int.cast_ofNat_Int, and_self, k_pend_g, pendV, go_sem, i64_wrap_id, Int.reduceAdd, Int.reduceSub, Int.reduceNeg, Int.reduceMul, Nat.reduceSub, Nat.reduceEqDiff, Nat.reduceAdd, Nat.reduceMul, Nat.reduceLeDiff, ↓reduceIte, reduceCtorEq, Int.reduceToNat, Int.reduceLT, Int.reduceLE, Int.reduceEq, slots_cons, slots_nil, Int.natCast_add, Int.natCast_succ, Int.cast_ofNat_Int, hs]
  · simp only [guard_undef, List.contains_cons, List.contains_nil, Nat.reduceBEq, Int.cast_ofNat_Int, and_self, k_pend_g, pendV, go_sem, i64_wrap_id, Int.reduceAdd, Int.reduceSub, Int.reduceNeg, Int.reduceMul, Nat.reduceSub, Nat.reduceEqDiff, Nat.reduceAdd, Nat.reduceMul, Nat.reduceLeDiff, ↓reduceIte, reduceCtorEq, Int.reduceToNat, Int.reduceLT, Int.reduceLE, Int.reduceEq, hs]
    simp [RowKit.intOf]
    omega

theorem drop_getD {l : List Int} {n : Nat} : (l[n]?).getD (-1) = ((l.drop n).head?).getD (-1) := by rw [List.head?_drop]

set_option maxHeartbeats 2000000 in
theorem parent97 (x : Value) (l : List Nd) (a : Int) (n k : Nat) (S : St) (h : Ns S x l) (hok : ∀ x ∈ l, x.Ok) (hk : k ≤ l.length) (hn : n < 4294967296) (ht : Tr (par l) k) (h0 : -1 ≤ a) (ha : a < k) :
    ACalls Try.prog 97 [x, .int .i64 a, .int .u32 n] S fun r S' => S' = S ∧ r = .int .i64 (((chain (par l) a)[n]?).getD (-1)) := by
  refine ACalls.run hmix Try.func97 cN97 kN97 rfl fun hL Q hQ => ?_
  obtain ⟨b, e, rfl⟩ := Sl.slice h
  simp only [guard_undef, List.contains_cons, List.contains_nil, Nat.reduceBEq, Int.cast_ofNat_Int, and_self, k_pend_g, pendV, go_sem, i64_wrap_id, Int.reduceAdd, Int.reduceSub, Int.reduceNeg, Int.reduceMul, Nat.reduceSub, Nat.reduceEqDiff, Nat.reduceAdd, Nat.reduceMul, Nat.reduceLeDiff, ↓reduceIte, reduceCtorEq, Int.reduceToNat, Int.reduceLT, Int.reduceLE, Int.reduceEq, aN97]
  refine lK_of (fun t' S' => S' = S ∧ ∃ (c : Int) (m : Nat), -1 ≤ c ∧ c < k ∧ m ≤ n ∧ (chain (par l) a)[n]? = (chain (par l) c)[m]? ∧ Slots t' [(0, .slice b l.length e), (1, .int .i64 c), (2, .int .u32 m)]) (fun t' _ => (RowKit.intOf (t' 2)).toNat) ?_ ?_
  · refine ⟨rfl, a, n, h0, by omega, by omega, rfl, ?_⟩
    simp only [guard_undef, List.contains_cons, List.contains_nil, Nat.reduceBEq, Int.cast_ofNat_Int, and_self, k_pend_g, pendV, go_sem, i64_wrap_id, Int.reduceAdd, Int.reduceSub, Int.reduceNeg, Int.reduceMul, Nat.reduceSub, Nat.reduceEqDiff, Nat.reduceAdd, Nat.reduceMul, Nat.reduceLeDiff, ↓reduceIte, reduceCtorEq, Int.reduceToNat, Int.reduceLT, Int.reduceLE, Int.reduceEq, slots_cons, slots_nil, Int.natCast_add, Int.natCast_succ, Int.cast_ofNat_Int]
  rintro t1 S1 Q1 ⟨rfl, c, m, h1, h2, hmn, h3, hs⟩ _ hN hE
  simp only [slots_cons, slots_nil] at hs
  by_cases hm : m = 0
  · subst hm
    simp only [guard_undef, List.contains_cons, List.contains_nil, Nat.reduceBEq, Int.cast_ofNat_Int, and_self, k_pend_g, pendV, go_sem, i64_wrap_id, Int.reduceAdd, Int.reduceSub, Int.reduceNeg, Int.reduceMul, Nat.reduceSub, Nat.reduceEqDiff, Nat.reduceAdd, Nat.reduceMul, Nat.reduceLeDiff, ↓reduceIte, reduceCtorEq, Int.reduceToNat, Int.reduceLT, Int.reduceLE, Int.reduceEq, hs, Int.lt_irrefl, Int.ofNat_zero]
    refine hE _ _ _ (by simp) ?_
    simp only [guard_undef, List.contains_cons, List.contains_nil, Nat.reduceBEq, Int.cast_ofNat_Int, and_self, k_pend_g, pendV, go_sem, i64_wrap_id, Int.reduceAdd, Int.reduceSub, Int.reduceNeg, Int.reduceMul, Nat.reduceSub, Nat.reduceEqDiff, Nat.reduceAdd, Nat.reduceMul, Nat.reduceLeDiff, ↓reduceIte, reduceCtorEq, Int.reduceToNat, Int.reduceLT, Int.reduceLE, Int.reduceEq, hs]
    refine hQ _ _ _ ?_; (first | rw [k_body_ret] | rw [k_body_normal]); simp only [resVals, resVal, ev, Env.get_put, ↓reduceIte, Nat.reduceEqDiff, Option.bind_some, Option.map_some, reduceCtorEq, ldv_true, ldv_false, lloadV_agg, partL, List.toList_toArray, cellsOf_set, cellsOf_new, rd_set, rd_new, List.length_cons, List.length_nil, Nat.reduceAdd, Nat.reduceLeDiff, Nat.le_refl, List.take_succ_cons, List.take_zero, List.drop_zero, Nat.add_eq_left, Nat.left_eq_add, List.getElem?_cons_zero, List.getElem?_cons_succ, aN97, hs]; rw [retQ_some]; simp only [oneOr]
    rw [h3]
    by_cases hc : c < 0
    · rw [chain_neg _ hc]
      simp
      omega
    · rw [chain_pos ht (by omega) h2]
      simp
  have hm0 : (0 : Int) < m := by omega
  by_cases hc : c < 0
  · have hg : ¬ (0 ≤ c) := by omega
    simp only [guard_undef, List.contains_cons, List.contains_nil, Nat.reduceBEq, Int.cast_ofNat_Int, and_self, k_pend_g, pendV, go_sem, i64_wrap_id, Int.reduceAdd, Int.reduceSub, Int.reduceNeg, Int.reduceMul, Nat.reduceSub, Nat.reduceEqDiff, Nat.reduceAdd, Nat.reduceMul, Nat.reduceLeDiff, ↓reduceIte, reduceCtorEq, Int.reduceToNat, Int.reduceLT, Int.reduceLE, Int.reduceEq, hs, hm0, hg]
    refine hE _ _ _ (by simp) ?_
    simp only [guard_undef, List.contains_cons, List.contains_nil, Nat.reduceBEq, Int.cast_ofNat_Int, and_self, k_pend_g, pendV, go_sem, i64_wrap_id, Int.reduceAdd, Int.reduceSub, Int.reduceNeg, Int.reduceMul, Nat.reduceSub, Nat.reduceEqDiff, Nat.reduceAdd, Nat.reduceMul, Nat.reduceLeDiff, ↓reduceIte, reduceCtorEq, Int.reduceToNat, Int.reduceLT, Int.reduceLE, Int.reduceEq, hs]
    refine hQ _ _ _ ?_; (first | rw [k_body_ret] | rw [k_body_normal]); simp only [resVals, resVal, ev, Env.get_put, ↓reduceIte, Nat.reduceEqDiff, Option.bind_some, Option.map_some, reduceCtorEq, ldv_true, ldv_false, lloadV_agg, partL, List.toList_toArray, cellsOf_set, cellsOf_new, rd_set, rd_new, List.length_cons, List.length_nil, Nat.reduceAdd, Nat.reduceLeDiff, Nat.le_refl, List.take_succ_cons, List.take_zero, List.drop_zero, Nat.add_eq_left, Nat.left_eq_add, List.getElem?_cons_zero, List.getElem?_cons_succ, aN97, hs]; rw [retQ_some]; simp only [oneOr]
    rw [h3, chain_neg _ hc]
    simp
    omega
  have hg : 0 ≤ c := by omega
  obtain ⟨j, rfl⟩ : ∃ j : Nat, c = j := ⟨c.toNat, by omega⟩
  have hjk : j < l.length := by omega
  have hjl : (j : Int) < l.length := by omega
  obtain ⟨d, o, f, hv, he, hcs⟩ := h.ne (by omega)
  cases hv
  have hpj := par_at hok hcs j hjk
  have htj := ht j (by omega)
  have hch := chain_pos ht (a := (j : Int)) (by omega) (by omega)
  rw [Int.toNat_natCast] at hch
  obtain ⟨q, rfl⟩ : ∃ q, m = q + 1 := ⟨m - 1, by omega⟩
  rw [hch, List.getElem?_cons_succ] at h3
  have hw1 : IntKind.u32.wrap (((q + 1 : Nat) : Int) - 1) = q := by rw [wrap32u]; omega
  simp only [guard_undef, List.contains_cons, List.contains_nil, Nat.reduceBEq, Int.cast_ofNat_Int, and_self, k_pend_g, pendV, go_sem, i64_wrap_id, Int.reduceAdd, Int.reduceSub, Int.reduceNeg, Int.reduceMul, Nat.reduceSub, Nat.reduceEqDiff, Nat.reduceAdd, Nat.reduceMul, Nat.reduceLeDiff, ↓reduceIte, reduceCtorEq, Int.reduceToNat, Int.reduceLT, Int.reduceLE, Int.reduceEq, hs, hm0, hg, Int.toNat_natCast, hjl, hpj, hw1]
  refine hN _ _ ⟨rfl, par l j, q, by omega, by omega, by omega, h3, ?_⟩ ?_
  · simp only [guard_undef, List.contains_cons, List.contains_nil, Nat.reduceBEq, Int.cast_ofNat_Int, and_self, k_pend_g, pendV, go_sem, i64_wrap_id, Int.reduceAdd, Int.reduceSub, Int.reduceNeg, Int.reduceMul, Nat.reduceSub, Nat.reduceEqDiff, Nat.reduceAdd, Nat.reduceMul, Nat.reduceLeDiff, ↓reduceIte, reduceCtorEq, Int.reduceToNat, Int.reduceLT, Int.reduceLE, Int.reduceEq, slots_cons, slots_nil, Int.natCast_add, Int.natCast_succ, Int.cast_ofNat_Int, hs]
  · simp only [guard_undef, List.contains_cons, List.contains_nil, Nat.reduceBEq, Int.cast_ofNat_Int, and_self, k_pend_g, pendV, go_sem, i64_wrap_id, Int.reduceAdd, Int.reduceSub, Int.reduceNeg, Int.reduceMul, Nat.reduceSub, Nat.reduceEqDiff, Nat.reduceAdd, Nat.reduceMul, Nat.reduceLeDiff, ↓reduceIte, reduceCtorEq, Int.reduceToNat, Int.reduceLT, Int.reduceLE, Int.reduceEq, hs]
    simp [RowKit.intOf]
end Go.Proofs.Ytbgnaeagdneikaa
