/- Trees: what is wrong with one. -/
import Derived.Test.YtbgnaeagdneikaaT2
import Derived.Test.YtbgnaeagdneikaaSeatKKT
-- pp: new
namespace Go.Proofs.Ytbgnaeagdneikaa
open Go Go.Proofs.Ytbgnaeagdneikaa.Abs
set_option linter.unusedSimpArgs false
set_option linter.unusedVariables false

def intsV (xs : List Int) : List Value := xs.map fun a => .int .i64 a
theorem ints_at {S : St} {d o : Nat} {xs : List Int} (h : cellsOf S d o (xs.length * 1) = some (intsV xs)) (j : Nat) (hj : j < xs.length) : rd S d (o + j * 1) = some (.int .i64 xs[j]) := by
  rw [rd_of_cells h (by omega)]
  simp [intsV, hj]

set_option maxHeartbeats 2000000 in
theorem max95 (x : Value) (xs : List Int) (S : St) (h : Sl S 1 x xs.length (intsV xs)) (h0 : 0 < xs.length) (hn : xs.length ≤ 1000000) :
    ACalls Try.prog 95 [x] S fun r S' => S' = S ∧ ∃ m, r = .int .i64 m ∧ m ∈ xs ∧ ∀ y ∈ xs, y ≤ m := by
  refine ACalls.run hmix Try.func95 cN95 kN95 rfl fun hL Q hQ => ?_
  obtain ⟨d, o, e, rfl, he, hcs⟩ := h.ne h0
  have hl0 : ¬ ((xs.length : Int) < 1) := by omega
  have hl1 : (0 : Int) < xs.length := by omega
  have hr0 : rd S d o = some (.int .i64 xs[0]) := by simpa using ints_at hcs 0 h0
  simp only [guard_undef, List.contains_cons, List.contains_nil, Nat.reduceBEq, Int.cast_ofNat_Int, and_self, k_pend_g, pendV, go_sem, i64_wrap_id, Int.reduceAdd, Int.reduceSub, Int.reduceNeg, Int.reduceMul, Nat.reduceSub, Nat.reduceEqDiff, Nat.reduceAdd, Nat.reduceMul, Nat.reduceLeDiff, ↓reduceIte, reduceCtorEq, Int.reduceToNat, Int.reduceLT, Int.reduceLE, Int.reduceEq, aN95, hl0, hl1, Int.le_refl, Int.toNat_zero, hr0]
  refine lK_of (fun t' S' => S' = S ∧ ∃ (j : Nat) (m : Int), 1 ≤ j ∧ j ≤ xs.length ∧ Slots t' [(0, .slice (some ⟨d, o, none⟩) xs.length e), (3, .int .i64 m), (4, .int .i64 j)] ∧ m ∈ xs ∧ ∀ (k : Nat) (h1 : k < xs.length), k < j → xs[k] ≤ m) (fun t' _ => (xs.length - RowKit.intOf (t' 4)).toNat) ?_ ?_
  · refine ⟨rfl, 1, xs[0], by omega, by omega, ?_, List.getElem_mem h0, fun k h1 hk => ?_⟩
    · simp only [guard_undef, List.contains_cons, List.contains_nil, Nat.reduceBEq, Int.cast_ofNat_Int, and_self, k_pend_g, pendV, go_sem, i64_wrap_id, Int.reduceAdd, Int.reduceSub, Int.reduceNeg, Int.reduceMul, Nat.reduceSub, Nat.reduceEqDiff, Nat.reduceAdd, Nat.reduceMul, Nat.reduceLeDiff, ↓reduceIte, reduceCtorEq, Int.reduceToNat, Int.reduceLT, Int.reduceLE, Int.reduceEq, slots_cons, slots_nil, Int.natCast_add, Int.natCast_succ, Int.cast_ofNat_Int, hl0]
    · obtain rfl : k = 0 := by omega
      omega
  rintro t1 S1 Q1 ⟨rfl, j, m, hj1, hj, hs, hmi, hle⟩ _ hN hE
  simp only [slots_cons, slots_nil] at hs
  by_cases hjn : j = xs.length
  · subst hjn
    simp only [guard_undef, List.contains_cons, List.contains_nil, Nat.reduceBEq, Int.cast_ofNat_Int, and_self, k_pend_g, pendV, go_sem, i64_wrap_id, Int.reduceAdd, Int.reduceSub, Int.reduceNeg, Int.reduceMul, Nat.reduceSub, Nat.reduceEqDiff, Nat.reduceAdd, Nat.reduceMul, Nat.reduceLeDiff, ↓reduceIte, reduceCtorEq, Int.reduceToNat, Int.reduceLT, Int.reduceLE, Int.reduceEq, hs, Int.lt_irrefl]
    refine hE _ _ _ (by simp) ?_
    simp only [guard_undef, List.contains_cons, List.contains_nil, Nat.reduceBEq, Int.cast_ofNat_Int, and_self, k_pend_g, pendV, go_sem, i64_wrap_id, Int.reduceAdd, Int.reduceSub, Int.reduceNeg, Int.reduceMul, Nat.reduceSub, Nat.reduceEqDiff, Nat.reduceAdd, Nat.reduceMul, Nat.reduceLeDiff, ↓reduceIte, reduceCtorEq, Int.reduceToNat, Int.reduceLT, Int.reduceLE, Int.reduceEq, hs]
    refine hQ _ _ _ ?_; (first | rw [k_body_ret] | rw [k_body_normal]); simp only [resVals, resVal, ev, Env.get_put, ↓reduceIte, Nat.reduceEqDiff, Option.bind_some, Option.map_some, reduceCtorEq, ldv_true, ldv_false, lloadV_agg, partL, List.toList_toArray, cellsOf_set, cellsOf_new, rd_set, rd_new, List.length_cons, List.length_nil, Nat.reduceAdd, Nat.reduceLeDiff, Nat.le_refl, List.take_succ_cons, List.take_zero, List.drop_zero, Nat.add_eq_left, Nat.left_eq_add, List.getElem?_cons_zero, List.getElem?_cons_succ, aN95, hs]; rw [retQ_some]; simp only [oneOr]
    refine ⟨trivial, m, rfl, hmi, fun y hy => ?_⟩
    obtain ⟨k, g1, rfl⟩ := List.getElem_of_mem hy
    exact hle k g1 g1
  have hjl : j < xs.length := by omega
  have hjl' : (j : Int) < xs.length := by omega
  have hj0 : (0 : Int) ≤ j := by omega
  have hw1 : IntKind.i64.wrap ((j : Int) + 1) = j + 1 := wrap64_id (by omega) (by omega)
  have hrj := ints_at hcs j hjl
  simp only [guard_undef, List.contains_cons, List.contains_nil, Nat.reduceBEq, Int.cast_ofNat_Int, and_self, k_pend_g, pendV, go_sem, i64_wrap_id, Int.reduceAdd, Int.reduceSub, Int.reduceNeg, Int.reduceMul, Nat.reduceSub, Nat.reduceEqDiff, Nat.reduceAdd, Nat.reduceMul, Nat.reduceLeDiff, ↓reduceIte, reduceCtorEq, Int.reduceToNat, Int.reduceLT, Int.reduceLE, Int.reduceEq, hs, hjl', hj0, Int.toNat_natCast, hrj, hw1]
  refine hN _ _ ⟨rfl, j + 1, if xs[j] > m then xs[j] else m, by omega, by omega, ?_, ?_, fun k g1 g2 => ?_⟩ ?_
  · simp only [guard_undef, List.contains_cons, List.contains_nil, Nat.reduceBEq, Int.cast_ofNat_Int, and_self, k_pend_g, pendV, go_sem, i64_wrap_id, Int.reduceAdd, Int.reduceSub, Int.reduceNeg, Int.reduceMul, Nat.reduceSub, Nat.reduceEqDiff, Nat.reduceAdd, Nat.reduceMul, Nat.reduceLeDiff, ↓reduceIte, reduceCtorEq, Int.reduceToNat, Int.reduceLT, Int.reduceLE, Int.reduceEq, slots_cons, slots_nil, Int.natCast_add, Int.natCast_succ, Int.cast_ofNat_Int, hs]
  · split
    · exact List.getElem_mem hjl
    · exact hmi
  · have hm1 : m ≤ (if xs[j] > m then xs[j] else m) := by split <;> omega
    by_cases hkj : k = j
    · subst hkj; split <;> omega
    · have := hle k g1 (by omega); omega
  · simp only [guard_undef, List.contains_cons, List.contains_nil, Nat.reduceBEq, Int.cast_ofNat_Int, and_self, k_pend_g, pendV, go_sem, i64_wrap_id, Int.reduceAdd, Int.reduceSub, Int.reduceNeg, Int.reduceMul, Nat.reduceSub, Nat.reduceEqDiff, Nat.reduceAdd, Nat.reduceMul, Nat.reduceLeDiff, ↓reduceIte, reduceCtorEq, Int.reduceToNat, Int.reduceLT, Int.reduceLE, Int.reduceEq, hs]
    simp [RowKit.intOf]
    omega

def depV (l : List Nd) (j : Nat) : List Int := (List.range l.length).map fun k => if k < j then (dep l k : Int) else 0
theorem depV_length (l : List Nd) (j : Nat) : (depV l j).length = l.length := by simp [depV]
theorem depV_zero (l : List Nd) : intsV (depV l 0) = List.replicate l.length (.int .i64 0) := by
  apply List.ext_getElem
  · simp [intsV, depV]
  · intro k h1 h2
    simp [intsV, depV]
theorem depV_succ (l : List Nd) (j : Nat) (hj : j < l.length) : (intsV (depV l j)).set j (.int .i64 (dep l j)) = intsV (depV l (j + 1)) := by
  apply List.ext_getElem
  · simp [intsV, depV]
  · intro k h1 h2
    rw [List.getElem_set]
    simp only [intsV, depV, List.getElem_map, List.getElem_range]
    by_cases h : j = k
    · subst h; rw [if_pos rfl, if_pos (by omega)]
    · rw [if_neg h]
      by_cases h' : k < j
      · rw [if_pos h', if_pos (by omega)]
      · rw [if_neg h', if_neg (by omega)]
theorem depV_get (l : List Nd) (j k : Nat) (hk : k < j) (hj : j ≤ l.length) : (intsV (depV l j))[k]? = some (.int .i64 (dep l k)) := by
  simp only [intsV, depV, List.getElem?_map]
  rw [List.getElem?_range (by omega)]
  simp [hk]

set_option maxHeartbeats 2000000 in
theorem deepest85 (x : Value) (l : List Nd) (S : St) (h : Ns S x l) (hok : ∀ x ∈ l, x.Ok) (hn : l.length ≤ 1000000) (hf : Shaped l) : ACalls Try.prog 85 [x] S fun r S' => KeepsAll S S' ∧ ∃ m, r = .int .i64 m ∧ (256 < m ↔ ∃ k, k < l.length ∧ 256 < dep l k) := by
  refine ACalls.run hmix Try.func85 cN85 kN85 rfl fun hL Q hQ => ?_
  obtain ⟨d, o, e, rfl, he, hcs⟩ := h.ne hf.1
  have h8 : (l.length : Int) * 8 ≤ 1099511627776 := by omega
  have hl0 : (0 : Int) ≤ l.length := by omega
  simp only [guard_undef, List.contains_cons, List.contains_nil, Nat.reduceBEq, Int.cast_ofNat_Int, and_self, k_pend_g, pendV, go_sem, i64_wrap_id, Int.reduceAdd, Int.reduceSub, Int.reduceNeg, Int.reduceMul, Nat.reduceSub, Nat.reduceEqDiff, Nat.reduceAdd, Nat.reduceMul, Nat.reduceLeDiff, ↓reduceIte, reduceCtorEq, Int.reduceToNat, Int.reduceLT, Int.reduceLE, Int.reduceEq, aN85, hl0, Int.le_refl, h8, Int.toNat_natCast, toList_madeCells_one, Nat.mul_one]
  refine lK_of (fun t' S' => KeepsAll S S' ∧ Live S' ∧ ∃ j : Nat, j ≤ l.length ∧ Slots t' [(3, .slice (some ⟨S.next, 0, none⟩) l.length 1), (9, .slice (some ⟨d, o, none⟩) l.length e), (10, .int .i64 l.length), (11, .int .i64 j)] ∧ S'.blk S.next = some ⟨false, intsV (depV l j)⟩) (fun t' _ => (l.length - RowKit.intOf (t' 11)).toNat) ?_ ?_
  · refine ⟨Keeps.of_new S _ _, hL.new _, 0, by omega, ?_, ?_⟩
    · simp only [guard_undef, List.contains_cons, List.contains_nil, Nat.reduceBEq, Int.cast_ofNat_Int, and_self, k_pend_g, pendV, go_sem, i64_wrap_id, Int.reduceAdd, Int.reduceSub, Int.reduceNeg, Int.reduceMul, Nat.reduceSub, Nat.reduceEqDiff, Nat.reduceAdd, Nat.reduceMul, Nat.reduceLeDiff, ↓reduceIte, reduceCtorEq, Int.reduceToNat, Int.reduceLT, Int.reduceLE, Int.reduceEq, slots_cons, slots_nil, Int.natCast_add, Int.natCast_succ, Int.cast_ofNat_Int, hl0]
    · rw [depV_zero]
      simp [St.blk_new]
  rintro t1 S1 Q1 ⟨hK1, hL1, j, hj, hs, hb⟩ _ hN hE
  simp only [slots_cons, slots_nil] at hs
  by_cases hjn : j = l.length
  · subst hjn
    simp only [guard_undef, List.contains_cons, List.contains_nil, Nat.reduceBEq, Int.cast_ofNat_Int, and_self, k_pend_g, pendV, go_sem, i64_wrap_id, Int.reduceAdd, Int.reduceSub, Int.reduceNeg, Int.reduceMul, Nat.reduceSub, Nat.reduceEqDiff, Nat.reduceAdd, Nat.reduceMul, Nat.reduceLeDiff, ↓reduceIte, reduceCtorEq, Int.reduceToNat, Int.reduceLT, Int.reduceLE, Int.reduceEq, hs, Int.lt_irrefl]
    refine hE _ _ _ (by simp) ?_
    simp only [guard_undef, List.contains_cons, List.contains_nil, Nat.reduceBEq, Int.cast_ofNat_Int, and_self, k_pend_g, pendV, go_sem, i64_wrap_id, Int.reduceAdd, Int.reduceSub, Int.reduceNeg, Int.reduceMul, Nat.reduceSub, Nat.reduceEqDiff, Nat.reduceAdd, Nat.reduceMul, Nat.reduceLeDiff, ↓reduceIte, reduceCtorEq, Int.reduceToNat, Int.reduceLT, Int.reduceLE, Int.reduceEq, hs]
    have hsl : Sl S1 1 (.slice (some ⟨S.next, 0, none⟩) l.length 1) (depV l l.length).length (intsV (depV l l.length)) := by
      rw [depV_length]
      exact .inr ⟨_, 0, 1, rfl, .inr rfl, by rw [cellsOf_of_blk hb, if_pos (by simp [intsV, depV_length])]; simp [intsV, depV_length]; rw [List.take_of_length_le (by simp [depV_length])]⟩
    refine cK_of (max95 _ (depV l l.length) S1 hsl (by rw [depV_length]; exact hf.1) (by rw [depV_length]; exact hn)) ?_
    rintro r2 S2 hS2 hL2 ⟨rfl, m, rfl, hmi, hle⟩
    simp only [guard_undef, List.contains_cons, List.contains_nil, Nat.reduceBEq, Int.cast_ofNat_Int, and_self, k_pend_g, pendV, go_sem, i64_wrap_id, Int.reduceAdd, Int.reduceSub, Int.reduceNeg, Int.reduceMul, Nat.reduceSub, Nat.reduceEqDiff, Nat.reduceAdd, Nat.reduceMul, Nat.reduceLeDiff, ↓reduceIte, reduceCtorEq, Int.reduceToNat, Int.reduceLT, Int.reduceLE, Int.reduceEq, hs]
    refine hQ _ _ _ ?_; (first | rw [k_body_ret] | rw [k_body_normal]); simp only [resVals, resVal, ev, Env.get_put, ↓reduceIte, Nat.reduceEqDiff, Option.bind_some, Option.map_some, reduceCtorEq, ldv_true, ldv_false, lloadV_agg, partL, List.toList_toArray, cellsOf_set, cellsOf_new, rd_set, rd_new, List.length_cons, List.length_nil, Nat.reduceAdd, Nat.reduceLeDiff, Nat.le_refl, List.take_succ_cons, List.take_zero, List.drop_zero, Nat.add_eq_left, Nat.left_eq_add, List.getElem?_cons_zero, List.getElem?_cons_succ, aN85, hs]; rw [retQ_some]; simp only [oneOr]
    refine ⟨hK1, m, rfl, ?_⟩
    unfold depV at hmi hle
    simp only [List.mem_map, List.mem_range] at hmi hle
    constructor
    · intro hm
      obtain ⟨k, hk, rfl⟩ := hmi
      rw [if_pos hk] at hm
      exact ⟨k, hk, by omega⟩
    · rintro ⟨k, hk, hd⟩
      have := hle _ ⟨k, hk, rfl⟩
      rw [if_pos hk] at this
      omega
  have hjl : j < l.length := by omega
  have hjl' : (j : Int) < l.length := by omega
  have hj0 : (0 : Int) ≤ j := by omega
  have hw1 : IntKind.i64.wrap ((j : Int) + 1) = j + 1 := wrap64_id (by omega) (by omega)
  have h1 : Ns S1 (.slice (some ⟨d, o, none⟩) l.length e) l := Sl.keeps hL h hK1 fun _ _ => trivial
  obtain ⟨d1, o1, f1, hv1, _, hcs1⟩ := h1.ne (by omega)
  cases hv1
  have hnd := nodes_at hok hcs1 j hjl
  have hpj := par_at hok hcs1 j hjl
  have hlen : l[j].cells.length = 49 := Nd.cells_length (hok _ (List.getElem_mem hjl))
  have hc48 : l[j].cells[48]? = some (.int .i64 (par l j)) := by
    rw [par_get hjl]
    unfold Nd.cells
    rw [List.getElem?_append_right (by rw [(hok _ (List.getElem_mem hjl)).s.len]; omega), (hok _ (List.getElem_mem hjl)).s.len]
    rfl
  have hdl : (intsV (depV l j)).length = l.length := by simp [intsV, depV_length]
  have hj1' : j + 1 ≤ l.length := by omega
  have hnS1 : S.next < S1.next := hL1 _ _ hb
  by_cases hj1 : 0 < j
  rotate_left
  · have hgt : ¬ ((0 : Int) < j) := by omega
    have hj1' : j + 1 ≤ l.length := by omega
    simp only [guard_undef, List.contains_cons, List.contains_nil, Nat.reduceBEq, Int.cast_ofNat_Int, and_self, k_pend_g, pendV, go_sem, i64_wrap_id, Int.reduceAdd, Int.reduceSub, Int.reduceNeg, Int.reduceMul, Nat.reduceSub, Nat.reduceEqDiff, Nat.reduceAdd, Nat.reduceMul, Nat.reduceLeDiff, ↓reduceIte, reduceCtorEq, Int.reduceToNat, Int.reduceLT, Int.reduceLE, Int.reduceEq, hs, hjl', hj0, Int.toNat_natCast, hnd, hlen, hb, hdl, hgt, Nat.mul_one, hj1', hw1]
    have hj00 : j = 0 := by omega
    have hd0 : (dep l j : Int) = 1 := by
      subst hj00
      have := (hf.2 0 hf.1).1 rfl
      unfold dep
      rw [chain_pos hf.2.tr (by omega) (by omega), show par l ((0 : Nat) : Int).toNat = -1 from this, chain_neg _ (by omega)]
      rfl
    refine hN _ _ ⟨hK1.set (fun i hi _ => by omega) _, hL1.set _ _ hnS1, j + 1, by omega, ?_, ?_⟩ ?_
    · simp only [guard_undef, List.contains_cons, List.contains_nil, Nat.reduceBEq, Int.cast_ofNat_Int, and_self, k_pend_g, pendV, go_sem, i64_wrap_id, Int.reduceAdd, Int.reduceSub, Int.reduceNeg, Int.reduceMul, Nat.reduceSub, Nat.reduceEqDiff, Nat.reduceAdd, Nat.reduceMul, Nat.reduceLeDiff, ↓reduceIte, reduceCtorEq, Int.reduceToNat, Int.reduceLT, Int.reduceLE, Int.reduceEq, slots_cons, slots_nil, Int.natCast_add, Int.natCast_succ, Int.cast_ofNat_Int, hs]
    · rw [St.blk_set, if_pos rfl, ← depV_succ l j hjl, hd0]
    · simp only [guard_undef, List.contains_cons, List.contains_nil, Nat.reduceBEq, Int.cast_ofNat_Int, and_self, k_pend_g, pendV, go_sem, i64_wrap_id, Int.reduceAdd, Int.reduceSub, Int.reduceNeg, Int.reduceMul, Nat.reduceSub, Nat.reduceEqDiff, Nat.reduceAdd, Nat.reduceMul, Nat.reduceLeDiff, ↓reduceIte, reduceCtorEq, Int.reduceToNat, Int.reduceLT, Int.reduceLE, Int.reduceEq, hs]
      simp [RowKit.intOf]
      omega
  · obtain ⟨q, hq⟩ : ∃ q : Nat, par l j = q := ⟨(par l j).toNat, by have := sh_in (P := par l) (k := j) (fun i hi => hf.2 i (by omega)) hj1 ((hf.2 j hjl).2 hj1); omega⟩
    have hqj : q < j := by have := hf.2.tr j hjl; omega
    have hgt : (0 : Int) < j := by omega
    have hq0 : (0 : Int) ≤ q := by omega
    have hql : (q : Int) < l.length := by omega
    rw [hq] at hc48
    have hdq : dep l j = dep l q + 1 := by
      unfold dep
      rw [chain_pos hf.2.tr (by omega) (by omega), Int.toNat_natCast, hq]
      rfl
    have hrd : ((intsV (depV l j)).set j (.int .i64 1))[q]? = some (.int .i64 (dep l q)) := by
      rw [List.getElem?_set_ne (by omega), depV_get l j q hqj (by omega)]
    have hcl := chain_len hf.2.tr l.length (q : Int) (by omega) (by omega) (by omega)
    have hw2 : IntKind.i64.wrap ((dep l q : Int) + 1) = dep l q + 1 := wrap64_id (by unfold dep; omega) (by unfold dep; omega)
    simp only [guard_undef, List.contains_cons, List.contains_nil, Nat.reduceBEq, Int.cast_ofNat_Int, and_self, k_pend_g, pendV, go_sem, i64_wrap_id, Int.reduceAdd, Int.reduceSub, Int.reduceNeg, Int.reduceMul, Nat.reduceSub, Nat.reduceEqDiff, Nat.reduceAdd, Nat.reduceMul, Nat.reduceLeDiff, ↓reduceIte, reduceCtorEq, Int.reduceToNat, Int.reduceLT, Int.reduceLE, Int.reduceEq, hs, hjl', hj0, Int.toNat_natCast, hnd, hlen, hb, hdl, hgt, Nat.mul_one, hj1', hw1, hc48, hq0, hql, hrd, hw2, List.length_set, ↓ow_all]
    refine hN _ _ ⟨(hK1.set (fun i hi _ => by omega) _).set (fun i hi _ => by omega) _, (hL1.set _ _ hnS1).set _ _ hnS1, j + 1, by omega, ?_, ?_⟩ ?_
    · simp only [guard_undef, List.contains_cons, List.contains_nil, Nat.reduceBEq, Int.cast_ofNat_Int, and_self, k_pend_g, pendV, go_sem, i64_wrap_id, Int.reduceAdd, Int.reduceSub, Int.reduceNeg, Int.reduceMul, Nat.reduceSub, Nat.reduceEqDiff, Nat.reduceAdd, Nat.reduceMul, Nat.reduceLeDiff, ↓reduceIte, reduceCtorEq, Int.reduceToNat, Int.reduceLT, Int.reduceLE, Int.reduceEq, slots_cons, slots_nil, Int.natCast_add, Int.natCast_succ, Int.cast_ofNat_Int, hs]
    · rw [St.blk_set, if_pos rfl, ← depV_succ l j hjl, hdq, List.set_set]
      rfl
    · simp only [guard_undef, List.contains_cons, List.contains_nil, Nat.reduceBEq, Int.cast_ofNat_Int, and_self, k_pend_g, pendV, go_sem, i64_wrap_id, Int.reduceAdd, Int.reduceSub, Int.reduceNeg, Int.reduceMul, Nat.reduceSub, Nat.reduceEqDiff, Nat.reduceAdd, Nat.reduceMul, Nat.reduceLeDiff, ↓reduceIte, reduceCtorEq, Int.reduceToNat, Int.reduceLT, Int.reduceLE, Int.reduceEq, hs]
      simp [RowKit.intOf]
      omega
end Go.Proofs.Ytbgnaeagdneikaa
