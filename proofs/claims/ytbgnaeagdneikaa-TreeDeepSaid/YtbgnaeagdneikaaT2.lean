/- Trees: formed. -/
import Derived.Test.YtbgnaeagdneikaaT1
import Derived.Test.YtbgnaeagdneikaaSeatKKT
-- pp: new
namespace Go.Proofs.Ytbgnaeagdneikaa
open Go Go.Proofs.Ytbgnaeagdneikaa.Abs
set_option linter.unusedSimpArgs false
set_option linter.unusedVariables false

theorem sh_succ {P : Nat → Int} {k : Nat} (h : Sh P k) (h0 : k = 0 → P 0 = -1) (h1 : 0 < k → P k ∈ chain P (k - 1)) : Sh P (k + 1) := by
  intro i hi
  by_cases hik : i < k
  · exact h i hik
  · obtain rfl : i = k := by omega
    exact ⟨h0, h1⟩
theorem sh_in {P : Nat → Int} {k : Nat} (h : Sh P k) (h0 : 0 < k) {p : Int} (hp : p ∈ chain P ((k : Int) - 1)) : 0 ≤ p ∧ p < k := by
  have := chain_in h.tr k _ (by omega) (by omega) _ hp
  omega

set_option maxHeartbeats 2000000 in
theorem formed51 (x : Value) (l : List Nd) (S : St) (h : Ns S x l) (hok : ∀ x ∈ l, x.Ok) (hn : l.length ≤ 1000000) : ACalls Try.prog 51 [x] S (BoolPost (TForm l) S) := by
  refine ACalls.run hmix Try.func51 cN51 kN51 rfl fun hL Q hQ => ?_
  obtain ⟨b, e, rfl⟩ := Sl.slice h
  by_cases h0 : l.length = 0
  · have hz : ((l.length : Int) == 0) = true := by simp [h0]
    simp only [guard_undef, List.contains_cons, List.contains_nil, Nat.reduceBEq, Int.cast_ofNat_Int, and_self, k_pend_g, pendV, go_sem, i64_wrap_id, Int.reduceAdd, Int.reduceSub, Int.reduceNeg, Int.reduceMul, Nat.reduceSub, Nat.reduceEqDiff, Nat.reduceAdd, Nat.reduceMul, Nat.reduceLeDiff, ↓reduceIte, reduceCtorEq, Int.reduceToNat, Int.reduceLT, Int.reduceLE, Int.reduceEq, aN51, hz]
    refine hQ _ _ _ ?_; (first | rw [k_body_ret] | rw [k_body_normal]); simp only [resVals, resVal, ev, Env.get_put, ↓reduceIte, Nat.reduceEqDiff, Option.bind_some, Option.map_some, reduceCtorEq, ldv_true, ldv_false, lloadV_agg, partL, List.toList_toArray, cellsOf_set, cellsOf_new, rd_set, rd_new, List.length_cons, List.length_nil, Nat.reduceAdd, Nat.reduceLeDiff, Nat.le_refl, List.take_succ_cons, List.take_zero, List.drop_zero, Nat.add_eq_left, Nat.left_eq_add, List.getElem?_cons_zero, List.getElem?_cons_succ, aN51]; rw [retQ_some]; simp only [oneOr]
    exact ⟨⟨false, rfl, by simp [TForm, Shaped, h0]⟩, Keeps.refl _ _⟩
  have hz : ((l.length : Int) == 0) = false := by simp; intro e; apply h0; simp [e]
  obtain ⟨d, o, f, hv, he, hcs⟩ := h.ne (by omega)
  cases hv
  have hl0 : (0 : Int) < l.length := by omega
  have hp0 := par_at hok hcs 0 (by omega)
  by_cases hm : par l 0 = -1
  rotate_left
  · have hme : (par l 0 != -1) = true := by simpa using hm
    simp only [guard_undef, List.contains_cons, List.contains_nil, Nat.reduceBEq, Int.cast_ofNat_Int, and_self, k_pend_g, pendV, go_sem, i64_wrap_id, Int.reduceAdd, Int.reduceSub, Int.reduceNeg, Int.reduceMul, Nat.reduceSub, Nat.reduceEqDiff, Nat.reduceAdd, Nat.reduceMul, Nat.reduceLeDiff, ↓reduceIte, reduceCtorEq, Int.reduceToNat, Int.reduceLT, Int.reduceLE, Int.reduceEq, aN51, hz, hl0, Int.le_refl, Int.toNat_zero, hp0, hme]
    refine hQ _ _ _ ?_; (first | rw [k_body_ret] | rw [k_body_normal]); simp only [resVals, resVal, ev, Env.get_put, ↓reduceIte, Nat.reduceEqDiff, Option.bind_some, Option.map_some, reduceCtorEq, ldv_true, ldv_false, lloadV_agg, partL, List.toList_toArray, cellsOf_set, cellsOf_new, rd_set, rd_new, List.length_cons, List.length_nil, Nat.reduceAdd, Nat.reduceLeDiff, Nat.le_refl, List.take_succ_cons, List.take_zero, List.drop_zero, Nat.add_eq_left, Nat.left_eq_add, List.getElem?_cons_zero, List.getElem?_cons_succ, aN51]; rw [retQ_some]; simp only [oneOr]
    exact ⟨⟨false, rfl, by simp; intro hf; exact hm ((hf.1.2 0 hf.1.1).1 rfl)⟩, Keeps.refl _ _⟩
  have hme : (par l 0 != -1) = false := by simpa using hm
  simp only [guard_undef, List.contains_cons, List.contains_nil, Nat.reduceBEq, Int.cast_ofNat_Int, and_self, k_pend_g, pendV, go_sem, i64_wrap_id, Int.reduceAdd, Int.reduceSub, Int.reduceNeg, Int.reduceMul, Nat.reduceSub, Nat.reduceEqDiff, Nat.reduceAdd, Nat.reduceMul, Nat.reduceLeDiff, ↓reduceIte, reduceCtorEq, Int.reduceToNat, Int.reduceLT, Int.reduceLE, Int.reduceEq, aN51, hz, hl0, Int.le_refl, Int.toNat_zero, hp0, hme]
  refine lK_of (fun t' S' => KeepsAll S S' ∧ Live S' ∧ ∃ j : Nat, j ≤ l.length ∧ Slots t' [(0, .slice (some ⟨d, o, none⟩) l.length e), (17, .int .i64 l.length), (18, .int .i64 j)] ∧ Sh (par l) j ∧ ∀ (k : Nat) (h1 : k < l.length), k < j → SFormed l[k].s) (fun t' _ => (l.length - RowKit.intOf (t' 18)).toNat) ?_ ?_
  · refine ⟨Keeps.refl _ _, hL, 0, by omega, ?_, fun i hi => by omega, fun k _ hk => by omega⟩
    simp only [guard_undef, List.contains_cons, List.contains_nil, Nat.reduceBEq, Int.cast_ofNat_Int, and_self, k_pend_g, pendV, go_sem, i64_wrap_id, Int.reduceAdd, Int.reduceSub, Int.reduceNeg, Int.reduceMul, Nat.reduceSub, Nat.reduceEqDiff, Nat.reduceAdd, Nat.reduceMul, Nat.reduceLeDiff, ↓reduceIte, reduceCtorEq, Int.reduceToNat, Int.reduceLT, Int.reduceLE, Int.reduceEq, slots_cons, slots_nil, Int.natCast_add, Int.natCast_succ, Int.cast_ofNat_Int, hme]
  rintro t1 S1 Q1 ⟨hK1, hL1, j, hj, hs, hsh, hfm⟩ _ hN hE
  simp only [slots_cons, slots_nil] at hs
  have h1 : Ns S1 (.slice (some ⟨d, o, none⟩) l.length e) l := Sl.keeps hL h hK1 fun _ _ => trivial
  by_cases hjn : j = l.length
  · subst hjn
    simp only [guard_undef, List.contains_cons, List.contains_nil, Nat.reduceBEq, Int.cast_ofNat_Int, and_self, k_pend_g, pendV, go_sem, i64_wrap_id, Int.reduceAdd, Int.reduceSub, Int.reduceNeg, Int.reduceMul, Nat.reduceSub, Nat.reduceEqDiff, Nat.reduceAdd, Nat.reduceMul, Nat.reduceLeDiff, ↓reduceIte, reduceCtorEq, Int.reduceToNat, Int.reduceLT, Int.reduceLE, Int.reduceEq, hs, Int.lt_irrefl]
    refine hE _ _ _ (by simp) ?_
    simp only [guard_undef, List.contains_cons, List.contains_nil, Nat.reduceBEq, Int.cast_ofNat_Int, and_self, k_pend_g, pendV, go_sem, i64_wrap_id, Int.reduceAdd, Int.reduceSub, Int.reduceNeg, Int.reduceMul, Nat.reduceSub, Nat.reduceEqDiff, Nat.reduceAdd, Nat.reduceMul, Nat.reduceLeDiff, ↓reduceIte, reduceCtorEq, Int.reduceToNat, Int.reduceLT, Int.reduceLE, Int.reduceEq, hs]
    refine hQ _ _ _ ?_; (first | rw [k_body_ret] | rw [k_body_normal]); simp only [resVals, resVal, ev, Env.get_put, ↓reduceIte, Nat.reduceEqDiff, Option.bind_some, Option.map_some, reduceCtorEq, ldv_true, ldv_false, lloadV_agg, partL, List.toList_toArray, cellsOf_set, cellsOf_new, rd_set, rd_new, List.length_cons, List.length_nil, Nat.reduceAdd, Nat.reduceLeDiff, Nat.le_refl, List.take_succ_cons, List.take_zero, List.drop_zero, Nat.add_eq_left, Nat.left_eq_add, List.getElem?_cons_zero, List.getElem?_cons_succ, aN51, hs]; rw [retQ_some]; simp only [oneOr]
    refine ⟨⟨true, rfl, iff_of_true rfl ⟨⟨by omega, hsh⟩, fun y hy => ?_⟩⟩, hK1⟩
    obtain ⟨k, g1, rfl⟩ := List.getElem_of_mem hy
    exact hfm k g1 g1
  have hjl : j < l.length := by omega
  have hjl' : (j : Int) < l.length := by omega
  have hj0 : (0 : Int) ≤ j := by omega
  have hj1 : IntKind.i64.wrap ((j : Int) + 1) = j + 1 := wrap64_id (by omega) (by omega)
  obtain ⟨d1, o1, f1, hv1, _, hcs1⟩ := h1.ne (by omega)
  cases hv1
  have hst := style_at hok hcs1 j hjl
  simp only [guard_undef, List.contains_cons, List.contains_nil, Nat.reduceBEq, Int.cast_ofNat_Int, and_self, k_pend_g, pendV, go_sem, i64_wrap_id, Int.reduceAdd, Int.reduceSub, Int.reduceNeg, Int.reduceMul, Nat.reduceSub, Nat.reduceEqDiff, Nat.reduceAdd, Nat.reduceMul, Nat.reduceLeDiff, ↓reduceIte, reduceCtorEq, Int.reduceToNat, Int.reduceLT, Int.reduceLE, Int.reduceEq, hs, hjl']
  refine iK_cut (fun t' S' => Slots t' [(0, .slice (some ⟨d, o, none⟩) l.length e), (3, .int .i64 j), (17, .int .i64 l.length), (18, .int .i64 j)] ∧ S' = S1 ∧ Sh (par l) (j + 1)) (fun Q6 hN6 hE6 => iK_split (fun hc => ?_) (fun hc => ?_)) ?_
  · have hj0' : 0 < j := by simpa using hc
    simp only [guard_undef, List.contains_cons, List.contains_nil, Nat.reduceBEq, Int.cast_ofNat_Int, and_self, k_pend_g, pendV, go_sem, i64_wrap_id, Int.reduceAdd, Int.reduceSub, Int.reduceNeg, Int.reduceMul, Nat.reduceSub, Nat.reduceEqDiff, Nat.reduceAdd, Nat.reduceMul, Nat.reduceLeDiff, ↓reduceIte, reduceCtorEq, Int.reduceToNat, Int.reduceLT, Int.reduceLE, Int.reduceEq, hs, hjl']
    refine cK_of (up83 _ l j S1 h1 hok hjl hn hsh.tr) ?_
    rintro r2 S2 hS2 hL2 ⟨rfl, rfl⟩
    match hpo : posOf (par l j) (chain (par l) ((j : Int) - 1)) with
    | none =>
      simp only [guard_undef, List.contains_cons, List.contains_nil, Nat.reduceBEq, Int.cast_ofNat_Int, and_self, k_pend_g, pendV, go_sem, i64_wrap_id, Int.reduceAdd, Int.reduceSub, Int.reduceNeg, Int.reduceMul, Nat.reduceSub, Nat.reduceEqDiff, Nat.reduceAdd, Nat.reduceMul, Nat.reduceLeDiff, ↓reduceIte, reduceCtorEq, Int.reduceToNat, Int.reduceLT, Int.reduceLE, Int.reduceEq, hs]
      refine hE6 _ _ _ (by simp) ?_
      simp only [guard_undef, List.contains_cons, List.contains_nil, Nat.reduceBEq, Int.cast_ofNat_Int, and_self, k_pend_g, pendV, go_sem, i64_wrap_id, Int.reduceAdd, Int.reduceSub, Int.reduceNeg, Int.reduceMul, Nat.reduceSub, Nat.reduceEqDiff, Nat.reduceAdd, Nat.reduceMul, Nat.reduceLeDiff, ↓reduceIte, reduceCtorEq, Int.reduceToNat, Int.reduceLT, Int.reduceLE, Int.reduceEq, hs]
      refine hE _ _ _ (by simp) ?_
      simp only [guard_undef, List.contains_cons, List.contains_nil, Nat.reduceBEq, Int.cast_ofNat_Int, and_self, k_pend_g, pendV, go_sem, i64_wrap_id, Int.reduceAdd, Int.reduceSub, Int.reduceNeg, Int.reduceMul, Nat.reduceSub, Nat.reduceEqDiff, Nat.reduceAdd, Nat.reduceMul, Nat.reduceLeDiff, ↓reduceIte, reduceCtorEq, Int.reduceToNat, Int.reduceLT, Int.reduceLE, Int.reduceEq, hs]
      refine hQ _ _ _ ?_; (first | rw [k_body_ret] | rw [k_body_normal]); simp only [resVals, resVal, ev, Env.get_put, ↓reduceIte, Nat.reduceEqDiff, Option.bind_some, Option.map_some, reduceCtorEq, ldv_true, ldv_false, lloadV_agg, partL, List.toList_toArray, cellsOf_set, cellsOf_new, rd_set, rd_new, List.length_cons, List.length_nil, Nat.reduceAdd, Nat.reduceLeDiff, Nat.le_refl, List.take_succ_cons, List.take_zero, List.drop_zero, Nat.add_eq_left, Nat.left_eq_add, List.getElem?_cons_zero, List.getElem?_cons_succ, aN51, hs]; rw [retQ_some]; simp only [oneOr]
      refine ⟨⟨false, rfl, by simp; intro hf; obtain ⟨n, hn⟩ := posOf_some.2 ((hf.1.2 j hjl).2 hj0'); rw [hpo] at hn; cases hn⟩, hK1⟩
    | some n =>
      simp only [guard_undef, List.contains_cons, List.contains_nil, Nat.reduceBEq, Int.cast_ofNat_Int, and_self, k_pend_g, pendV, go_sem, i64_wrap_id, Int.reduceAdd, Int.reduceSub, Int.reduceNeg, Int.reduceMul, Nat.reduceSub, Nat.reduceEqDiff, Nat.reduceAdd, Nat.reduceMul, Nat.reduceLeDiff, ↓reduceIte, reduceCtorEq, Int.reduceToNat, Int.reduceLT, Int.reduceLE, Int.reduceEq, hs]
      refine hN6 _ _ ⟨?_, rfl, sh_succ hsh (fun e => by omega) fun _ => posOf_some.1 ⟨n, hpo⟩⟩
      simp only [guard_undef, List.contains_cons, List.contains_nil, Nat.reduceBEq, Int.cast_ofNat_Int, and_self, k_pend_g, pendV, go_sem, i64_wrap_id, Int.reduceAdd, Int.reduceSub, Int.reduceNeg, Int.reduceMul, Nat.reduceSub, Nat.reduceEqDiff, Nat.reduceAdd, Nat.reduceMul, Nat.reduceLeDiff, ↓reduceIte, reduceCtorEq, Int.reduceToNat, Int.reduceLT, Int.reduceLE, Int.reduceEq, slots_cons, slots_nil, Int.natCast_add, Int.natCast_succ, Int.cast_ofNat_Int, hs]
  · have hj0' : ¬ 0 < j := by simpa using hc
    simp only [guard_undef, List.contains_cons, List.contains_nil, Nat.reduceBEq, Int.cast_ofNat_Int, and_self, k_pend_g, pendV, go_sem, i64_wrap_id, Int.reduceAdd, Int.reduceSub, Int.reduceNeg, Int.reduceMul, Nat.reduceSub, Nat.reduceEqDiff, Nat.reduceAdd, Nat.reduceMul, Nat.reduceLeDiff, ↓reduceIte, reduceCtorEq, Int.reduceToNat, Int.reduceLT, Int.reduceLE, Int.reduceEq, hs, hjl']
    refine hN6 _ _ ⟨?_, rfl, sh_succ hsh (fun e => hm) fun e => by omega⟩
    simp only [guard_undef, List.contains_cons, List.contains_nil, Nat.reduceBEq, Int.cast_ofNat_Int, and_self, k_pend_g, pendV, go_sem, i64_wrap_id, Int.reduceAdd, Int.reduceSub, Int.reduceNeg, Int.reduceMul, Nat.reduceSub, Nat.reduceEqDiff, Nat.reduceAdd, Nat.reduceMul, Nat.reduceLeDiff, ↓reduceIte, reduceCtorEq, Int.reduceToNat, Int.reduceLT, Int.reduceLE, Int.reduceEq, slots_cons, slots_nil, Int.natCast_add, Int.natCast_succ, Int.cast_ofNat_Int, hs]
  rintro t6 S6 ⟨h6, rfl, hsh6⟩
  simp only [slots_cons, slots_nil] at h6
  have hslen := (hok _ (List.getElem_mem hjl)).s.len
  simp only [guard_undef, List.contains_cons, List.contains_nil, Nat.reduceBEq, Int.cast_ofNat_Int, and_self, k_pend_g, pendV, go_sem, i64_wrap_id, Int.reduceAdd, Int.reduceSub, Int.reduceNeg, Int.reduceMul, Nat.reduceSub, Nat.reduceEqDiff, Nat.reduceAdd, Nat.reduceMul, Nat.reduceLeDiff, ↓reduceIte, reduceCtorEq, Int.reduceToNat, Int.reduceLT, Int.reduceLE, Int.reduceEq, h6, hjl', hj0, Int.toNat_natCast, hst]
  refine cK_of (formed20 l[j].s (hok _ (List.getElem_mem hjl)).s S6) ?_
  rintro r7 S7 hS7 hL7 ⟨⟨c, rfl, hc⟩, hK7⟩
  cases c
  · simp only [guard_undef, List.contains_cons, List.contains_nil, Nat.reduceBEq, Int.cast_ofNat_Int, and_self, k_pend_g, pendV, go_sem, i64_wrap_id, Int.reduceAdd, Int.reduceSub, Int.reduceNeg, Int.reduceMul, Nat.reduceSub, Nat.reduceEqDiff, Nat.reduceAdd, Nat.reduceMul, Nat.reduceLeDiff, ↓reduceIte, reduceCtorEq, Int.reduceToNat, Int.reduceLT, Int.reduceLE, Int.reduceEq, h6]
    refine hE _ _ _ (by simp) ?_
    simp only [guard_undef, List.contains_cons, List.contains_nil, Nat.reduceBEq, Int.cast_ofNat_Int, and_self, k_pend_g, pendV, go_sem, i64_wrap_id, Int.reduceAdd, Int.reduceSub, Int.reduceNeg, Int.reduceMul, Nat.reduceSub, Nat.reduceEqDiff, Nat.reduceAdd, Nat.reduceMul, Nat.reduceLeDiff, ↓reduceIte, reduceCtorEq, Int.reduceToNat, Int.reduceLT, Int.reduceLE, Int.reduceEq, h6]
    refine hQ _ _ _ ?_; (first | rw [k_body_ret] | rw [k_body_normal]); simp only [resVals, resVal, ev, Env.get_put, ↓reduceIte, Nat.reduceEqDiff, Option.bind_some, Option.map_some, reduceCtorEq, ldv_true, ldv_false, lloadV_agg, partL, List.toList_toArray, cellsOf_set, cellsOf_new, rd_set, rd_new, List.length_cons, List.length_nil, Nat.reduceAdd, Nat.reduceLeDiff, Nat.le_refl, List.take_succ_cons, List.take_zero, List.drop_zero, Nat.add_eq_left, Nat.left_eq_add, List.getElem?_cons_zero, List.getElem?_cons_succ, aN51, h6]; rw [retQ_some]; simp only [oneOr]
    exact ⟨⟨false, rfl, by simp; intro hf; have := hc.2 (hf.2 _ (List.getElem_mem hjl)); cases this⟩, hK1.trans hK7 fun _ _ _ => trivial⟩
  · simp only [guard_undef, List.contains_cons, List.contains_nil, Nat.reduceBEq, Int.cast_ofNat_Int, and_self, k_pend_g, pendV, go_sem, i64_wrap_id, Int.reduceAdd, Int.reduceSub, Int.reduceNeg, Int.reduceMul, Nat.reduceSub, Nat.reduceEqDiff, Nat.reduceAdd, Nat.reduceMul, Nat.reduceLeDiff, ↓reduceIte, reduceCtorEq, Int.reduceToNat, Int.reduceLT, Int.reduceLE, Int.reduceEq, h6, hj1]
    refine hN _ _ ⟨hK1.trans hK7 fun _ _ _ => trivial, hL7, j + 1, by omega, ?_, hsh6, fun k g1 g2 => ?_⟩ ?_
    · simp only [guard_undef, List.contains_cons, List.contains_nil, Nat.reduceBEq, Int.cast_ofNat_Int, and_self, k_pend_g, pendV, go_sem, i64_wrap_id, Int.reduceAdd, Int.reduceSub, Int.reduceNeg, Int.reduceMul, Nat.reduceSub, Nat.reduceEqDiff, Nat.reduceAdd, Nat.reduceMul, Nat.reduceLeDiff, ↓reduceIte, reduceCtorEq, Int.reduceToNat, Int.reduceLT, Int.reduceLE, Int.reduceEq, slots_cons, slots_nil, Int.natCast_add, Int.natCast_succ, Int.cast_ofNat_Int, h6]
    · by_cases hkj : k = j
      · subst hkj; exact hc.1 rfl
      · exact hfm k g1 (by omega)
    · simp only [guard_undef, List.contains_cons, List.contains_nil, Nat.reduceBEq, Int.cast_ofNat_Int, and_self, k_pend_g, pendV, go_sem, i64_wrap_id, Int.reduceAdd, Int.reduceSub, Int.reduceNeg, Int.reduceMul, Nat.reduceSub, Nat.reduceEqDiff, Nat.reduceAdd, Nat.reduceMul, Nat.reduceLeDiff, ↓reduceIte, reduceCtorEq, Int.reduceToNat, Int.reduceLT, Int.reduceLE, Int.reduceEq, h6, hs]
      simp [RowKit.intOf]
      omega

set_option maxHeartbeats 2000000 in
theorem shaped84 (x : Value) (l : List Nd) (S : St) (h : Ns S x l) (hok : ∀ x ∈ l, x.Ok) (hn : l.length ≤ 1000000) : ACalls Try.prog 84 [x] S (BoolIs (Shaped l) S) := by
  refine ACalls.run hmix Try.func84 cN84 kN84 rfl fun hL Q hQ => ?_
  obtain ⟨b, e, rfl⟩ := Sl.slice h
  by_cases h0 : l.length = 0
  · have hz : ((l.length : Int) == 0) = true := by simp [h0]
    simp only [guard_undef, List.contains_cons, List.contains_nil, Nat.reduceBEq, Int.cast_ofNat_Int, and_self, k_pend_g, pendV, go_sem, i64_wrap_id, Int.reduceAdd, Int.reduceSub, Int.reduceNeg, Int.reduceMul, Nat.reduceSub, Nat.reduceEqDiff, Nat.reduceAdd, Nat.reduceMul, Nat.reduceLeDiff, ↓reduceIte, reduceCtorEq, Int.reduceToNat, Int.reduceLT, Int.reduceLE, Int.reduceEq, aN84, hz]
    refine hQ _ _ _ ?_; (first | rw [k_body_ret] | rw [k_body_normal]); simp only [resVals, resVal, ev, Env.get_put, ↓reduceIte, Nat.reduceEqDiff, Option.bind_some, Option.map_some, reduceCtorEq, ldv_true, ldv_false, lloadV_agg, partL, List.toList_toArray, cellsOf_set, cellsOf_new, rd_set, rd_new, List.length_cons, List.length_nil, Nat.reduceAdd, Nat.reduceLeDiff, Nat.le_refl, List.take_succ_cons, List.take_zero, List.drop_zero, Nat.add_eq_left, Nat.left_eq_add, List.getElem?_cons_zero, List.getElem?_cons_succ, aN84]; rw [retQ_some]; simp only [oneOr]
    exact ⟨rfl, false, rfl, by simp [Shaped, h0]⟩
  have hz : ((l.length : Int) == 0) = false := by simp; intro e; apply h0; simp [e]
  obtain ⟨d, o, f, hv, he, hcs⟩ := h.ne (by omega)
  cases hv
  have hl0 : (0 : Int) < l.length := by omega
  have hp0 := par_at hok hcs 0 (by omega)
  by_cases hm : par l 0 = -1
  rotate_left
  · have hme : (par l 0 != -1) = true := by simpa using hm
    simp only [guard_undef, List.contains_cons, List.contains_nil, Nat.reduceBEq, Int.cast_ofNat_Int, and_self, k_pend_g, pendV, go_sem, i64_wrap_id, Int.reduceAdd, Int.reduceSub, Int.reduceNeg, Int.reduceMul, Nat.reduceSub, Nat.reduceEqDiff, Nat.reduceAdd, Nat.reduceMul, Nat.reduceLeDiff, ↓reduceIte, reduceCtorEq, Int.reduceToNat, Int.reduceLT, Int.reduceLE, Int.reduceEq, aN84, hz, hl0, Int.le_refl, Int.toNat_zero, hp0, hme]
    refine hQ _ _ _ ?_; (first | rw [k_body_ret] | rw [k_body_normal]); simp only [resVals, resVal, ev, Env.get_put, ↓reduceIte, Nat.reduceEqDiff, Option.bind_some, Option.map_some, reduceCtorEq, ldv_true, ldv_false, lloadV_agg, partL, List.toList_toArray, cellsOf_set, cellsOf_new, rd_set, rd_new, List.length_cons, List.length_nil, Nat.reduceAdd, Nat.reduceLeDiff, Nat.le_refl, List.take_succ_cons, List.take_zero, List.drop_zero, Nat.add_eq_left, Nat.left_eq_add, List.getElem?_cons_zero, List.getElem?_cons_succ, aN84]; rw [retQ_some]; simp only [oneOr]
    exact ⟨rfl, false, rfl, by simp; intro hf; exact hm ((hf.2 0 hf.1).1 rfl)⟩
  have hme : (par l 0 != -1) = false := by simpa using hm
  simp only [guard_undef, List.contains_cons, List.contains_nil, Nat.reduceBEq, Int.cast_ofNat_Int, and_self, k_pend_g, pendV, go_sem, i64_wrap_id, Int.reduceAdd, Int.reduceSub, Int.reduceNeg, Int.reduceMul, Nat.reduceSub, Nat.reduceEqDiff, Nat.reduceAdd, Nat.reduceMul, Nat.reduceLeDiff, ↓reduceIte, reduceCtorEq, Int.reduceToNat, Int.reduceLT, Int.reduceLE, Int.reduceEq, aN84, hz, hl0, Int.le_refl, Int.toNat_zero, hp0, hme]
  refine lK_of (fun t' S' => S' = S ∧ ∃ j : Nat, 1 ≤ j ∧ j ≤ l.length ∧ Slots t' [(0, .slice (some ⟨d, o, none⟩) l.length e), (3, .int .i64 j)] ∧ Sh (par l) j) (fun t' _ => (l.length - RowKit.intOf (t' 3)).toNat) ?_ ?_
  · refine ⟨rfl, 1, by omega, by omega, ?_, fun i hi => ⟨fun _ => hm, fun h => by omega⟩⟩
    simp only [guard_undef, List.contains_cons, List.contains_nil, Nat.reduceBEq, Int.cast_ofNat_Int, and_self, k_pend_g, pendV, go_sem, i64_wrap_id, Int.reduceAdd, Int.reduceSub, Int.reduceNeg, Int.reduceMul, Nat.reduceSub, Nat.reduceEqDiff, Nat.reduceAdd, Nat.reduceMul, Nat.reduceLeDiff, ↓reduceIte, reduceCtorEq, Int.reduceToNat, Int.reduceLT, Int.reduceLE, Int.reduceEq, slots_cons, slots_nil, Int.natCast_add, Int.natCast_succ, Int.cast_ofNat_Int, hme]
  rintro t1 S1 Q1 ⟨rfl, j, hj1, hj, hs, hsh⟩ _ hN hE
  simp only [slots_cons, slots_nil] at hs
  by_cases hjn : j = l.length
  · subst hjn
    simp only [guard_undef, List.contains_cons, List.contains_nil, Nat.reduceBEq, Int.cast_ofNat_Int, and_self, k_pend_g, pendV, go_sem, i64_wrap_id, Int.reduceAdd, Int.reduceSub, Int.reduceNeg, Int.reduceMul, Nat.reduceSub, Nat.reduceEqDiff, Nat.reduceAdd, Nat.reduceMul, Nat.reduceLeDiff, ↓reduceIte, reduceCtorEq, Int.reduceToNat, Int.reduceLT, Int.reduceLE, Int.reduceEq, hs, Int.lt_irrefl]
    refine hE _ _ _ (by simp) ?_
    simp only [guard_undef, List.contains_cons, List.contains_nil, Nat.reduceBEq, Int.cast_ofNat_Int, and_self, k_pend_g, pendV, go_sem, i64_wrap_id, Int.reduceAdd, Int.reduceSub, Int.reduceNeg, Int.reduceMul, Nat.reduceSub, Nat.reduceEqDiff, Nat.reduceAdd, Nat.reduceMul, Nat.reduceLeDiff, ↓reduceIte, reduceCtorEq, Int.reduceToNat, Int.reduceLT, Int.reduceLE, Int.reduceEq, hs]
    refine hQ _ _ _ ?_; (first | rw [k_body_ret] | rw [k_body_normal]); simp only [resVals, resVal, ev, Env.get_put, ↓reduceIte, Nat.reduceEqDiff, Option.bind_some, Option.map_some, reduceCtorEq, ldv_true, ldv_false, lloadV_agg, partL, List.toList_toArray, cellsOf_set, cellsOf_new, rd_set, rd_new, List.length_cons, List.length_nil, Nat.reduceAdd, Nat.reduceLeDiff, Nat.le_refl, List.take_succ_cons, List.take_zero, List.drop_zero, Nat.add_eq_left, Nat.left_eq_add, List.getElem?_cons_zero, List.getElem?_cons_succ, aN84, hs]; rw [retQ_some]; simp only [oneOr]
    exact ⟨rfl, true, rfl, iff_of_true rfl ⟨by omega, hsh⟩⟩
  have hjl : j < l.length := by omega
  have hjl' : (j : Int) < l.length := by omega
  have hj0 : (0 : Int) ≤ j := by omega
  have hw1 : IntKind.i64.wrap ((j : Int) + 1) = j + 1 := wrap64_id (by omega) (by omega)
  have hw2 : IntKind.i64.wrap ((j : Int) - 1) = j - 1 := wrap64_id (by omega) (by omega)
  have hpj := par_at hok hcs j hjl
  have hno : ¬ (par l j ∈ chain (par l) ((j : Int) - 1)) → ¬ Shaped l := fun hh hf => hh ((hf.2 j hjl).2 (by omega))
  by_cases g1 : par l j < 0
  · simp only [guard_undef, List.contains_cons, List.contains_nil, Nat.reduceBEq, Int.cast_ofNat_Int, and_self, k_pend_g, pendV, go_sem, i64_wrap_id, Int.reduceAdd, Int.reduceSub, Int.reduceNeg, Int.reduceMul, Nat.reduceSub, Nat.reduceEqDiff, Nat.reduceAdd, Nat.reduceMul, Nat.reduceLeDiff, ↓reduceIte, reduceCtorEq, Int.reduceToNat, Int.reduceLT, Int.reduceLE, Int.reduceEq, hs, hjl', hj0, Int.toNat_natCast, hpj, g1]
    refine hE _ _ _ (by simp) ?_
    simp only [guard_undef, List.contains_cons, List.contains_nil, Nat.reduceBEq, Int.cast_ofNat_Int, and_self, k_pend_g, pendV, go_sem, i64_wrap_id, Int.reduceAdd, Int.reduceSub, Int.reduceNeg, Int.reduceMul, Nat.reduceSub, Nat.reduceEqDiff, Nat.reduceAdd, Nat.reduceMul, Nat.reduceLeDiff, ↓reduceIte, reduceCtorEq, Int.reduceToNat, Int.reduceLT, Int.reduceLE, Int.reduceEq, hs]
    refine hQ _ _ _ ?_; (first | rw [k_body_ret] | rw [k_body_normal]); simp only [resVals, resVal, ev, Env.get_put, ↓reduceIte, Nat.reduceEqDiff, Option.bind_some, Option.map_some, reduceCtorEq, ldv_true, ldv_false, lloadV_agg, partL, List.toList_toArray, cellsOf_set, cellsOf_new, rd_set, rd_new, List.length_cons, List.length_nil, Nat.reduceAdd, Nat.reduceLeDiff, Nat.le_refl, List.take_succ_cons, List.take_zero, List.drop_zero, Nat.add_eq_left, Nat.left_eq_add, List.getElem?_cons_zero, List.getElem?_cons_succ, aN84, hs]; rw [retQ_some]; simp only [oneOr]
    exact ⟨rfl, false, rfl, iff_of_false (by simp) (hno fun hp => by have := sh_in hsh (by omega) hp; omega)⟩
  by_cases g2 : (j : Int) ≤ par l j
  · simp only [guard_undef, List.contains_cons, List.contains_nil, Nat.reduceBEq, Int.cast_ofNat_Int, and_self, k_pend_g, pendV, go_sem, i64_wrap_id, Int.reduceAdd, Int.reduceSub, Int.reduceNeg, Int.reduceMul, Nat.reduceSub, Nat.reduceEqDiff, Nat.reduceAdd, Nat.reduceMul, Nat.reduceLeDiff, ↓reduceIte, reduceCtorEq, Int.reduceToNat, Int.reduceLT, Int.reduceLE, Int.reduceEq, hs, hjl', hj0, Int.toNat_natCast, hpj, g1, g2]
    refine hE _ _ _ (by simp) ?_
    simp only [guard_undef, List.contains_cons, List.contains_nil, Nat.reduceBEq, Int.cast_ofNat_Int, and_self, k_pend_g, pendV, go_sem, i64_wrap_id, Int.reduceAdd, Int.reduceSub, Int.reduceNeg, Int.reduceMul, Nat.reduceSub, Nat.reduceEqDiff, Nat.reduceAdd, Nat.reduceMul, Nat.reduceLeDiff, ↓reduceIte, reduceCtorEq, Int.reduceToNat, Int.reduceLT, Int.reduceLE, Int.reduceEq, hs]
    refine hQ _ _ _ ?_; (first | rw [k_body_ret] | rw [k_body_normal]); simp only [resVals, resVal, ev, Env.get_put, ↓reduceIte, Nat.reduceEqDiff, Option.bind_some, Option.map_some, reduceCtorEq, ldv_true, ldv_false, lloadV_agg, partL, List.toList_toArray, cellsOf_set, cellsOf_new, rd_set, rd_new, List.length_cons, List.length_nil, Nat.reduceAdd, Nat.reduceLeDiff, Nat.le_refl, List.take_succ_cons, List.take_zero, List.drop_zero, Nat.add_eq_left, Nat.left_eq_add, List.getElem?_cons_zero, List.getElem?_cons_succ, aN84, hs]; rw [retQ_some]; simp only [oneOr]
    exact ⟨rfl, false, rfl, iff_of_false (by simp) (hno fun hp => by have := sh_in hsh (by omega) hp; omega)⟩
  simp only [guard_undef, List.contains_cons, List.contains_nil, Nat.reduceBEq, Int.cast_ofNat_Int, and_self, k_pend_g, pendV, go_sem, i64_wrap_id, Int.reduceAdd, Int.reduceSub, Int.reduceNeg, Int.reduceMul, Nat.reduceSub, Nat.reduceEqDiff, Nat.reduceAdd, Nat.reduceMul, Nat.reduceLeDiff, ↓reduceIte, reduceCtorEq, Int.reduceToNat, Int.reduceLT, Int.reduceLE, Int.reduceEq, hs, hjl', hj0, Int.toNat_natCast, hpj, g1, g2, hw2]
  refine cK_of (above94 _ l (par l j) ((j : Int) - 1) j S1 h hok (by omega) hsh.tr (by omega) (by omega)) ?_
  rintro r2 S2 hS2 hL2 ⟨rfl, c, rfl, hc⟩
  cases c
  · simp only [guard_undef, List.contains_cons, List.contains_nil, Nat.reduceBEq, Int.cast_ofNat_Int, and_self, k_pend_g, pendV, go_sem, i64_wrap_id, Int.reduceAdd, Int.reduceSub, Int.reduceNeg, Int.reduceMul, Nat.reduceSub, Nat.reduceEqDiff, Nat.reduceAdd, Nat.reduceMul, Nat.reduceLeDiff, ↓reduceIte, reduceCtorEq, Int.reduceToNat, Int.reduceLT, Int.reduceLE, Int.reduceEq, hs]
    refine hE _ _ _ (by simp) ?_
    simp only [guard_undef, List.contains_cons, List.contains_nil, Nat.reduceBEq, Int.cast_ofNat_Int, and_self, k_pend_g, pendV, go_sem, i64_wrap_id, Int.reduceAdd, Int.reduceSub, Int.reduceNeg, Int.reduceMul, Nat.reduceSub, Nat.reduceEqDiff, Nat.reduceAdd, Nat.reduceMul, Nat.reduceLeDiff, ↓reduceIte, reduceCtorEq, Int.reduceToNat, Int.reduceLT, Int.reduceLE, Int.reduceEq, hs]
    refine hQ _ _ _ ?_; (first | rw [k_body_ret] | rw [k_body_normal]); simp only [resVals, resVal, ev, Env.get_put, ↓reduceIte, Nat.reduceEqDiff, Option.bind_some, Option.map_some, reduceCtorEq, ldv_true, ldv_false, lloadV_agg, partL, List.toList_toArray, cellsOf_set, cellsOf_new, rd_set, rd_new, List.length_cons, List.length_nil, Nat.reduceAdd, Nat.reduceLeDiff, Nat.le_refl, List.take_succ_cons, List.take_zero, List.drop_zero, Nat.add_eq_left, Nat.left_eq_add, List.getElem?_cons_zero, List.getElem?_cons_succ, aN84, hs]; rw [retQ_some]; simp only [oneOr]
    exact ⟨rfl, false, rfl, iff_of_false (by simp) (hno fun hp => by have := hc.2 hp; cases this)⟩
  · simp only [guard_undef, List.contains_cons, List.contains_nil, Nat.reduceBEq, Int.cast_ofNat_Int, and_self, k_pend_g, pendV, go_sem, i64_wrap_id, Int.reduceAdd, Int.reduceSub, Int.reduceNeg, Int.reduceMul, Nat.reduceSub, Nat.reduceEqDiff, Nat.reduceAdd, Nat.reduceMul, Nat.reduceLeDiff, ↓reduceIte, reduceCtorEq, Int.reduceToNat, Int.reduceLT, Int.reduceLE, Int.reduceEq, hs, hw1]
    refine hN _ _ ⟨rfl, j + 1, by omega, by omega, ?_, sh_succ hsh (fun e => by omega) fun _ => hc.1 rfl⟩ ?_
    · simp only [guard_undef, List.contains_cons, List.contains_nil, Nat.reduceBEq, Int.cast_ofNat_Int, and_self, k_pend_g, pendV, go_sem, i64_wrap_id, Int.reduceAdd, Int.reduceSub, Int.reduceNeg, Int.reduceMul, Nat.reduceSub, Nat.reduceEqDiff, Nat.reduceAdd, Nat.reduceMul, Nat.reduceLeDiff, ↓reduceIte, reduceCtorEq, Int.reduceToNat, Int.reduceLT, Int.reduceLE, Int.reduceEq, slots_cons, slots_nil, Int.natCast_add, Int.natCast_succ, Int.cast_ofNat_Int, hs]
    · simp only [guard_undef, List.contains_cons, List.contains_nil, Nat.reduceBEq, Int.cast_ofNat_Int, and_self, k_pend_g, pendV, go_sem, i64_wrap_id, Int.reduceAdd, Int.reduceSub, Int.reduceNeg, Int.reduceMul, Nat.reduceSub, Nat.reduceEqDiff, Nat.reduceAdd, Nat.reduceMul, Nat.reduceLeDiff, ↓reduceIte, reduceCtorEq, Int.reduceToNat, Int.reduceLT, Int.reduceLE, Int.reduceEq, hs]
      simp [RowKit.intOf]
      omega

set_option maxHeartbeats 2000000 in
theorem formed52 (x : Value) (l : List Nd) (S : St) (h : Ns S x l) (hok : ∀ x ∈ l, x.Ok) (hn : l.length ≤ 1000000) : ACalls Try.prog 52 [x] S (BoolPost (TForm l) S) := by
  refine ACalls.run hmix Try.func52 cN52 kN52 rfl fun hL Q hQ => ?_
  simp only [guard_undef, List.contains_cons, List.contains_nil, Nat.reduceBEq, Int.cast_ofNat_Int, and_self, k_pend_g, pendV, go_sem, i64_wrap_id, Int.reduceAdd, Int.reduceSub, Int.reduceNeg, Int.reduceMul, Nat.reduceSub, Nat.reduceEqDiff, Nat.reduceAdd, Nat.reduceMul, Nat.reduceLeDiff, ↓reduceIte, reduceCtorEq, Int.reduceToNat, Int.reduceLT, Int.reduceLE, Int.reduceEq, aN52]
  refine cK_of (shaped84 x l S h hok hn) ?_
  rintro r0 S hS hL' ⟨rfl, c, rfl, hc⟩
  cases c
  · simp only [guard_undef, List.contains_cons, List.contains_nil, Nat.reduceBEq, Int.cast_ofNat_Int, and_self, k_pend_g, pendV, go_sem, i64_wrap_id, Int.reduceAdd, Int.reduceSub, Int.reduceNeg, Int.reduceMul, Nat.reduceSub, Nat.reduceEqDiff, Nat.reduceAdd, Nat.reduceMul, Nat.reduceLeDiff, ↓reduceIte, reduceCtorEq, Int.reduceToNat, Int.reduceLT, Int.reduceLE, Int.reduceEq]
    refine hQ _ _ _ ?_; (first | rw [k_body_ret] | rw [k_body_normal]); simp only [resVals, resVal, ev, Env.get_put, ↓reduceIte, Nat.reduceEqDiff, Option.bind_some, Option.map_some, reduceCtorEq, ldv_true, ldv_false, lloadV_agg, partL, List.toList_toArray, cellsOf_set, cellsOf_new, rd_set, rd_new, List.length_cons, List.length_nil, Nat.reduceAdd, Nat.reduceLeDiff, Nat.le_refl, List.take_succ_cons, List.take_zero, List.drop_zero, Nat.add_eq_left, Nat.left_eq_add, List.getElem?_cons_zero, List.getElem?_cons_succ, aN52]; rw [retQ_some]; simp only [oneOr]
    exact ⟨⟨false, rfl, iff_of_false (by simp) fun hf => by have := hc.2 hf.1; cases this⟩, Keeps.refl _ _⟩
  have hsp := hc.1 rfl
  obtain ⟨d, o, e, rfl, he, hcs⟩ := h.ne hsp.1
  simp only [guard_undef, List.contains_cons, List.contains_nil, Nat.reduceBEq, Int.cast_ofNat_Int, and_self, k_pend_g, pendV, go_sem, i64_wrap_id, Int.reduceAdd, Int.reduceSub, Int.reduceNeg, Int.reduceMul, Nat.reduceSub, Nat.reduceEqDiff, Nat.reduceAdd, Nat.reduceMul, Nat.reduceLeDiff, ↓reduceIte, reduceCtorEq, Int.reduceToNat, Int.reduceLT, Int.reduceLE, Int.reduceEq]
  refine lK_of (fun t' S' => KeepsAll S S' ∧ Live S' ∧ ∃ j : Nat, j ≤ l.length ∧ Slots t' [(0, .slice (some ⟨d, o, none⟩) l.length e), (8, .int .i64 l.length), (9, .int .i64 j)] ∧ ∀ (k : Nat) (h1 : k < l.length), k < j → SFormed l[k].s) (fun t' _ => (l.length - RowKit.intOf (t' 9)).toNat) ?_ ?_
  · refine ⟨Keeps.refl _ _, hL, 0, by omega, ?_, fun k _ hk => by omega⟩
    simp only [guard_undef, List.contains_cons, List.contains_nil, Nat.reduceBEq, Int.cast_ofNat_Int, and_self, k_pend_g, pendV, go_sem, i64_wrap_id, Int.reduceAdd, Int.reduceSub, Int.reduceNeg, Int.reduceMul, Nat.reduceSub, Nat.reduceEqDiff, Nat.reduceAdd, Nat.reduceMul, Nat.reduceLeDiff, ↓reduceIte, reduceCtorEq, Int.reduceToNat, Int.reduceLT, Int.reduceLE, Int.reduceEq, slots_cons, slots_nil, Int.natCast_add, Int.natCast_succ, Int.cast_ofNat_Int]
  rintro t1 S1 Q1 ⟨hK1, hL1, j, hj, hs, hfm⟩ _ hN hE
  simp only [slots_cons, slots_nil] at hs
  have h1 : Ns S1 (.slice (some ⟨d, o, none⟩) l.length e) l := Sl.keeps hL h hK1 fun _ _ => trivial
  by_cases hjn : j = l.length
  · subst hjn
    simp only [guard_undef, List.contains_cons, List.contains_nil, Nat.reduceBEq, Int.cast_ofNat_Int, and_self, k_pend_g, pendV, go_sem, i64_wrap_id, Int.reduceAdd, Int.reduceSub, Int.reduceNeg, Int.reduceMul, Nat.reduceSub, Nat.reduceEqDiff, Nat.reduceAdd, Nat.reduceMul, Nat.reduceLeDiff, ↓reduceIte, reduceCtorEq, Int.reduceToNat, Int.reduceLT, Int.reduceLE, Int.reduceEq, hs, Int.lt_irrefl]
    refine hE _ _ _ (by simp) ?_
    simp only [guard_undef, List.contains_cons, List.contains_nil, Nat.reduceBEq, Int.cast_ofNat_Int, and_self, k_pend_g, pendV, go_sem, i64_wrap_id, Int.reduceAdd, Int.reduceSub, Int.reduceNeg, Int.reduceMul, Nat.reduceSub, Nat.reduceEqDiff, Nat.reduceAdd, Nat.reduceMul, Nat.reduceLeDiff, ↓reduceIte, reduceCtorEq, Int.reduceToNat, Int.reduceLT, Int.reduceLE, Int.reduceEq, hs]
    refine hQ _ _ _ ?_; (first | rw [k_body_ret] | rw [k_body_normal]); simp only [resVals, resVal, ev, Env.get_put, ↓reduceIte, Nat.reduceEqDiff, Option.bind_some, Option.map_some, reduceCtorEq, ldv_true, ldv_false, lloadV_agg, partL, List.toList_toArray, cellsOf_set, cellsOf_new, rd_set, rd_new, List.length_cons, List.length_nil, Nat.reduceAdd, Nat.reduceLeDiff, Nat.le_refl, List.take_succ_cons, List.take_zero, List.drop_zero, Nat.add_eq_left, Nat.left_eq_add, List.getElem?_cons_zero, List.getElem?_cons_succ, aN52, hs]; rw [retQ_some]; simp only [oneOr]
    refine ⟨⟨true, rfl, iff_of_true rfl ⟨hsp, fun y hy => ?_⟩⟩, hK1⟩
    obtain ⟨k, g1, rfl⟩ := List.getElem_of_mem hy
    exact hfm k g1 g1
  have hjl : j < l.length := by omega
  have hjl' : (j : Int) < l.length := by omega
  have hj0 : (0 : Int) ≤ j := by omega
  have hj1 : IntKind.i64.wrap ((j : Int) + 1) = j + 1 := wrap64_id (by omega) (by omega)
  obtain ⟨d1, o1, f1, hv1, _, hcs1⟩ := h1.ne (by omega)
  cases hv1
  have hst := style_at hok hcs1 j hjl
  simp only [guard_undef, List.contains_cons, List.contains_nil, Nat.reduceBEq, Int.cast_ofNat_Int, and_self, k_pend_g, pendV, go_sem, i64_wrap_id, Int.reduceAdd, Int.reduceSub, Int.reduceNeg, Int.reduceMul, Nat.reduceSub, Nat.reduceEqDiff, Nat.reduceAdd, Nat.reduceMul, Nat.reduceLeDiff, ↓reduceIte, reduceCtorEq, Int.reduceToNat, Int.reduceLT, Int.reduceLE, Int.reduceEq, hs, hjl', hj0, Int.toNat_natCast, hst]
  refine cK_of (refFormed l[j].s (hok _ (List.getElem_mem hjl)).s S1) ?_
  rintro r7 S7 hS7 hL7 ⟨⟨c, rfl, hc⟩, hK7⟩
  cases c
  · simp only [guard_undef, List.contains_cons, List.contains_nil, Nat.reduceBEq, Int.cast_ofNat_Int, and_self, k_pend_g, pendV, go_sem, i64_wrap_id, Int.reduceAdd, Int.reduceSub, Int.reduceNeg, Int.reduceMul, Nat.reduceSub, Nat.reduceEqDiff, Nat.reduceAdd, Nat.reduceMul, Nat.reduceLeDiff, ↓reduceIte, reduceCtorEq, Int.reduceToNat, Int.reduceLT, Int.reduceLE, Int.reduceEq, hs]
    refine hE _ _ _ (by simp) ?_
    simp only [guard_undef, List.contains_cons, List.contains_nil, Nat.reduceBEq, Int.cast_ofNat_Int, and_self, k_pend_g, pendV, go_sem, i64_wrap_id, Int.reduceAdd, Int.reduceSub, Int.reduceNeg, Int.reduceMul, Nat.reduceSub, Nat.reduceEqDiff, Nat.reduceAdd, Nat.reduceMul, Nat.reduceLeDiff, ↓reduceIte, reduceCtorEq, Int.reduceToNat, Int.reduceLT, Int.reduceLE, Int.reduceEq, hs]
    refine hQ _ _ _ ?_; (first | rw [k_body_ret] | rw [k_body_normal]); simp only [resVals, resVal, ev, Env.get_put, ↓reduceIte, Nat.reduceEqDiff, Option.bind_some, Option.map_some, reduceCtorEq, ldv_true, ldv_false, lloadV_agg, partL, List.toList_toArray, cellsOf_set, cellsOf_new, rd_set, rd_new, List.length_cons, List.length_nil, Nat.reduceAdd, Nat.reduceLeDiff, Nat.le_refl, List.take_succ_cons, List.take_zero, List.drop_zero, Nat.add_eq_left, Nat.left_eq_add, List.getElem?_cons_zero, List.getElem?_cons_succ, aN52, hs]; rw [retQ_some]; simp only [oneOr]
    exact ⟨⟨false, rfl, iff_of_false (by simp) fun hf => by have := hc.2 (hf.2 _ (List.getElem_mem hjl)); cases this⟩, hK1.trans hK7 fun _ _ _ => trivial⟩
  · simp only [guard_undef, List.contains_cons, List.contains_nil, Nat.reduceBEq, Int.cast_ofNat_Int, and_self, k_pend_g, pendV, go_sem, i64_wrap_id, Int.reduceAdd, Int.reduceSub, Int.reduceNeg, Int.reduceMul, Nat.reduceSub, Nat.reduceEqDiff, Nat.reduceAdd, Nat.reduceMul, Nat.reduceLeDiff, ↓reduceIte, reduceCtorEq, Int.reduceToNat, Int.reduceLT, Int.reduceLE, Int.reduceEq, hs, hj1]
    refine hN _ _ ⟨hK1.trans hK7 fun _ _ _ => trivial, hL7, j + 1, by omega, ?_, fun k g1 g2 => ?_⟩ ?_
    · simp only [guard_undef, List.contains_cons, List.contains_nil, Nat.reduceBEq, Int.cast_ofNat_Int, and_self, k_pend_g, pendV, go_sem, i64_wrap_id, Int.reduceAdd, Int.reduceSub, Int.reduceNeg, Int.reduceMul, Nat.reduceSub, Nat.reduceEqDiff, Nat.reduceAdd, Nat.reduceMul, Nat.reduceLeDiff, ↓reduceIte, reduceCtorEq, Int.reduceToNat, Int.reduceLT, Int.reduceLE, Int.reduceEq, slots_cons, slots_nil, Int.natCast_add, Int.natCast_succ, Int.cast_ofNat_Int, hs]
    · by_cases hkj : k = j
      · subst hkj; exact hc.1 rfl
      · exact hfm k g1 (by omega)
    · simp only [guard_undef, List.contains_cons, List.contains_nil, Nat.reduceBEq, Int.cast_ofNat_Int, and_self, k_pend_g, pendV, go_sem, i64_wrap_id, Int.reduceAdd, Int.reduceSub, Int.reduceNeg, Int.reduceMul, Nat.reduceSub, Nat.reduceEqDiff, Nat.reduceAdd, Nat.reduceMul, Nat.reduceLeDiff, ↓reduceIte, reduceCtorEq, Int.reduceToNat, Int.reduceLT, Int.reduceLE, Int.reduceEq, hs]
      simp [RowKit.intOf]
      omega
end Go.Proofs.Ytbgnaeagdneikaa
