/- Trees: alike; the statements TreeForms and TreeDeep. -/
import Derived.Test.YtbgnaeagdneikaaT4
import Derived.Test.YtbgnaeagdneikaaSeatKKT
-- pp: new
namespace Go.Proofs.Ytbgnaeagdneikaa
open Go Go.Proofs.Ytbgnaeagdneikaa.Abs
set_option linter.unusedSimpArgs false
set_option linter.unusedVariables false

def ndSh : List Cel := styleSh ++ [.int .i64]
theorem Nd.flat {x : Nd} (h : x.Ok) : FlatOk ndSh x.cells := (Sty.flat h.s).append ⟨⟨_, rfl, wfI h.p⟩, trivial⟩
theorem nd_same {x : Nd} (h : x.Ok) : flatEq [false, true, true, true, true, true, true, true, true, true, true, true, true, true, true, true, true, true, true, true, true, true, true, true, true, true, true, true, true, true, true, true, true, true, true, true, true, true, true, true, true, true, false, false, true, false, true, true, true] x.cells x.cells = some true := flatEq_self (Nd.flat h)

set_option maxHeartbeats 1000000 in
theorem same59 (x y : Value) (l : List Nd) (S : St) (hx : Ns S x l) (hy : Ns S y l) (hok : ∀ x ∈ l, x.Ok) (hn : l.length ≤ 1000000) : ACalls Try.prog 59 [x, y] S fun r S' => S' = S ∧ r = .bool true := by
  refine ACalls.run hmix Try.func59 cN59 kN59 rfl fun hL Q hQ => ?_
  obtain ⟨a, e, rfl⟩ := Sl.slice hx
  obtain ⟨a', e', rfl⟩ := Sl.slice hy
  simp only [guard_undef, List.contains_cons, List.contains_nil, Nat.reduceBEq, Int.cast_ofNat_Int, and_self, k_pend_g, pendV, go_sem, i64_wrap_id, Int.reduceAdd, Int.reduceSub, Int.reduceNeg, Int.reduceMul, Nat.reduceSub, Nat.reduceEqDiff, Nat.reduceAdd, Nat.reduceMul, Nat.reduceLeDiff, ↓reduceIte, reduceCtorEq, Int.reduceToNat, Int.reduceLT, Int.reduceLE, Int.reduceEq, aN59]
  refine lK_of (fun t' S' => S' = S ∧ ∃ j : Nat, j ≤ l.length ∧ Slots t' [(0, .slice a l.length e), (1, .slice a' l.length e'), (12, .int .i64 l.length), (13, .int .i64 j)]) (fun t' _ => (l.length - RowKit.intOf (t' 13)).toNat) ?_ ?_
  · refine ⟨rfl, 0, by omega, ?_⟩
    simp only [guard_undef, List.contains_cons, List.contains_nil, Nat.reduceBEq, Int.cast_ofNat_Int, and_self, k_pend_g, pendV, go_sem, i64_wrap_id, Int.reduceAdd, Int.reduceSub, Int.reduceNeg, Int.reduceMul, Nat.reduceSub, Nat.reduceEqDiff, Nat.reduceAdd, Nat.reduceMul, Nat.reduceLeDiff, ↓reduceIte, reduceCtorEq, Int.reduceToNat, Int.reduceLT, Int.reduceLE, Int.reduceEq, slots_cons, slots_nil, Int.natCast_add, Int.natCast_succ, Int.cast_ofNat_Int]
  rintro t1 S1 Q1 ⟨rfl, j, hj, hs⟩ _ hN hE
  simp only [slots_cons, slots_nil] at hs
  by_cases hjn : j = l.length
  · subst hjn
    simp only [guard_undef, List.contains_cons, List.contains_nil, Nat.reduceBEq, Int.cast_ofNat_Int, and_self, k_pend_g, pendV, go_sem, i64_wrap_id, Int.reduceAdd, Int.reduceSub, Int.reduceNeg, Int.reduceMul, Nat.reduceSub, Nat.reduceEqDiff, Nat.reduceAdd, Nat.reduceMul, Nat.reduceLeDiff, ↓reduceIte, reduceCtorEq, Int.reduceToNat, Int.reduceLT, Int.reduceLE, Int.reduceEq, hs, Int.lt_irrefl]
    refine hE _ _ _ (by simp) ?_
    simp only [guard_undef, List.contains_cons, List.contains_nil, Nat.reduceBEq, Int.cast_ofNat_Int, and_self, k_pend_g, pendV, go_sem, i64_wrap_id, Int.reduceAdd, Int.reduceSub, Int.reduceNeg, Int.reduceMul, Nat.reduceSub, Nat.reduceEqDiff, Nat.reduceAdd, Nat.reduceMul, Nat.reduceLeDiff, ↓reduceIte, reduceCtorEq, Int.reduceToNat, Int.reduceLT, Int.reduceLE, Int.reduceEq, hs]
    refine hQ _ _ _ ?_; (first | rw [k_body_ret] | rw [k_body_normal]); simp only [resVals, resVal, ev, Env.get_put, ↓reduceIte, Nat.reduceEqDiff, Option.bind_some, Option.map_some, reduceCtorEq, ldv_true, ldv_false, lloadV_agg, partL, List.toList_toArray, cellsOf_set, cellsOf_new, rd_set, rd_new, List.length_cons, List.length_nil, Nat.reduceAdd, Nat.reduceLeDiff, Nat.le_refl, List.take_succ_cons, List.take_zero, List.drop_zero, Nat.add_eq_left, Nat.left_eq_add, List.getElem?_cons_zero, List.getElem?_cons_succ, aN59, hs]; rw [retQ_some]; simp only [oneOr]
    exact ⟨trivial, trivial⟩
  have hjl : j < l.length := by omega
  obtain ⟨d, o, f, hv, he, hc⟩ := hx.ne (by omega)
  cases hv
  obtain ⟨d', o', f', hv', he', hc'⟩ := hy.ne (by omega)
  cases hv'
  have hlt : (j : Int) < l.length := by omega
  have hj0 : (0 : Int) ≤ j := by omega
  have hj1 : IntKind.i64.wrap ((j : Int) + 1) = j + 1 := wrap64_id (by omega) (by omega)
  have hcj := nodes_at hok hc j hjl
  have hcj' := nodes_at hok hc' j hjl
  have hq := nd_same (hok _ (List.getElem_mem hjl))
  simp only [guard_undef, List.contains_cons, List.contains_nil, Nat.reduceBEq, Int.cast_ofNat_Int, and_self, k_pend_g, pendV, go_sem, i64_wrap_id, Int.reduceAdd, Int.reduceSub, Int.reduceNeg, Int.reduceMul, Nat.reduceSub, Nat.reduceEqDiff, Nat.reduceAdd, Nat.reduceMul, Nat.reduceLeDiff, ↓reduceIte, reduceCtorEq, Int.reduceToNat, Int.reduceLT, Int.reduceLE, Int.reduceEq, hs, hlt, hj0, Int.toNat_natCast, hcj, hcj', hq, hj1]
  refine hN _ _ ⟨rfl, j + 1, by omega, ?_⟩ ?_
  · simp only [guard_undef, List.contains_cons, List.contains_nil, Nat.reduceBEq, Int.cast_ofNat_Int, and_self, k_pend_g, pendV, go_sem, i64_wrap_id, Int.reduceAdd, Int.reduceSub, Int.reduceNeg, Int.reduceMul, Nat.reduceSub, Nat.reduceEqDiff, Nat.reduceAdd, Nat.reduceMul, Nat.reduceLeDiff, ↓reduceIte, reduceCtorEq, Int.reduceToNat, Int.reduceLT, Int.reduceLE, Int.reduceEq, slots_cons, slots_nil, Int.natCast_add, Int.natCast_succ, Int.cast_ofNat_Int, hs]
  · simp only [guard_undef, List.contains_cons, List.contains_nil, Nat.reduceBEq, Int.cast_ofNat_Int, and_self, k_pend_g, pendV, go_sem, i64_wrap_id, Int.reduceAdd, Int.reduceSub, Int.reduceNeg, Int.reduceMul, Nat.reduceSub, Nat.reduceEqDiff, Nat.reduceAdd, Nat.reduceMul, Nat.reduceLeDiff, ↓reduceIte, reduceCtorEq, Int.reduceToNat, Int.reduceLT, Int.reduceLE, Int.reduceEq, hs]
    simp [RowKit.intOf]
    omega

set_option maxHeartbeats 1000000 in
theorem equal90 (x y : Value) (l : List Nd) (S : St) (hx : Ns S x l) (hy : Ns S y l) (hok : ∀ x ∈ l, x.Ok) (hn : l.length ≤ 1000000) : ACalls Try.prog 90 [x, y] S fun r S' => S' = S ∧ r = .bool true := by
  refine ACalls.run hmix Try.func90 cN90 kN90 rfl fun hL Q hQ => ?_
  obtain ⟨a, e, rfl⟩ := Sl.slice hx
  obtain ⟨a', e', rfl⟩ := Sl.slice hy
  simp only [guard_undef, List.contains_cons, List.contains_nil, Nat.reduceBEq, Int.cast_ofNat_Int, and_self, k_pend_g, pendV, go_sem, i64_wrap_id, Int.reduceAdd, Int.reduceSub, Int.reduceNeg, Int.reduceMul, Nat.reduceSub, Nat.reduceEqDiff, Nat.reduceAdd, Nat.reduceMul, Nat.reduceLeDiff, ↓reduceIte, reduceCtorEq, Int.reduceToNat, Int.reduceLT, Int.reduceLE, Int.reduceEq, aN90]
  refine lK_of (fun t' S' => S' = S ∧ ∃ j : Nat, j ≤ l.length ∧ Slots t' [(0, .slice a l.length e), (1, .slice a' l.length e'), (12, .int .i64 l.length), (13, .int .i64 j)]) (fun t' _ => (l.length - RowKit.intOf (t' 13)).toNat) ?_ ?_
  · refine ⟨rfl, 0, by omega, ?_⟩
    simp only [guard_undef, List.contains_cons, List.contains_nil, Nat.reduceBEq, Int.cast_ofNat_Int, and_self, k_pend_g, pendV, go_sem, i64_wrap_id, Int.reduceAdd, Int.reduceSub, Int.reduceNeg, Int.reduceMul, Nat.reduceSub, Nat.reduceEqDiff, Nat.reduceAdd, Nat.reduceMul, Nat.reduceLeDiff, ↓reduceIte, reduceCtorEq, Int.reduceToNat, Int.reduceLT, Int.reduceLE, Int.reduceEq, slots_cons, slots_nil, Int.natCast_add, Int.natCast_succ, Int.cast_ofNat_Int]
  rintro t1 S1 Q1 ⟨rfl, j, hj, hs⟩ _ hN hE
  simp only [slots_cons, slots_nil] at hs
  by_cases hjn : j = l.length
  · subst hjn
    simp only [guard_undef, List.contains_cons, List.contains_nil, Nat.reduceBEq, Int.cast_ofNat_Int, and_self, k_pend_g, pendV, go_sem, i64_wrap_id, Int.reduceAdd, Int.reduceSub, Int.reduceNeg, Int.reduceMul, Nat.reduceSub, Nat.reduceEqDiff, Nat.reduceAdd, Nat.reduceMul, Nat.reduceLeDiff, ↓reduceIte, reduceCtorEq, Int.reduceToNat, Int.reduceLT, Int.reduceLE, Int.reduceEq, hs, Int.lt_irrefl]
    refine hE _ _ _ (by simp) ?_
    simp only [guard_undef, List.contains_cons, List.contains_nil, Nat.reduceBEq, Int.cast_ofNat_Int, and_self, k_pend_g, pendV, go_sem, i64_wrap_id, Int.reduceAdd, Int.reduceSub, Int.reduceNeg, Int.reduceMul, Nat.reduceSub, Nat.reduceEqDiff, Nat.reduceAdd, Nat.reduceMul, Nat.reduceLeDiff, ↓reduceIte, reduceCtorEq, Int.reduceToNat, Int.reduceLT, Int.reduceLE, Int.reduceEq, hs]
    refine hQ _ _ _ ?_; (first | rw [k_body_ret] | rw [k_body_normal]); simp only [resVals, resVal, ev, Env.get_put, ↓reduceIte, Nat.reduceEqDiff, Option.bind_some, Option.map_some, reduceCtorEq, ldv_true, ldv_false, lloadV_agg, partL, List.toList_toArray, cellsOf_set, cellsOf_new, rd_set, rd_new, List.length_cons, List.length_nil, Nat.reduceAdd, Nat.reduceLeDiff, Nat.le_refl, List.take_succ_cons, List.take_zero, List.drop_zero, Nat.add_eq_left, Nat.left_eq_add, List.getElem?_cons_zero, List.getElem?_cons_succ, aN90, hs]; rw [retQ_some]; simp only [oneOr]
    exact ⟨trivial, trivial⟩
  have hjl : j < l.length := by omega
  obtain ⟨d, o, f, hv, he, hc⟩ := hx.ne (by omega)
  cases hv
  obtain ⟨d', o', f', hv', he', hc'⟩ := hy.ne (by omega)
  cases hv'
  have hlt : (j : Int) < l.length := by omega
  have hj0 : (0 : Int) ≤ j := by omega
  have hj1 : IntKind.i64.wrap ((j : Int) + 1) = j + 1 := wrap64_id (by omega) (by omega)
  have hcj := nodes_at hok hc j hjl
  have hcj' := nodes_at hok hc' j hjl
  have hq := nd_same (hok _ (List.getElem_mem hjl))
  simp only [guard_undef, List.contains_cons, List.contains_nil, Nat.reduceBEq, Int.cast_ofNat_Int, and_self, k_pend_g, pendV, go_sem, i64_wrap_id, Int.reduceAdd, Int.reduceSub, Int.reduceNeg, Int.reduceMul, Nat.reduceSub, Nat.reduceEqDiff, Nat.reduceAdd, Nat.reduceMul, Nat.reduceLeDiff, ↓reduceIte, reduceCtorEq, Int.reduceToNat, Int.reduceLT, Int.reduceLE, Int.reduceEq, hs, hlt, hj0, Int.toNat_natCast, hcj, hcj', hq, hj1]
  refine hN _ _ ⟨rfl, j + 1, by omega, ?_⟩ ?_
  · simp only [guard_undef, List.contains_cons, List.contains_nil, Nat.reduceBEq, Int.cast_ofNat_Int, and_self, k_pend_g, pendV, go_sem, i64_wrap_id, Int.reduceAdd, Int.reduceSub, Int.reduceNeg, Int.reduceMul, Nat.reduceSub, Nat.reduceEqDiff, Nat.reduceAdd, Nat.reduceMul, Nat.reduceLeDiff, ↓reduceIte, reduceCtorEq, Int.reduceToNat, Int.reduceLT, Int.reduceLE, Int.reduceEq, slots_cons, slots_nil, Int.natCast_add, Int.natCast_succ, Int.cast_ofNat_Int, hs]
  · simp only [guard_undef, List.contains_cons, List.contains_nil, Nat.reduceBEq, Int.cast_ofNat_Int, and_self, k_pend_g, pendV, go_sem, i64_wrap_id, Int.reduceAdd, Int.reduceSub, Int.reduceNeg, Int.reduceMul, Nat.reduceSub, Nat.reduceEqDiff, Nat.reduceAdd, Nat.reduceMul, Nat.reduceLeDiff, ↓reduceIte, reduceCtorEq, Int.reduceToNat, Int.reduceLT, Int.reduceLE, Int.reduceEq, hs]
    simp [RowKit.intOf]
    omega

theorem same63 (x y : Value) (l : List Nd) (S : St) (hx : Ns S x l) (hy : Ns S y l) (hok : ∀ x ∈ l, x.Ok) (hn : l.length ≤ 1000000) : ACalls Try.prog 63 [x, y] S fun r S' => S' = S ∧ r = .bool true := by
  refine ACalls.run hmix Try.func63 cN63 kN63 rfl fun hL Q hQ => ?_
  simp only [guard_undef, List.contains_cons, List.contains_nil, Nat.reduceBEq, Int.cast_ofNat_Int, and_self, k_pend_g, pendV, go_sem, i64_wrap_id, Int.reduceAdd, Int.reduceSub, Int.reduceNeg, Int.reduceMul, Nat.reduceSub, Nat.reduceEqDiff, Nat.reduceAdd, Nat.reduceMul, Nat.reduceLeDiff, ↓reduceIte, reduceCtorEq, Int.reduceToNat, Int.reduceLT, Int.reduceLE, Int.reduceEq, aN63]
  refine cK_of (equal90 x y l S hx hy hok hn) ?_
  rintro r1 S1 hS1 hL1 ⟨rfl, rfl⟩
  simp only [guard_undef, List.contains_cons, List.contains_nil, Nat.reduceBEq, Int.cast_ofNat_Int, and_self, k_pend_g, pendV, go_sem, i64_wrap_id, Int.reduceAdd, Int.reduceSub, Int.reduceNeg, Int.reduceMul, Nat.reduceSub, Nat.reduceEqDiff, Nat.reduceAdd, Nat.reduceMul, Nat.reduceLeDiff, ↓reduceIte, reduceCtorEq, Int.reduceToNat, Int.reduceLT, Int.reduceLE, Int.reduceEq]
  refine hQ _ _ _ ?_; (first | rw [k_body_ret] | rw [k_body_normal]); simp only [resVals, resVal, ev, Env.get_put, ↓reduceIte, Nat.reduceEqDiff, Option.bind_some, Option.map_some, reduceCtorEq, ldv_true, ldv_false, lloadV_agg, partL, List.toList_toArray, cellsOf_set, cellsOf_new, rd_set, rd_new, List.length_cons, List.length_nil, Nat.reduceAdd, Nat.reduceLeDiff, Nat.le_refl, List.take_succ_cons, List.take_zero, List.drop_zero, Nat.add_eq_left, Nat.left_eq_add, List.getElem?_cons_zero, List.getElem?_cons_succ, aN63]; rw [retQ_some]; simp only [oneOr]
  exact ⟨trivial, trivial⟩

def oneN : Nd := ⟨plainK 4, -1⟩
theorem oneN_ok : oneN.Ok := ⟨styK_ok true 4 (by omega), by simp [oneN, InI64]⟩
theorem oneN_form : TForm [oneN] := by
  refine ⟨⟨by simp, fun i hi => ?_⟩, fun x hx => ?_⟩
  · have : i = 0 := by simp at hi; omega
    subst this
    exact ⟨fun _ => rfl, fun h => by omega⟩
  · simp only [List.mem_cons, List.not_mem_nil, or_false] at hx
    subst hx
    exact plain_formed
theorem tchk_nil : tchk [] = 2 := tchk_form fun h => by have := h.1.1; simp at this

theorem ow_node (s : Sty) (hs : s.Ok) : ow [.bool false, .int .i64 0, .int .i64 0, .int .i64 0, .int .i64 0, .int .i64 0, .int .i64 0, .int .i64 0, .int .i64 0, .int .i64 0, .int .i64 0, .int .i64 0, .int .i64 0, .int .i64 0, .int .i64 0, .int .i64 0, .int .i64 0, .int .i64 0, .int .i64 0, .int .i64 0, .int .i64 0, .int .i64 0, .int .i64 0, .int .i64 0, .int .i64 0, .int .i64 0, .int .i64 0, .int .i64 0, .int .i64 0, .int .i64 0, .int .i64 0, .int .i64 0, .int .i64 0, .int .i64 0, .int .i64 0, .int .i64 0, .int .i64 0, .int .i64 0, .int .i64 0, .int .i64 0, .int .i64 0, .int .i64 0, .bool false, .bool false, .int .i64 0, .bool false, .int .i64 0, .int .i64 0, .int .i64 0] 0 s.cells = s.cells ++ [.int .i64 0] := by
  rw [ow_eq _ _ _ (by rw [hs.len]; simp), hs.len]
  simp
theorem set_node {s : Sty} (hs : s.Ok) (v w : Value) : (s.cells ++ [v]).set 48 w = s.cells ++ [w] := by
  rw [List.set_append_right _ _ (by rw [hs.len]; omega), hs.len]
  rfl
theorem len_node {s : Sty} (hs : s.Ok) (v : Value) : (s.cells ++ [v]).length = 49 := by rw [List.length_append, hs.len]; rfl
theorem ns_one {S : St} {x : Nd} (hx : x.Ok) {d : Nat} (h : S.blk d = some ⟨false, x.cells⟩) : Ns S (.slice (some ⟨d, 0, none⟩) 1 49) [x] := by
  refine .inr ⟨d, 0, 49, rfl, .inr rfl, ?_⟩
  have hl := Nd.cells_length hx
  rw [cellsOf_of_blk h, if_pos (by simp [hl])]
  simp [ndCells]
  exact List.take_of_length_le (by omega)
theorem own_one {S : St} {x : Nd} (hx : x.Ok) {d : Nat} (h : S.blk d = some ⟨false, x.cells⟩) : Own S 49 (.slice (some ⟨d, 0, none⟩) 1 49) 1 (ndCells [x]) := by
  refine .inr ⟨d, rfl, ?_, ?_⟩
  · rw [h]; simp [ndCells]
  · simp [ndCells, Nd.cells_length hx]

set_option maxHeartbeats 1000000 in
theorem awake50 (S : St) : ACalls Try.prog 50 [] S fun r S' => r = .bool true ∧ KeepsAll S S' := by
  refine ACalls.run hmix Try.func50 cN50 kN50 rfl fun hL Q hQ => ?_
  simp only [guard_undef, List.contains_cons, List.contains_nil, Nat.reduceBEq, Int.cast_ofNat_Int, and_self, k_pend_g, pendV, go_sem, i64_wrap_id, Int.reduceAdd, Int.reduceSub, Int.reduceNeg, Int.reduceMul, Nat.reduceSub, Nat.reduceEqDiff, Nat.reduceAdd, Nat.reduceMul, Nat.reduceLeDiff, ↓reduceIte, reduceCtorEq, Int.reduceToNat, Int.reduceLT, Int.reduceLE, Int.reduceEq, aN50]
  refine cK_of (plain55 S) ?_
  rintro r1 S1 hS1 hL1 ⟨rfl, hK1⟩
  have hp := styK_ok true 4 (by omega)
  have hp' : (plainK 4).Ok := hp
  have hlen : (plainK 4).cells.length = 48 := hp.len
  have h1 := ow_node (plainK 4) hp
  have h2 := set_node hp' (.int .i64 0) (.int .i64 (-1))
  have h3 := fun v => len_node hp' v
  simp only [guard_undef, List.contains_cons, List.contains_nil, Nat.reduceBEq, Int.cast_ofNat_Int, and_self, k_pend_g, pendV, go_sem, i64_wrap_id, Int.reduceAdd, Int.reduceSub, Int.reduceNeg, Int.reduceMul, Nat.reduceSub, Nat.reduceEqDiff, Nat.reduceAdd, Nat.reduceMul, Nat.reduceLeDiff, ↓reduceIte, reduceCtorEq, Int.reduceToNat, Int.reduceLT, Int.reduceLE, Int.reduceEq, hlen, ↓h1, ↓h2, ↓h3, ↓ow_all]
  have hb : (S1.new ⟨false, oneN.cells⟩).blk S1.next = some ⟨false, oneN.cells⟩ := by simp [St.blk_new]
  have hn := ns_one oneN_ok hb
  have hKn := Keeps.of_new S1 ⟨false, oneN.cells⟩ fun _ => True
  refine cK_of (formed51 _ [oneN] (S1.new ⟨false, oneN.cells⟩) hn (by simp [oneN_ok]) (by simp)) ?_
  rintro r2 S2 hS2 hL2 ⟨⟨c, rfl, hc⟩, hK2⟩
  have : c = true := hc.2 oneN_form
  subst this
  simp only [guard_undef, List.contains_cons, List.contains_nil, Nat.reduceBEq, Int.cast_ofNat_Int, and_self, k_pend_g, pendV, go_sem, i64_wrap_id, Int.reduceAdd, Int.reduceSub, Int.reduceNeg, Int.reduceMul, Nat.reduceSub, Nat.reduceEqDiff, Nat.reduceAdd, Nat.reduceMul, Nat.reduceLeDiff, ↓reduceIte, reduceCtorEq, Int.reduceToNat, Int.reduceLT, Int.reduceLE, Int.reduceEq]
  refine cK_of (check53 (.slice none 0 0) [] S2 (.inl ⟨rfl, rfl, rfl⟩) (by simp) (by simp)) ?_
  rintro r3 S3 hS3 hL3 ⟨hK3, rfl⟩
  rw [tchk_nil]
  have hn3 := Sl.keeps hL2 (Sl.keeps (hL1.new _) hn hK2 fun _ _ => trivial) hK3 fun _ _ => trivial
  simp only [guard_undef, List.contains_cons, List.contains_nil, Nat.reduceBEq, Int.cast_ofNat_Int, and_self, k_pend_g, pendV, go_sem, i64_wrap_id, Int.reduceAdd, Int.reduceSub, Int.reduceNeg, Int.reduceMul, Nat.reduceSub, Nat.reduceEqDiff, Nat.reduceAdd, Nat.reduceMul, Nat.reduceLeDiff, ↓reduceIte, reduceCtorEq, Int.reduceToNat, Int.reduceLT, Int.reduceLE, Int.reduceEq]
  refine cK_of (same63 _ _ [oneN] S3 hn3 hn3 (by simp [oneN_ok]) (by simp)) ?_
  rintro r4 S4 hS4 hL4 ⟨rfl, rfl⟩
  simp only [guard_undef, List.contains_cons, List.contains_nil, Nat.reduceBEq, Int.cast_ofNat_Int, and_self, k_pend_g, pendV, go_sem, i64_wrap_id, Int.reduceAdd, Int.reduceSub, Int.reduceNeg, Int.reduceMul, Nat.reduceSub, Nat.reduceEqDiff, Nat.reduceAdd, Nat.reduceMul, Nat.reduceLeDiff, ↓reduceIte, reduceCtorEq, Int.reduceToNat, Int.reduceLT, Int.reduceLE, Int.reduceEq]
  refine hQ _ _ _ ?_; (first | rw [k_body_ret] | rw [k_body_normal]); simp only [resVals, resVal, ev, Env.get_put, ↓reduceIte, Nat.reduceEqDiff, Option.bind_some, Option.map_some, reduceCtorEq, ldv_true, ldv_false, lloadV_agg, partL, List.toList_toArray, cellsOf_set, cellsOf_new, rd_set, rd_new, List.length_cons, List.length_nil, Nat.reduceAdd, Nat.reduceLeDiff, Nat.le_refl, List.take_succ_cons, List.take_zero, List.drop_zero, Nat.add_eq_left, Nat.left_eq_add, List.getElem?_cons_zero, List.getElem?_cons_succ, aN50]; rw [retQ_some]; simp only [oneOr]
  exact ⟨trivial, ((hK1.trans hKn fun _ _ _ => trivial).trans hK2 fun _ _ _ => trivial).trans hK3 fun _ _ _ => trivial⟩
end Go.Proofs.Ytbgnaeagdneikaa
