/- The compiled code of functions of the seat, printed by a program of mine (gen.py), checked by the kernel. -/
import Derived.Test.YtbgnaeagdneikaaTT0
import Derived.Test.YtbgnaeagdneikaaSeatKKT
-- pp: new
-- pp: short
namespace Go.Proofs.Ytbgnaeagdneikaa
open Go Go.Proofs.Ytbgnaeagdneikaa.Abs
set_option linter.unusedSimpArgs false
set_option linter.unusedVariables false

def ndSh : List Cel := styleSh ++ [.int .i64]
theorem Nd.flat {x : Nd} (h : x.Ok) : FlatOk ndSh x.cells := (Sty.flat h.s).append ⟨⟨_, rfl, wfI h.p⟩, trivial⟩
theorem nd_same {x : Nd} (h : x.Ok) : flatEq [false, true, true, true, true, true, true, true, true, true, true, true, true, true, true, true, true, true, true, true, true, true, true, true, true, true, true, true, true, true, true, true, true, true, true, true, true, true, true, true, true, true, false, false, true, false, true, true, true] x.cells x.cells = some true := flatEq_self (Nd.flat h)

set_option maxHeartbeats 1000000 in
theorem same59 (x y : Value) (l : List Nd) (S : St) (hx : Ns S x l) (hy : Ns S y l) (hok : ∀ x ∈ l, x.Ok) (hn : l.length ≤ 1000000) : ACalls Try.prog 59 [x, y] S fun r S' => S' = S ∧ r = .bool true := by
  refine ACalls.run hmix Try.func59 cN59 kN59 rfl fun hL Q hQ => ?_
  obtain ⟨a, e, rfl⟩ := Sl.slice hx
  obtain ⟨a', e', rfl⟩ := Sl.slice hy
  simp only [go_sem, seval, aN59]
  refine lK_of (fun t' S' => S' = S ∧ ∃ j : Nat, j ≤ l.length ∧ Slots t' [(0, .slice a l.length e), (1, .slice a' l.length e'), (12, .int .i64 l.length), (13, .int .i64 j)]) (fun t' _ => (l.length - RowKit.intOf (t' 13)).toNat) ?_ ?_
  · refine ⟨rfl, 0, by omega, ?_⟩
    simp only [go_sem, seval, slots_cons, slots_nil, Int.natCast_add, Int.natCast_succ, Int.cast_ofNat_Int]
  rintro t1 S1 Q1 ⟨rfl, j, hj, hs⟩ _ hN hE
  simp only [slots_cons, slots_nil] at hs
  by_cases hjn : j = l.length
  · subst hjn
    simp only [go_sem, seval, hs, Int.lt_irrefl]
    refine hE _ _ _ (by simp) ?_
    simp only [go_sem, seval, hs]
    refine hQ _ _ _ ?_; (first | rw [k_body_ret] | rw [k_body_normal]); simp only [resVals, resVal, ev, Env.get_put, ↓reduceIte, Nat.reduceEqDiff, Option.bind_some, Option.map_some, reduceCtorEq, ldv_true, ldv_false, lloadV_agg, partL, List.toList_toArray, cellsOf_set, cellsOf_new, rd_set, rd_new, List.length_cons, List.length_nil, Nat.reduceAdd, Nat.reduceLeDiff, Nat.le_refl, List.take_succ_cons, List.take_zero, List.drop_zero, Nat.add_eq_left, Nat.left_eq_add, List.getElem?_cons_zero, List.getElem?_cons_succ, aN59, hs]; rw [retQ_some]; simp only [oneOr]
    exact ⟨trivial, trivial⟩
  have hjl : j < l.length := by omega
  obtain ⟨d, o, f, hv, he, hc⟩ := hx.ne (by omega)
  cases hv
  obtain ⟨d', o', f', hv', he', hc'⟩ := hy.ne (by omega)
  cases hv'
  have hlt : (j : Int) < l.length := by omega
  have hj0 : (0 : Int) ≤ j := by omega
  have hj1 : IntKind.i64.wrap ((j : Int) + 1) = j + 1 := wrap64_id (by omega) (by omega)
  have hcj := nodes_at hok hc j hjl
  have hcj' := nodes_at hok hc' j hjl
  have hq := nd_same (hok _ (List.getElem_mem hjl))
  simp only [go_sem, seval, hs, hlt, hj0, Int.toNat_natCast, hcj, hcj', hq, hj1]
  refine hN _ _ ⟨rfl, j + 1, by omega, ?_⟩ ?_
  · simp only [go_sem, seval, slots_cons, slots_nil, Int.natCast_add, Int.natCast_succ, Int.cast_ofNat_Int, hs]
  · simp only [go_sem, seval, hs]
    simp [RowKit.intOf]
    omega

set_option maxHeartbeats 1000000 in
theorem equal90 (x y : Value) (l : List Nd) (S : St) (hx : Ns S x l) (hy : Ns S y l) (hok : ∀ x ∈ l, x.Ok) (hn : l.length ≤ 1000000) : ACalls Try.prog 90 [x, y] S fun r S' => S' = S ∧ r = .bool true := by
  refine ACalls.run hmix Try.func90 cN90 kN90 rfl fun hL Q hQ => ?_
  obtain ⟨a, e, rfl⟩ := Sl.slice hx
  obtain ⟨a', e', rfl⟩ := Sl.slice hy
  simp only [go_sem, seval, aN90]
  refine lK_of (fun t' S' => S' = S ∧ ∃ j : Nat, j ≤ l.length ∧ Slots t' [(0, .slice a l.length e), (1, .slice a' l.length e'), (12, .int .i64 l.length), (13, .int .i64 j)]) (fun t' _ => (l.length - RowKit.intOf (t' 13)).toNat) ?_ ?_
  · refine ⟨rfl, 0, by omega, ?_⟩
    simp only [go_sem, seval, slots_cons, slots_nil, Int.natCast_add, Int.natCast_succ, Int.cast_ofNat_Int]
  rintro t1 S1 Q1 ⟨rfl, j, hj, hs⟩ _ hN hE
  simp only [slots_cons, slots_nil] at hs
  by_cases hjn : j = l.length
  · subst hjn
    simp only [go_sem, seval, hs, Int.lt_irrefl]
    refine hE _ _ _ (by simp) ?_
    simp only [go_sem, seval, hs]
    refine hQ _ _ _ ?_; (first | rw [k_body_ret] | rw [k_body_normal]); simp only [resVals, resVal, ev, Env.get_put, ↓reduceIte, Nat.reduceEqDiff, Option.bind_some, Option.map_some, reduceCtorEq, ldv_true, ldv_false, lloadV_agg, partL, List.toList_toArray, cellsOf_set, cellsOf_new, rd_set, rd_new, List.length_cons, List.length_nil, Nat.reduceAdd, Nat.reduceLeDiff, Nat.le_refl, List.take_succ_cons, List.take_zero, List.drop_zero, Nat.add_eq_left, Nat.left_eq_add, List.getElem?_cons_zero, List.getElem?_cons_succ, aN90, hs]; rw [retQ_some]; simp only [oneOr]
    exact ⟨trivial, trivial⟩
  have hjl : j < l.length := by omega
  obtain ⟨d, o, f, hv, he, hc⟩ := hx.ne (by omega)
  cases hv
  obtain ⟨d', o', f', hv', he', hc'⟩ := hy.ne (by omega)
  cases hv'
  have hlt : (j : Int) < l.length := by omega
  have hj0 : (0 : Int) ≤ j := by omega
  have hj1 : IntKind.i64.wrap ((j : Int) + 1) = j + 1 := wrap64_id (by omega) (by omega)
  have hcj := nodes_at hok hc j hjl
  have hcj' := nodes_at hok hc' j hjl
  have hq := nd_same (hok _ (List.getElem_mem hjl))
  simp only [go_sem, seval, hs, hlt, hj0, Int.toNat_natCast, hcj, hcj', hq, hj1]
  refine hN _ _ ⟨rfl, j + 1, by omega, ?_⟩ ?_
  · simp only [go_sem, seval, slots_cons, slots_nil, Int.natCast_add, Int.natCast_succ, Int.cast_ofNat_Int, hs]
  · simp only [go_sem, seval, hs]
    simp [RowKit.intOf]
    omega

theorem same63 (x y : Value) (l : List Nd) (S : St) (hx : Ns S x l) (hy : Ns S y l) (hok : ∀ x ∈ l, x.Ok) (hn : l.length ≤ 1000000) : ACalls Try.prog 63 [x, y] S fun r S' => S' = S ∧ r = .bool true := by
  refine ACalls.run hmix Try.func63 cN63 kN63 rfl fun hL Q hQ => ?_
  simp only [go_sem, seval, aN63]
  refine cK_of (equal90 x y l S hx hy hok hn) ?_
  rintro r1 S1 hS1 hL1 ⟨rfl, rfl⟩
  simp only [go_sem, seval]
  refine hQ _ _ _ ?_; (first | rw [k_body_ret] | rw [k_body_normal]); simp only [resVals, resVal, ev, Env.get_put, ↓reduceIte, Nat.reduceEqDiff, Option.bind_some, Option.map_some, reduceCtorEq, ldv_true, ldv_false, lloadV_agg, partL, List.toList_toArray, cellsOf_set, cellsOf_new, rd_set, rd_new, List.length_cons, List.length_nil, Nat.reduceAdd, Nat.reduceLeDiff, Nat.le_refl, List.take_succ_cons, List.take_zero, List.drop_zero, Nat.add_eq_left, Nat.left_eq_add, List.getElem?_cons_zero, List.getElem?_cons_succ, aN63]; rw [retQ_some]; simp only [oneOr]
  exact ⟨trivial, trivial⟩

def oneN : Nd := ⟨plainK 4, -1⟩
theorem oneN_ok : oneN.Ok := ⟨styK_ok true 4 (by omega), by simp [oneN, InI64]⟩
theorem oneN_form : TForm [oneN] := by
  refine ⟨⟨by simp, fun i hi => ?_⟩, fun x hx => ?_⟩
  · have : i = 0 := by simp at hi; omega
    subst this
    exact ⟨fun _ => rfl, fun h => by omega⟩
  · simp only [List.mem_cons, List.not_mem_nil, or_false] at hx
    subst hx
    exact plain_formed
theorem tchk_nil : tchk [] = 2 := tchk_form fun h => by have := h.1.1; simp at this

theorem ow_node (s : Sty) (hs : s.Ok) : ow [.bool false, .int .i64 0, .int .i64 0, .int .i64 0, .int .i64 0, .int .i64 0, .int .i64 0, .int .i64 0, .int .i64 0, .int .i64 0, .int .i64 0, .int .i64 0, .int .i64 0, .int .i64 0, .int .i64 0, .int .i64 0, .int .i64 0, .int .i64 0, .int .i64 0, .int .i64 0, .int .i64 0, .int .i64 0, .int .i64 0, .int .i64 0, .int .i64 0, .int .i64 0, .int .i64 0, .int .i64 0, .int .i64 0, .int .i64 0, .int .i64 0, .int .i64 0, .int .i64 0, .int .i64 0, .int .i64 0, .int .i64 0, .int .i64 0, .int .i64 0, .int .i64 0, .int .i64 0, .int .i64 0, .int .i64 0, .bool false, .bool false, .int .i64 0, .bool false, .int .i64 0, .int .i64 0, .int .i64 0] 0 s.cells = s.cells ++ [.int .i64 0] := by
  rw [ow_eq _ _ _ (by rw [hs.len]; simp), hs.len]
  simp
theorem set_node {s : Sty} (hs : s.Ok) (v w : Value) : (s.cells ++ [v]).set 48 w = s.cells ++ [w] := by
  rw [List.set_append_right _ _ (by rw [hs.len]; omega), hs.len]
  rfl
theorem len_node {s : Sty} (hs : s.Ok) (v : Value) : (s.cells ++ [v]).length = 49 := by rw [List.length_append, hs.len]; rfl
theorem ns_one {S : St} {x : Nd} (hx : x.Ok) {d : Nat} (h : S.blk d = some ⟨false, x.cells⟩) : Ns S (.slice (some ⟨d, 0, none⟩) 1 49) [x] := by
  refine .inr ⟨d, 0, 49, rfl, .inr rfl, ?_⟩
  have hl := Nd.cells_length hx
  rw [cellsOf_of_blk h, if_pos (by simp [hl])]
  simp [ndCells]
  exact List.take_of_length_le (by omega)
theorem own_one {S : St} {x : Nd} (hx : x.Ok) {d : Nat} (h : S.blk d = some ⟨false, x.cells⟩) : Own S 49 (.slice (some ⟨d, 0, none⟩) 1 49) 1 (ndCells [x]) := by
  refine .inr ⟨d, rfl, ?_, ?_⟩
  · rw [h]; simp [ndCells]
  · simp [ndCells, Nd.cells_length hx]

set_option maxHeartbeats 1000000 in
theorem awake50 (S : St) : ACalls Try.prog 50 [] S fun r S' => r = .bool true ∧ KeepsAll S S' := by
  refine ACalls.run hmix Try.func50 cN50 kN50 rfl fun hL Q hQ => ?_
  simp only [go_sem, seval, aN50]
  refine cK_of (plain55 S) ?_
  rintro r1 S1 hS1 hL1 ⟨rfl, hK1⟩
  have hp := styK_ok true 4 (by omega)
  have hp' : (plainK 4).Ok := hp
  have hlen : (plainK 4).cells.length = 48 := hp.len
  have h1 := ow_node (plainK 4) hp
  have h2 := set_node hp' (.int .i64 0) (.int .i64 (-1))
  have h3 := fun v => len_node hp' v
  simp only [go_sem, seval, hlen, ↓h1, ↓h2, ↓h3, ↓ow_all]
  have hb : (S1.new ⟨false, oneN.cells⟩).blk S1.next = some ⟨false, oneN.cells⟩ := by simp [St.blk_new]
  have hn := ns_one oneN_ok hb
  have hKn := Keeps.of_new S1 ⟨false, oneN.cells⟩ fun _ => True
  refine cK_of (formed51 _ [oneN] (S1.new ⟨false, oneN.cells⟩) hn (by simp [oneN_ok]) (by simp)) ?_
  rintro r2 S2 hS2 hL2 ⟨⟨c, rfl, hc⟩, hK2⟩
  have : c = true := hc.2 oneN_form
  subst this
  simp only [go_sem, seval]
  refine cK_of (check53 (.slice none 0 0) [] S2 (.inl ⟨rfl, rfl, rfl⟩) (by simp) (by simp)) ?_
  rintro r3 S3 hS3 hL3 ⟨hK3, rfl⟩
  rw [tchk_nil]
  have hn3 := Sl.keeps hL2 (Sl.keeps (hL1.new _) hn hK2 fun _ _ => trivial) hK3 fun _ _ => trivial
  simp only [go_sem, seval]
  refine cK_of (same63 _ _ [oneN] S3 hn3 hn3 (by simp [oneN_ok]) (by simp)) ?_
  rintro r4 S4 hS4 hL4 ⟨rfl, rfl⟩
  simp only [go_sem, seval]
  refine hQ _ _ _ ?_; (first | rw [k_body_ret] | rw [k_body_normal]); simp only [resVals, resVal, ev, Env.get_put, ↓reduceIte, Nat.reduceEqDiff, Option.bind_some, Option.map_some, reduceCtorEq, ldv_true, ldv_false, lloadV_agg, partL, List.toList_toArray, cellsOf_set, cellsOf_new, rd_set, rd_new, List.length_cons, List.length_nil, Nat.reduceAdd, Nat.reduceLeDiff, Nat.le_refl, List.take_succ_cons, List.take_zero, List.drop_zero, Nat.add_eq_left, Nat.left_eq_add, List.getElem?_cons_zero, List.getElem?_cons_succ, aN50]; rw [retQ_some]; simp only [oneOr]
  exact ⟨trivial, ((hK1.trans hKn fun _ _ _ => trivial).trans hK2 fun _ _ _ => trivial).trans hK3 fun _ _ _ => trivial⟩
end Go.Proofs.Ytbgnaeagdneikaa
-- pp: new
namespace Go.Proofs.Ytbgnaeagdneikaa
open Go Go.Proofs.Ytbgnaeagdneikaa.Abs
set_option linter.unusedSimpArgs false
set_option linter.unusedVariables false

theorem iffs_bool {p : Prop} {b c : Bool} (h : b = true ↔ p) (k : c = true ↔ p) : b = c := by rw [Bool.eq_iff_iff, h, k]

set_option maxHeartbeats 1000000 in
theorem treeForms (x : Value) (l : List Nd) (S : St) (h : Ns S x l) (hok : ∀ x ∈ l, x.Ok) : ACalls Try.prog 13 [x] S fun r S' => r = .bool true := by
  refine ACalls.run hmix Try.func13 cN13 kN13 rfl fun hL Q hQ => ?_
  simp only [guard_undef, List.contains_cons, List.contains_nil, Nat.reduceBEq, Int.cast_ofNat_Int, and_self, k_pend_g, pendV, go_sem, i64_wrap_id, Int.reduceAdd, Int.reduceSub, Int.reduceNeg, Int.reduceMul, Nat.reduceSub, Nat.reduceEqDiff, Nat.reduceAdd, Nat.reduceMul, Nat.reduceLeDiff, ↓reduceIte, reduceCtorEq, Int.reduceToNat, Int.reduceLT, Int.reduceLE, Int.reduceEq, aN13]
  refine cK_of (awake50 S) ?_
  rintro r0 S0 hS0 hL0 ⟨rfl, hK0⟩
  obtain ⟨a, e, rfl⟩ := Sl.slice h
  by_cases hl : (300 : Int) < l.length
  · simp only [guard_undef, List.contains_cons, List.contains_nil, Nat.reduceBEq, Int.cast_ofNat_Int, and_self, k_pend_g, pendV, go_sem, i64_wrap_id, Int.reduceAdd, Int.reduceSub, Int.reduceNeg, Int.reduceMul, Nat.reduceSub, Nat.reduceEqDiff, Nat.reduceAdd, Nat.reduceMul, Nat.reduceLeDiff, ↓reduceIte, reduceCtorEq, Int.reduceToNat, Int.reduceLT, Int.reduceLE, Int.reduceEq, hl]
    refine cK_of (awake50 S0) ?_
    rintro r2 S2 hS2 hL2 ⟨rfl, hK2⟩
    simp only [guard_undef, List.contains_cons, List.contains_nil, Nat.reduceBEq, Int.cast_ofNat_Int, and_self, k_pend_g, pendV, go_sem, i64_wrap_id, Int.reduceAdd, Int.reduceSub, Int.reduceNeg, Int.reduceMul, Nat.reduceSub, Nat.reduceEqDiff, Nat.reduceAdd, Nat.reduceMul, Nat.reduceLeDiff, ↓reduceIte, reduceCtorEq, Int.reduceToNat, Int.reduceLT, Int.reduceLE, Int.reduceEq]
    refine hQ _ _ _ ?_; (first | rw [k_body_ret] | rw [k_body_normal]); simp only [resVals, resVal, ev, Env.get_put, ↓reduceIte, Nat.reduceEqDiff, Option.bind_some, Option.map_some, reduceCtorEq, ldv_true, ldv_false, lloadV_agg, partL, List.toList_toArray, cellsOf_set, cellsOf_new, rd_set, rd_new, List.length_cons, List.length_nil, Nat.reduceAdd, Nat.reduceLeDiff, Nat.le_refl, List.take_succ_cons, List.take_zero, List.drop_zero, Nat.add_eq_left, Nat.left_eq_add, List.getElem?_cons_zero, List.getElem?_cons_succ, aN13]; rw [retQ_some]; simp only [oneOr]
  have h0 : Ns S0 (.slice a l.length e) l := Sl.keeps hL h hK0 fun _ _ => trivial
  simp only [guard_undef, List.contains_cons, List.contains_nil, Nat.reduceBEq, Int.cast_ofNat_Int, and_self, k_pend_g, pendV, go_sem, i64_wrap_id, Int.reduceAdd, Int.reduceSub, Int.reduceNeg, Int.reduceMul, Nat.reduceSub, Nat.reduceEqDiff, Nat.reduceAdd, Nat.reduceMul, Nat.reduceLeDiff, ↓reduceIte, reduceCtorEq, Int.reduceToNat, Int.reduceLT, Int.reduceLE, Int.reduceEq, hl]
  refine cK_of (formed51 _ l S0 h0 hok (by omega)) ?_
  rintro r1 S1 hS1 hL1 ⟨⟨c, rfl, hc⟩, hK1⟩
  have h1 : Ns S1 (.slice a l.length e) l := Sl.keeps hL0 h0 hK1 fun _ _ => trivial
  simp only [guard_undef, List.contains_cons, List.contains_nil, Nat.reduceBEq, Int.cast_ofNat_Int, and_self, k_pend_g, pendV, go_sem, i64_wrap_id, Int.reduceAdd, Int.reduceSub, Int.reduceNeg, Int.reduceMul, Nat.reduceSub, Nat.reduceEqDiff, Nat.reduceAdd, Nat.reduceMul, Nat.reduceLeDiff, ↓reduceIte, reduceCtorEq, Int.reduceToNat, Int.reduceLT, Int.reduceLE, Int.reduceEq, hl]
  refine cK_of (formed52 _ l S1 h1 hok (by omega)) ?_
  rintro r2 S2 hS2 hL2 ⟨⟨c', rfl, hc'⟩, hK2⟩
  obtain rfl := iffs_bool hc hc'
  have h2 : Ns S2 (.slice a l.length e) l := Sl.keeps hL1 h1 hK2 fun _ _ => trivial
  simp only [guard_undef, List.contains_cons, List.contains_nil, Nat.reduceBEq, Int.cast_ofNat_Int, and_self, k_pend_g, pendV, go_sem, i64_wrap_id, Int.reduceAdd, Int.reduceSub, Int.reduceNeg, Int.reduceMul, Nat.reduceSub, Nat.reduceEqDiff, Nat.reduceAdd, Nat.reduceMul, Nat.reduceLeDiff, ↓reduceIte, reduceCtorEq, Int.reduceToNat, Int.reduceLT, Int.reduceLE, Int.reduceEq, hl]
  refine cK_of (check53 _ l S2 h2 hok (by omega)) ?_
  rintro r3 S3 hS3 hL3 ⟨hK3, rfl⟩
  have h3 : Ns S3 (.slice a l.length e) l := Sl.keeps hL2 h2 hK3 fun _ _ => trivial
  simp only [guard_undef, List.contains_cons, List.contains_nil, Nat.reduceBEq, Int.cast_ofNat_Int, and_self, k_pend_g, pendV, go_sem, i64_wrap_id, Int.reduceAdd, Int.reduceSub, Int.reduceNeg, Int.reduceMul, Nat.reduceSub, Nat.reduceEqDiff, Nat.reduceAdd, Nat.reduceMul, Nat.reduceLeDiff, ↓reduceIte, reduceCtorEq, Int.reduceToNat, Int.reduceLT, Int.reduceLE, Int.reduceEq, hl]
  refine cK_of (check54 _ l S3 h3 hok (by omega)) ?_
  rintro r4 S4 hS4 hL4 ⟨hK4, rfl⟩
  simp only [guard_undef, List.contains_cons, List.contains_nil, Nat.reduceBEq, Int.cast_ofNat_Int, and_self, k_pend_g, pendV, go_sem, i64_wrap_id, Int.reduceAdd, Int.reduceSub, Int.reduceNeg, Int.reduceMul, Nat.reduceSub, Nat.reduceEqDiff, Nat.reduceAdd, Nat.reduceMul, Nat.reduceLeDiff, ↓reduceIte, reduceCtorEq, Int.reduceToNat, Int.reduceLT, Int.reduceLE, Int.reduceEq, hl]
  refine hQ _ _ _ ?_; (first | rw [k_body_ret] | rw [k_body_normal]); simp only [resVals, resVal, ev, Env.get_put, ↓reduceIte, Nat.reduceEqDiff, Option.bind_some, Option.map_some, reduceCtorEq, ldv_true, ldv_false, lloadV_agg, partL, List.toList_toArray, cellsOf_set, cellsOf_new, rd_set, rd_new, List.length_cons, List.length_nil, Nat.reduceAdd, Nat.reduceLeDiff, Nat.le_refl, List.take_succ_cons, List.take_zero, List.drop_zero, Nat.add_eq_left, Nat.left_eq_add, List.getElem?_cons_zero, List.getElem?_cons_succ, aN13]; rw [retQ_some]; simp only [oneOr]

/-- A chain of plain nodes. -/
def line (n : Nat) : List Nd := (List.range n).map fun (k : Nat) => ⟨plainK 4, (k : Int) - 1⟩
theorem line_length (n : Nat) : (line n).length = n := by simp [line]
theorem line_succ (n : Nat) : line (n + 1) = line n ++ [⟨plainK 4, (n : Int) - 1⟩] := by simp [line, List.range_succ]
theorem line_par {n k : Nat} (h : k < n) : par (line n) k = (k : Int) - 1 := by
  rw [par_get (by rw [line_length]; exact h)]
  simp [line]
theorem line_ok {n : Nat} (hn : n ≤ 1000000) : ∀ x ∈ line n, x.Ok := by
  intro x hx
  simp only [line, List.mem_map, List.mem_range] at hx
  obtain ⟨k, hk, rfl⟩ := hx
  exact ⟨styK_ok true 4 (by omega), by unfold InI64; simp only; omega⟩
theorem line_tr (n : Nat) : Tr (par (line n)) n := fun i hi => by rw [line_par hi]; omega
theorem line_chain {n : Nat} : ∀ (k : Nat), k < n → (chain (par (line n)) (k : Int)).length = k + 1
  | 0, h => by
    rw [chain_pos (line_tr n) (by omega) (by omega), Int.toNat_natCast, line_par h, chain_neg _ (by omega)]
    rfl
  | k + 1, h => by
    have := line_chain (n := n) k (by omega)
    rw [chain_pos (line_tr n) (by omega) (by omega), Int.toNat_natCast, line_par h, List.length_cons, show ((k + 1 : Nat) : Int) - 1 = (k : Int) by omega, this]
theorem line_form {n : Nat} (h : 0 < n) : TForm (line n) := by
  refine ⟨⟨by rw [line_length]; exact h, fun i hi => ?_⟩, fun x hx => ?_⟩
  · rw [line_length] at hi
    refine ⟨fun _ => by rw [line_par h]; rfl, fun h0 => ?_⟩
    rw [line_par hi, chain_pos (line_tr n) (by omega) (by omega)]
    simp
  · simp only [line, List.mem_map, List.mem_range] at hx
    obtain ⟨k, hk, rfl⟩ := hx
    exact plain_formed
theorem line_chk {n : Nat} (h : 0 < n) (hn : n ≤ 1000) : tchk (line n) = if 256 < n then 3 else 0 := by
  split
  · rename_i h2
    refine tchk_lim (line_form h) ((tlim_iff _).2 (.inr (.inl ⟨256, by rw [line_length]; exact h2, ?_⟩)))
    unfold dep
    rw [line_chain 256 h2]
    omega
  · rename_i h2
    refine tchk_ok (line_form h) fun hh => ?_
    rcases (tlim_iff _).1 hh with hh | ⟨k, hk, hh⟩ | hh
    · rw [line_length] at hh; omega
    · rw [line_length] at hk
      unfold dep at hh
      rw [line_chain k hk] at hh
      omega
    · refine hh fun x hx => ?_
      simp only [line, List.mem_map, List.mem_range] at hx
      obtain ⟨k, hk, rfl⟩ := hx
      exact plain_within

set_option maxHeartbeats 1000000 in
theorem treeDeep (a : Int) (h0 : 0 ≤ a) (h1 : a < 256) (S : St) : ACalls Try.prog 14 [.int .u8 a] S fun r S' => r = .bool true := by
  refine ACalls.run hmix Try.func14 cN14 kN14 rfl fun hL Q hQ => ?_
  simp only [guard_undef, List.contains_cons, List.contains_nil, Nat.reduceBEq, Int.cast_ofNat_Int, and_self, k_pend_g, pendV, go_sem, i64_wrap_id, Int.reduceAdd, Int.reduceSub, Int.reduceNeg, Int.reduceMul, Nat.reduceSub, Nat.reduceEqDiff, Nat.reduceAdd, Nat.reduceMul, Nat.reduceLeDiff, ↓reduceIte, reduceCtorEq, Int.reduceToNat, Int.reduceLT, Int.reduceLE, Int.reduceEq, aN14]
  refine cK_of (awake50 S) ?_
  rintro r0 S0 hS0 hL0 ⟨rfl, hK0⟩
  obtain ⟨m, hm, hm12⟩ : ∃ m : Nat, a.tmod 12 = (m : Int) ∧ m < 12 := ⟨(a.tmod 12).toNat, by have := Int.tmod_nonneg (12 : Int) h0; omega, by have := Int.tmod_lt_of_pos a (b := 12) (by omega); omega⟩
  have hw1 : IntKind.i64.wrap (m : Int) = m := wrap64_id (by omega) (by omega)
  have hw2 : IntKind.i64.wrap (250 + (m : Int)) = ((250 + m : Nat) : Int) := by rw [wrap64_id (by omega) (by omega)]; omega
  simp only [guard_undef, List.contains_cons, List.contains_nil, Nat.reduceBEq, Int.cast_ofNat_Int, and_self, k_pend_g, pendV, go_sem, i64_wrap_id, Int.reduceAdd, Int.reduceSub, Int.reduceNeg, Int.reduceMul, Nat.reduceSub, Nat.reduceEqDiff, Nat.reduceAdd, Nat.reduceMul, Nat.reduceLeDiff, ↓reduceIte, reduceCtorEq, Int.reduceToNat, Int.reduceLT, Int.reduceLE, Int.reduceEq, hm, hw1, hw2]
  refine lK_of (fun t' S' => KeepsAll S S' ∧ S0.next ≤ S'.next ∧ Live S' ∧ ∃ (j : Nat) (v : Value), j ≤ 250 + m ∧ Slots t' [(3, v), (11, .int .i64 ((250 + m : Nat) : Int)), (12, .int .i64 j)] ∧ Own S' 49 v (line j).length (ndCells (line j)) ∧ Fresh S0 v) (fun t' _ => (((250 + m : Nat) : Int) - RowKit.intOf (t' 12)).toNat) ?_ ?_
  · refine ⟨hK0, Nat.le_refl _, hL0, 0, .slice none 0 0, by omega, ?_, .inl ⟨rfl, rfl, rfl⟩, fun d hd => by simp [Value.blkOf] at hd⟩
    simp only [guard_undef, List.contains_cons, List.contains_nil, Nat.reduceBEq, Int.cast_ofNat_Int, and_self, k_pend_g, pendV, go_sem, i64_wrap_id, Int.reduceAdd, Int.reduceSub, Int.reduceNeg, Int.reduceMul, Nat.reduceSub, Nat.reduceEqDiff, Nat.reduceAdd, Nat.reduceMul, Nat.reduceLeDiff, ↓reduceIte, reduceCtorEq, Int.reduceToNat, Int.reduceLT, Int.reduceLE, Int.reduceEq, slots_cons, slots_nil, Int.natCast_add, Int.natCast_succ, Int.cast_ofNat_Int, hm, hw1, hw2]
  rintro t1 S1 Q1 ⟨hK1, hn01, hL1, j, v, hj, hs, hO1, hF1⟩ _ hN hE
  simp only [slots_cons, slots_nil] at hs
  by_cases hjn : j = 250 + m
  · subst hjn
    simp only [guard_undef, List.contains_cons, List.contains_nil, Nat.reduceBEq, Int.cast_ofNat_Int, and_self, k_pend_g, pendV, go_sem, i64_wrap_id, Int.reduceAdd, Int.reduceSub, Int.reduceNeg, Int.reduceMul, Nat.reduceSub, Nat.reduceEqDiff, Nat.reduceAdd, Nat.reduceMul, Nat.reduceLeDiff, ↓reduceIte, reduceCtorEq, Int.reduceToNat, Int.reduceLT, Int.reduceLE, Int.reduceEq, hs, Int.lt_irrefl]
    refine hE _ _ _ (by simp) ?_
    simp only [guard_undef, List.contains_cons, List.contains_nil, Nat.reduceBEq, Int.cast_ofNat_Int, and_self, k_pend_g, pendV, go_sem, i64_wrap_id, Int.reduceAdd, Int.reduceSub, Int.reduceNeg, Int.reduceMul, Nat.reduceSub, Nat.reduceEqDiff, Nat.reduceAdd, Nat.reduceMul, Nat.reduceLeDiff, ↓reduceIte, reduceCtorEq, Int.reduceToNat, Int.reduceLT, Int.reduceLE, Int.reduceEq, hs]
    refine cK_of (check53 v (line (250 + m)) S1 hO1.sl (line_ok (by omega)) (by rw [line_length]; omega)) ?_
    rintro r2 S2 hS2 hL2 ⟨hK2, rfl⟩
    rw [line_chk (by omega) (by omega)]
    have hO2 := Own.keeps hL1 hO1 hK2 fun _ _ => trivial
    obtain ⟨b, e, rfl⟩ := Sl.slice hO2.sl
    by_cases hg : 256 < 250 + m
    · have g1 : ¬ (((line (250 + m)).length : Int) ≤ 256) := by rw [line_length]; omega
      have g2 : (256 : Int) < (line (250 + m)).length := by rw [line_length]; omega
      rw [if_pos hg]
      have g3 : ((3 : Int) == 0) = false := rfl
      simp only [guard_undef, List.contains_cons, List.contains_nil, Nat.reduceBEq, Int.cast_ofNat_Int, and_self, k_pend_g, pendV, go_sem, i64_wrap_id, Int.reduceAdd, Int.reduceSub, Int.reduceNeg, Int.reduceMul, Nat.reduceSub, Nat.reduceEqDiff, Nat.reduceAdd, Nat.reduceMul, Nat.reduceLeDiff, ↓reduceIte, reduceCtorEq, Int.reduceToNat, Int.reduceLT, Int.reduceLE, Int.reduceEq, hs, g1, g2, g3]
      refine hQ _ _ _ ?_; (first | rw [k_body_ret] | rw [k_body_normal]); simp only [resVals, resVal, ev, Env.get_put, ↓reduceIte, Nat.reduceEqDiff, Option.bind_some, Option.map_some, reduceCtorEq, ldv_true, ldv_false, lloadV_agg, partL, List.toList_toArray, cellsOf_set, cellsOf_new, rd_set, rd_new, List.length_cons, List.length_nil, Nat.reduceAdd, Nat.reduceLeDiff, Nat.le_refl, List.take_succ_cons, List.take_zero, List.drop_zero, Nat.add_eq_left, Nat.left_eq_add, List.getElem?_cons_zero, List.getElem?_cons_succ, aN14, hs]; rw [retQ_some]; simp only [oneOr]
    · have g1 : (((line (250 + m)).length : Int) ≤ 256) := by rw [line_length]; omega
      rw [if_neg hg]
      simp only [guard_undef, List.contains_cons, List.contains_nil, Nat.reduceBEq, Int.cast_ofNat_Int, and_self, k_pend_g, pendV, go_sem, i64_wrap_id, Int.reduceAdd, Int.reduceSub, Int.reduceNeg, Int.reduceMul, Nat.reduceSub, Nat.reduceEqDiff, Nat.reduceAdd, Nat.reduceMul, Nat.reduceLeDiff, ↓reduceIte, reduceCtorEq, Int.reduceToNat, Int.reduceLT, Int.reduceLE, Int.reduceEq, hs, g1]
      refine hQ _ _ _ ?_; (first | rw [k_body_ret] | rw [k_body_normal]); simp only [resVals, resVal, ev, Env.get_put, ↓reduceIte, Nat.reduceEqDiff, Option.bind_some, Option.map_some, reduceCtorEq, ldv_true, ldv_false, lloadV_agg, partL, List.toList_toArray, cellsOf_set, cellsOf_new, rd_set, rd_new, List.length_cons, List.length_nil, Nat.reduceAdd, Nat.reduceLeDiff, Nat.le_refl, List.take_succ_cons, List.take_zero, List.drop_zero, Nat.add_eq_left, Nat.left_eq_add, List.getElem?_cons_zero, List.getElem?_cons_succ, aN14, hs]; rw [retQ_some]; simp only [oneOr]
  have hjl : (j : Int) < ((250 + m : Nat) : Int) := by omega
  simp only [guard_undef, List.contains_cons, List.contains_nil, Nat.reduceBEq, Int.cast_ofNat_Int, and_self, k_pend_g, pendV, go_sem, i64_wrap_id, Int.reduceAdd, Int.reduceSub, Int.reduceNeg, Int.reduceMul, Nat.reduceSub, Nat.reduceEqDiff, Nat.reduceAdd, Nat.reduceMul, Nat.reduceLeDiff, ↓reduceIte, reduceCtorEq, Int.reduceToNat, Int.reduceLT, Int.reduceLE, Int.reduceEq, hs, hjl]
  refine cK_of (plain55 S1) ?_
  rintro r2 S2 hS2 hL2 ⟨rfl, hK2⟩
  have hp : (plainK 4).Ok := styK_ok true 4 (by omega)
  have hlen : (plainK 4).cells.length = 48 := hp.len
  have e1 := ow_node (plainK 4) hp
  have e2 := fun w => set_node hp (.int .i64 0) w
  have e3 := fun v => len_node hp v
  have hw3 : IntKind.i64.wrap ((j : Int) - 1) = j - 1 := wrap64_id (by omega) (by omega)
  have hw4 : IntKind.i64.wrap ((j : Int) + 1) = j + 1 := wrap64_id (by omega) (by omega)
  simp only [guard_undef, List.contains_cons, List.contains_nil, Nat.reduceBEq, Int.cast_ofNat_Int, and_self, k_pend_g, pendV, go_sem, i64_wrap_id, Int.reduceAdd, Int.reduceSub, Int.reduceNeg, Int.reduceMul, Nat.reduceSub, Nat.reduceEqDiff, Nat.reduceAdd, Nat.reduceMul, Nat.reduceLeDiff, ↓reduceIte, reduceCtorEq, Int.reduceToNat, Int.reduceLT, Int.reduceLE, Int.reduceEq, hs, hw3, hlen, ↓e1, ↓e2, ↓e3, ↓ow_all]
  obtain ⟨y, hy⟩ : ∃ y : Nd, y = ⟨plainK 4, (j : Int) - 1⟩ := ⟨_, rfl⟩
  have hyo : y.Ok := by rw [hy]; exact ⟨hp, by unfold InI64; simp only; omega⟩
  have hyc : y.cells = (plainK 4).cells ++ [.int .i64 ((j : Int) - 1)] := by rw [hy]; rfl
  rw [← hyc]
  have hb : (S2.new ⟨false, y.cells⟩).blk S2.next = some ⟨false, y.cells⟩ := by simp [St.blk_new]
  have hn := ns_one hyo hb
  have hKn := Keeps.of_new S2 ⟨false, y.cells⟩ fun _ => True
  have hO3 := Own.keeps hL2 (Own.keeps hL1 hO1 hK2 fun _ _ => trivial) hKn fun _ _ => trivial
  have hbb : ((line j).length + [y].length) * 384 ≤ 1099511627776 := by rw [line_length]; simp only [List.length_cons, List.length_nil]; omega
  refine hK_of (append_live (hL2.new _) (append_own (bytes := 384) (R := fun v' S' => Own S' 49 v' ((line j).length + 1) (ndCells (line j) ++ ndCells [y]) ∧ Keeps (S2.new ⟨false, y.cells⟩) S' (fun i => Value.blkOf v ≠ some i) ∧ (∀ i, Value.blkOf v' = some i → Value.blkOf v = some i ∨ (S2.new ⟨false, y.cells⟩).next ≤ i)) (by omega) hO3 hn hbb fun v' S' h1 h2 h3 => ⟨h1, h2, h3⟩)) ?_
  rintro v4 S4 ⟨hL4, hO4, hk4, hF4⟩
  simp only [guard_undef, List.contains_cons, List.contains_nil, Nat.reduceBEq, Int.cast_ofNat_Int, and_self, k_pend_g, pendV, go_sem, i64_wrap_id, Int.reduceAdd, Int.reduceSub, Int.reduceNeg, Int.reduceMul, Nat.reduceSub, Nat.reduceEqDiff, Nat.reduceAdd, Nat.reduceMul, Nat.reduceLeDiff, ↓reduceIte, reduceCtorEq, Int.reduceToNat, Int.reduceLT, Int.reduceLE, Int.reduceEq, hs, hw4]
  have hn24 : S2.next < S4.next := by have := hk4.1; simp [St.next_new] at this; omega
  refine hN _ _ ⟨?_, by omega, hL4, j + 1, v4, by omega, ?_, ?_, ?_⟩ ?_
  · refine ((hK1.trans hK2 fun _ _ _ => trivial).trans hKn fun _ _ _ => trivial).trans hk4 fun i hi _ e => ?_
    have := hF1 i e
    omega
  · simp only [guard_undef, List.contains_cons, List.contains_nil, Nat.reduceBEq, Int.cast_ofNat_Int, and_self, k_pend_g, pendV, go_sem, i64_wrap_id, Int.reduceAdd, Int.reduceSub, Int.reduceNeg, Int.reduceMul, Nat.reduceSub, Nat.reduceEqDiff, Nat.reduceAdd, Nat.reduceMul, Nat.reduceLeDiff, ↓reduceIte, reduceCtorEq, Int.reduceToNat, Int.reduceLT, Int.reduceLE, Int.reduceEq, slots_cons, slots_nil, Int.natCast_add, Int.natCast_succ, Int.cast_ofNat_Int, hs]
  · rw [line_succ, ← hy, List.length_append, List.length_cons, List.length_nil]
    have e : ndCells (line j ++ [y]) = ndCells (line j) ++ ndCells [y] := by simp [ndCells]
    rw [e]
    exact hO4
  · intro i hi
    rcases hF4 i hi with hh | hh
    · exact hF1 i hh
    · simp [St.next_new] at hh
      omega
  · simp only [guard_undef, List.contains_cons, List.contains_nil, Nat.reduceBEq, Int.cast_ofNat_Int, and_self, k_pend_g, pendV, go_sem, i64_wrap_id, Int.reduceAdd, Int.reduceSub, Int.reduceNeg, Int.reduceMul, Nat.reduceSub, Nat.reduceEqDiff, Nat.reduceAdd, Nat.reduceMul, Nat.reduceLeDiff, ↓reduceIte, reduceCtorEq, Int.reduceToNat, Int.reduceLT, Int.reduceLE, Int.reduceEq, hs]
    simp [RowKit.intOf]
    omega

theorem nd_ok (cs : List Value) (h : FlatOk ndSh cs) : ∃ x : Nd, cs = x.cells ∧ x.Ok := by
  obtain ⟨a, b, rfl, h1, h2⟩ := flat_split h
  obtain ⟨s, hs, rfl⟩ := sty_of h1
  obtain ⟨v, b2, rfl, ⟨p, rfl, w⟩, h3⟩ := flat_cons h2
  obtain rfl := flat_nil h3
  exact ⟨⟨s, p⟩, rfl, hs, wf64 w⟩
theorem nds_ok : ∀ (n : Nat) (cs : List Value), RowsOk ndSh n cs → ∃ l : List Nd, l.length = n ∧ cs = ndCells l ∧ ∀ x ∈ l, x.Ok := by
  intro n
  induction n with
  | zero =>
    intro cs h
    have : cs = [] := List.eq_nil_of_length_eq_zero (by simpa using h.1)
    exact ⟨[], rfl, this, by simp⟩
  | succ n ih =>
    intro cs h
    have h0 := h.2 0 (by omega)
    have hl := h.1
    have hsl : ndSh.length = 49 := rfl
    rw [hsl] at h0 hl
    rw [Nat.zero_mul, List.drop_zero] at h0
    obtain ⟨x, hx, hox⟩ := nd_ok _ h0
    have hr : RowsOk ndSh n (cs.drop 49) := by
      refine ⟨by rw [hsl, List.length_drop]; omega, fun i hi => ?_⟩
      have := h.2 (i + 1) (by omega)
      rw [hsl] at this ⊢
      rw [List.drop_drop]
      rwa [show 49 + i * 49 = (i + 1) * 49 by omega]
    obtain ⟨l, h1, h2, h3⟩ := ih _ hr
    refine ⟨x :: l, by simp [h1], ?_, fun y hy => ?_⟩
    · rw [← List.take_append_drop 49 cs, hx, h2]
      simp [ndCells]
    · rcases List.mem_cons.1 hy with rfl | hy
      · exact hox
      · exact h3 y hy
theorem Ns.of_rows {S : St} {x : Value} {n : Nat} {cs : List Value} (hx : Sl S 49 x n cs) (hr : RowsOk ndSh n cs) : ∃ l : List Nd, Ns S x l ∧ ∀ z ∈ l, z.Ok := by
  obtain ⟨l, h1, rfl, h3⟩ := nds_ok n cs hr
  subst h1
  exact ⟨l, hx, h3⟩
theorem wfByte {n : Int} (h : (Lit.int .u8 n).wf = true) : 0 ≤ n ∧ n < 256 := by
  simp [Lit.wf, IntKind.min, IntKind.max, IntKind.signed, IntKind.bits] at h
  omega
theorem treeForms' (x : Value) (n : Nat) (cs : List Value) (S : St) (hx : Sl S 49 x n cs) (hr : RowsOk ndSh n cs) : ACalls Try.prog 13 [x] S fun r S' => r = .bool true := by
  obtain ⟨l, hX, hl⟩ := Ns.of_rows hx hr
  exact treeForms x l S hX hl
theorem treeDeep' (a : Int) (S : St) (wa : (Lit.int .u8 a).wf = true) : ACalls Try.prog 14 [.int .u8 a] S fun r S' => r = .bool true := treeDeep a (wfByte wa).1 (wfByte wa).2 S
end Go.Proofs.Ytbgnaeagdneikaa
-- pp: new
-- pp: short
namespace Go.Proofs.Ytbgnaeagdneikaa
open Go Go.Proofs.Ytbgnaeagdneikaa.Abs
set_option linter.unusedSimpArgs false
set_option linter.unusedVariables false

theorem pFour_b {t : Pst} (h : Byt t.1) : 0 ≤ (pFour t).1 ∧ (pFour t).1 < 4294967296 := by
  have := takeN_bound (n := 4) (bad := t.2) h
  unfold pFour
  exact ⟨this.1, by simpa using this.2⟩
theorem getD_in {P : Nat → Int} {k : Nat} (ht : Tr P k) {a : Int} (h0 : -1 ≤ a) (hk : a < k) (n : Nat) : -1 ≤ ((chain P a)[n]?).getD (-1) ∧ ((chain P a)[n]?).getD (-1) ≤ a := by
  match h : (chain P a)[n]? with
  | none => exact ⟨by simp, by simpa using h0⟩
  | some x =>
    have := chain_in ht k a hk hk x (List.mem_of_getElem? h)
    simp only [Option.getD_some]
    omega
theorem tr_snoc {l : List Nd} {x : Nd} (h : Tr (par l) l.length) (h0 : -1 ≤ x.p) (h1 : x.p < l.length) : Tr (par (l ++ [x])) (l ++ [x]).length := by
  intro i hi
  rw [List.length_append, List.length_cons, List.length_nil] at hi
  unfold par
  by_cases hil : i < l.length
  · rw [List.getElem?_append_left hil]
    exact h i hil
  · obtain rfl : i = l.length := by omega
    rw [List.getElem?_append_right (Nat.le_refl _), Nat.sub_self]
    exact ⟨h0, h1⟩
theorem nextP_in {l : List Nd} (h : Tr (par l) l.length) (t : Pst) : -1 ≤ (nextP l t).1 ∧ (nextP l t).1 < l.length := by
  unfold nextP
  split
  · rename_i e; subst e; simp
  · have := getD_in h (a := (l.length : Int) - 1) (by omega) (by omega) (pFour t).1.toNat
    unfold upR
    simp only
    omega

set_option maxHeartbeats 4000000 in
theorem read89 (i : Nat) (x : Value) (xs : List Int) (S : St) (h : IsIn S i x xs false) (hl : xs.length ≤ 1000000) :
    ACalls Try.prog 89 [ptr i] S fun r S' => Keeps S S' (fun j => j ≠ i) ∧ ((∃ l v, treeD xs = some l ∧ r = .tuple #[v, .bool true] ∧ Own S' 49 v l.length (ndCells l) ∧ Fresh S v ∧ (∀ y ∈ l, y.Ok) ∧ l.length ≤ xs.length) ∨ (treeD xs = none ∧ ∃ v, r = .tuple #[v, .bool false])) := by
  refine ACalls.run hmix Try.func89 cN89 kN89 rfl fun hL Q hQ => ?_
  simp only [go_sem, seval, aN89]
  refine cK_of (inFourT i x (xs, false) S h) ?_
  rintro r1 S1 hS1 hL1 hP
  obtain ⟨rfl, x1, hI1, s1⟩ := hP
  have hx := h.byt
  have hnb := pFour_b (t := (xs, false)) hx
  have hbyt0 : Byt (pFour (xs, false)).2.1 := takeN_byt (t := (xs, false)) hx
  have hlen0 : (pFour (xs, false)).2.1.length ≤ xs.length := by
    unfold pFour takeN
    split
    · simp
    · simp
  obtain ⟨N, hN⟩ : ∃ N : Nat, (pFour (xs, false)).1 = (N : Int) := ⟨(pFour (xs, false)).1.toNat, by omega⟩
  obtain ⟨t0, ht0⟩ : ∃ t0, t0 = (pFour (xs, false)).2 := ⟨_, rfl⟩
  have hdec : treeD xs = match decT N [] t0 with | some (l, t) => if t = ([], false) ∧ 0 < N then some l else none | none => none := by
    unfold treeD
    rw [hN, ← ht0, Int.toNat_natCast]
    rfl
  have hi1 := hL1 _ _ hI1.blk
  have hx1 : ∀ d, Value.blkOf x1 = some d → d < S1.next := fun d hd => hI1.data.lt hL1 hd
  rw [hN] at hnb ⊢
  rw [← ht0] at hI1 hbyt0 hlen0
  simp only [go_sem, seval]
  refine lK_of (fun t' S' => ∃ (j : Nat) (l : List Nd) (t : Pst) (x' v : Value), j ≤ N ∧ Slots t' [(0, ptr i), (4, .int .u32 N), (5, v), (9, .int .u32 N), (10, .int .u32 j)] ∧ Live S' ∧ l.length = j ∧ decT N [] t0 = decT (N - j) l t ∧
      IsIn S' i x' t.1 t.2 ∧ InStep S1 i x1 S' x' ∧ Own S' 49 v l.length (ndCells l) ∧ Fresh S1 v ∧ Tr (par l) l.length ∧ (∀ y ∈ l, y.Ok) ∧ t.1.length + l.length ≤ xs.length ∧ (l ≠ [] → t.2 = false))
    (fun t' _ => (N - RowKit.intOf (t' 10)).toNat) ?_ ?_
  · refine ⟨0, [], t0, x1, .slice none 0 0, by omega, ?_, hL1, rfl, rfl, hI1, InStep.refl _ _ _, .inl ⟨rfl, rfl, rfl⟩, fun d hd => by simp [Value.blkOf] at hd, fun i hi => by simp at hi, by simp, by simpa using hlen0, fun h => absurd rfl h⟩
    simp only [go_sem, seval, slots_cons, slots_nil, Int.natCast_add, Int.natCast_succ, Int.cast_ofNat_Int]
  rintro t1 S2 Q1 ⟨j, l, t, x2, v, hj, h1, hL2, hlj, hd, hI2, s2, hO2, hF2, htr, hok, hll, htb⟩ _ hNn hE
  simp only [slots_cons, slots_nil] at h1
  have hvi : Off v i := fun e => by have := hF2 i e; omega
  have hKS2 : ∀ S' x', InStep S1 i x1 S' x' → Keeps S S' (fun j => j ≠ i) := fun S' x' hs => s1.keep.trans hs.keep fun j hj hp => hp
  obtain ⟨va, ve, rfl⟩ := Sl.slice hO2.sl
  by_cases hjn : j = N
  · subst hjn
    simp only [go_sem, seval, h1, Int.lt_irrefl]
    refine hE _ _ _ (by simp) ?_
    simp only [go_sem, seval, h1]
    refine cK_of (inDone i x2 _ _ S2 hI2) ?_
    rintro r3 S3 hS3 hL3 ⟨rfl, rfl⟩
    rw [Nat.sub_self] at hd
    simp only [decT] at hd
    rw [hd] at hdec
    simp only at hdec
    cases hdn : (!t.2 && (t.1.length : Int) == 0)
    · simp only [go_sem, seval, h1]
      refine hQ _ _ _ ?_; (first | rw [k_body_ret] | rw [k_body_normal]); simp only [resVals, resVal, ev, Env.get_put, ↓reduceIte, Nat.reduceEqDiff, Option.bind_some, Option.map_some, reduceCtorEq, ldv_true, ldv_false, lloadV_agg, partL, List.toList_toArray, cellsOf_set, cellsOf_new, rd_set, rd_new, List.length_cons, List.length_nil, Nat.reduceAdd, Nat.reduceLeDiff, Nat.le_refl, List.take_succ_cons, List.take_zero, List.drop_zero, Nat.add_eq_left, Nat.left_eq_add, List.getElem?_cons_zero, List.getElem?_cons_succ, aN89, h1]; rw [retQ_some]; simp only [oneOr]
      refine ⟨hKS2 _ _ s2, .inr ⟨?_, _, rfl⟩⟩
      rw [hdec, if_neg]
      rintro ⟨e, _⟩
      rw [e] at hdn
      simp at hdn
    · have ht : t = ([], false) := by
        obtain ⟨ts, tb⟩ := t
        simp only [Bool.and_eq_true, Bool.not_eq_true', beq_iff_eq] at hdn
        have : ts = [] := List.eq_nil_of_length_eq_zero (by omega)
        rw [this, hdn.1]
      by_cases hj0 : 0 < j
      · have hj0' : (0 : Int) < j := by omega
        simp only [go_sem, seval, h1, hj0']
        refine hQ _ _ _ ?_; (first | rw [k_body_ret] | rw [k_body_normal]); simp only [resVals, resVal, ev, Env.get_put, ↓reduceIte, Nat.reduceEqDiff, Option.bind_some, Option.map_some, reduceCtorEq, ldv_true, ldv_false, lloadV_agg, partL, List.toList_toArray, cellsOf_set, cellsOf_new, rd_set, rd_new, List.length_cons, List.length_nil, Nat.reduceAdd, Nat.reduceLeDiff, Nat.le_refl, List.take_succ_cons, List.take_zero, List.drop_zero, Nat.add_eq_left, Nat.left_eq_add, List.getElem?_cons_zero, List.getElem?_cons_succ, aN89, h1]; rw [retQ_some]; simp only [oneOr]
        refine ⟨hKS2 _ _ s2, .inl ⟨l, _, ?_, rfl, hO2, fun d hd => by have := hF2 d hd; omega, hok, by omega⟩⟩
        rw [hdec, if_pos ⟨ht, hj0⟩]
      · have hj0' : ¬ (0 : Int) < j := by omega
        simp only [go_sem, seval, h1, hj0']
        refine hQ _ _ _ ?_; (first | rw [k_body_ret] | rw [k_body_normal]); simp only [resVals, resVal, ev, Env.get_put, ↓reduceIte, Nat.reduceEqDiff, Option.bind_some, Option.map_some, reduceCtorEq, ldv_true, ldv_false, lloadV_agg, partL, List.toList_toArray, cellsOf_set, cellsOf_new, rd_set, rd_new, List.length_cons, List.length_nil, Nat.reduceAdd, Nat.reduceLeDiff, Nat.le_refl, List.take_succ_cons, List.take_zero, List.drop_zero, Nat.add_eq_left, Nat.left_eq_add, List.getElem?_cons_zero, List.getElem?_cons_succ, aN89, h1]; rw [retQ_some]; simp only [oneOr]
        refine ⟨hKS2 _ _ s2, .inr ⟨?_, _, rfl⟩⟩
        rw [hdec, if_neg fun hh => hj0 hh.2]
  have hjl : (j : Int) < N := by omega
  have hj1 : IntKind.u32.wrap ((j : Int) + 1) = j + 1 := by rw [wrap32u]; omega
  have hsucc : N - j = (N - (j + 1)) + 1 := by omega
  rw [hsucc, decT] at hd
  have hnp := nextP_in htr t
  simp only [go_sem, seval, h1, hjl]
  refine iK_cut (fun t' S' => ∃ x6, Slots t' [(0, ptr i), (4, .int .u32 N), (5, .slice va l.length ve), (6, .int .i64 (nextP l t).1), (9, .int .u32 N), (10, .int .u32 j)] ∧ Live S' ∧ IsIn S' i x6 (nextP l t).2.1 (nextP l t).2.2 ∧ InStep S1 i x1 S' x6 ∧ Keeps S2 S' (fun j => j ≠ i) ∧ (l ≠ [] → 0 ≤ (nextP l t).1)) (fun Q6 hN6 hE6 => iK_split (fun hc => ?_) (fun hc => ?_)) ?_
  · have hl0 : 0 < l.length := by simpa using hc
    have hne : l ≠ [] := fun e => by rw [e] at hl0; simp at hl0
    have hnx : nextP l t = (upR l (pFour t).1.toNat, (pFour t).2) := by unfold nextP; rw [if_neg hne]
    have hw : IntKind.i64.wrap ((l.length : Int) - 1) = (l.length : Int) - 1 := wrap64_id (by omega) (by omega)
    simp only [go_sem, seval, h1, hw]
    refine cK_of (inFourT i x2 t S2 hI2) ?_
    rintro r3 S3 hS3 hL3 hP
    obtain ⟨rfl, x3, hI3, s3⟩ := hP
    have hn3 := pFour_b (t := t) hI2.byt
    obtain ⟨q, hq⟩ : ∃ q : Nat, (pFour t).1 = (q : Int) := ⟨(pFour t).1.toNat, by omega⟩
    have h3 : Ns S3 (.slice va l.length ve) l := Sl.keeps hL2 hO2.sl s3.keep fun d hd e => hvi (by rw [← e]; exact hd)
    rw [hq] at hnx ⊢
    simp only [go_sem, seval, h1, hw]
    refine cK_of (parent97 _ l ((l.length : Int) - 1) q l.length S3 h3 hok (Nat.le_refl _) (by omega) htr (by omega) (by omega)) ?_
    rintro r4 S4 hS4 hL4 ⟨rfl, rfl⟩
    have e4 : ((chain (par l) ((l.length : Int) - 1))[q]?).getD (-1) = (nextP l t).1 := by rw [hnx]; rfl
    rw [e4]
    have e5 : (pFour t).2 = (nextP l t).2 := by rw [hnx]
    rw [e5] at hI3
    by_cases hneg : (nextP l t).1 < 0
    · simp only [go_sem, seval, h1, hneg]
      refine hE6 _ _ _ (by simp) ?_
      simp only [go_sem, seval, h1]
      refine hE _ _ _ (by simp) ?_
      simp only [go_sem, seval, h1]
      refine hQ _ _ _ ?_; (first | rw [k_body_ret] | rw [k_body_normal]); simp only [resVals, resVal, ev, Env.get_put, ↓reduceIte, Nat.reduceEqDiff, Option.bind_some, Option.map_some, reduceCtorEq, ldv_true, ldv_false, lloadV_agg, partL, List.toList_toArray, cellsOf_set, cellsOf_new, rd_set, rd_new, List.length_cons, List.length_nil, Nat.reduceAdd, Nat.reduceLeDiff, Nat.le_refl, List.take_succ_cons, List.take_zero, List.drop_zero, Nat.add_eq_left, Nat.left_eq_add, List.getElem?_cons_zero, List.getElem?_cons_succ, aN89, h1]; rw [retQ_some]; simp only [oneOr]
      refine ⟨hKS2 _ _ (s2.trans s3), .inr ⟨?_, _, rfl⟩⟩
      rw [if_pos ⟨hne, hneg⟩] at hd
      rw [hdec, hd]
    · simp only [go_sem, seval, h1, hneg]
      refine hN6 _ _ ⟨x3, ?_, hL4, hI3, s2.trans s3, s3.keep, fun _ => by omega⟩
      simp only [go_sem, seval, slots_cons, slots_nil, Int.natCast_add, Int.natCast_succ, Int.cast_ofNat_Int, h1]
  · have hl0 : ¬ 0 < l.length := by simpa using hc
    have hne : l = [] := List.eq_nil_of_length_eq_zero (by omega)
    have hnx : nextP l t = (-1, t) := by unfold nextP; rw [if_pos hne]
    simp only [go_sem, seval, h1]
    refine hN6 _ _ ⟨x2, ?_, hL2, by rw [hnx]; exact hI2, s2, Keeps.refl _ _, fun h => absurd hne h⟩
    rw [hnx]
    simp only [go_sem, seval, slots_cons, slots_nil, Int.natCast_add, Int.natCast_succ, Int.cast_ofNat_Int, h1]
  rintro t6 S6 ⟨x6, h6, hL6, hI6, s6, hk6, hat⟩
  simp only [slots_cons, slots_nil] at h6
  rw [if_neg (fun hh => by have := hat hh.1; omega)] at hd
  have hun : (nextP l t).2.1.length ≤ t.1.length := by
    unfold nextP
    split
    · exact Nat.le_refl _
    · unfold pFour takeN
      split
      · simp
      · simp
  obtain ⟨at_, hat_⟩ : ∃ at_, at_ = (nextP l t).1 := ⟨_, rfl⟩
  obtain ⟨u, hu⟩ : ∃ u, u = (nextP l t).2 := ⟨_, rfl⟩
  rw [← hat_] at h6 hat hnp hd
  rw [← hu] at hI6 hd hun
  simp only [go_sem, seval, h6]
  refine cK_of (get40 i x6 u.1 u.2 S6 hI6) ?_
  rintro r7 S7 hS7 hL7 hG
  unfold GetPost at hG
  obtain ⟨s, u', x7, hso, rfl, hI7, s7, hgd, hbd⟩ : ∃ (s : Sty) (u' : Pst) (x7 : Value), s.Ok ∧ r7 = .agg s.cells.toArray ∧ IsIn S7 i x7 u'.1 u'.2 ∧ InStep S6 i x6 S7 x7 ∧ (Good u → u'.2 = false ∧ s = pSty u ∧ u' = pT5 u) ∧ (¬ Good u → u'.2 = true) := by
    rcases hG with ⟨g, e, x', g1, g2⟩ | ⟨g, e, x', g1, g2⟩
    · exact ⟨pSty u, ((pT5 u).1, false), x', pSty_ok hI6.byt, e, g1, g2, fun _ => ⟨rfl, rfl, by rw [← g.1]⟩, fun h => absurd g h⟩
    · exact ⟨zeroS, ([], true), x', zero_ok, e, g1, g2, fun h => absurd h g, fun _ => rfl⟩
  have hlen : s.cells.length = 48 := hso.len
  have e1 := ow_node s hso
  have e2 := fun w => set_node hso (.int .i64 0) w
  have e3 := fun v => len_node hso v
  simp only [go_sem, seval, h6, hlen, ↓e1, ↓e2, ↓e3, ↓ow_all]
  obtain ⟨y, hy⟩ : ∃ y : Nd, y = ⟨s, at_⟩ := ⟨_, rfl⟩
  have hyo : y.Ok := by rw [hy]; exact ⟨hso, by unfold InI64; simp only; omega⟩
  have hyc : y.cells = s.cells ++ [.int .i64 at_] := by rw [hy]; rfl
  rw [← hyc]
  have hb : (S7.new ⟨false, y.cells⟩).blk S7.next = some ⟨false, y.cells⟩ := by simp [St.blk_new]
  have hn := ns_one hyo hb
  have hKn := Keeps.of_new S7 ⟨false, y.cells⟩ fun _ => True
  have s67 := s6.trans s7
  have hk7 : Keeps S2 S7 (fun j => j ≠ i) := hk6.trans s7.keep fun _ _ hp => hp
  have hO7 : Own S7 49 (.slice va l.length ve) l.length (ndCells l) := hO2.keep fun d hd => hk7.2 d (hO2.sl.lt hL2 hd) fun e => hvi (by rw [hd, e])
  have hO8 := Own.keeps hL7 hO7 hKn fun _ _ => trivial
  have hbb : (l.length + [y].length) * 384 ≤ 1099511627776 := by simp only [List.length_cons, List.length_nil]; omega
  refine hK_of (append_live (hL7.new _) (append_own (bytes := 384) (R := fun v' S' => Own S' 49 v' (l.length + 1) (ndCells l ++ ndCells [y]) ∧ Keeps (S7.new ⟨false, y.cells⟩) S' (fun q => Value.blkOf (.slice va l.length ve) ≠ some q) ∧ (∀ q, Value.blkOf v' = some q → Value.blkOf (.slice va l.length ve) = some q ∨ (S7.new ⟨false, y.cells⟩).next ≤ q)) (by omega) hO8 hn hbb fun v' S' h1 h2 h3 => ⟨h1, h2, h3⟩)) ?_
  rintro v8 S8 ⟨hL8, hO8', hk8, hF8⟩
  have hfar : ∀ q, q < S1.next → Value.blkOf (.slice va l.length ve) ≠ some q := fun q hq e => by have := hF2 q e; omega
  have hn17 : S1.next ≤ S7.next := by have := s67.keep.1; omega
  have hn78 : S7.next < S8.next := by have := hk8.1; simp [St.next_new] at this; omega
  have hK78 : Keeps S7 S8 fun q => Value.blkOf (.slice va l.length ve) ≠ some q := hKn.all.trans hk8 fun _ _ hp => hp
  have hI8 : IsIn S8 i x7 u'.1 u'.2 := hI7.keeps hL7 hK78 (hfar i hi1) fun q hq => hfar q (hx1 q (s67.data q hq))
  have s8 : InStep S1 i x1 S8 x7 := ⟨s67.keep.trans hK78 fun q hq _ => hfar q hq, s67.data⟩
  simp only [go_sem, seval, h6]
  refine cK_of (inBad i x7 _ _ S8 hI8) ?_
  rintro r9 S9 hS9 hL9 ⟨rfl, rfl⟩
  by_cases hg : Good u
  rotate_left
  · have hbt := hbd hg
    rw [hbt]
    simp only [go_sem, seval, h6]
    refine hE _ _ _ (by simp) ?_
    simp only [go_sem, seval, h6]
    refine hQ _ _ _ ?_; (first | rw [k_body_ret] | rw [k_body_normal]); simp only [resVals, resVal, ev, Env.get_put, ↓reduceIte, Nat.reduceEqDiff, Option.bind_some, Option.map_some, reduceCtorEq, ldv_true, ldv_false, lloadV_agg, partL, List.toList_toArray, cellsOf_set, cellsOf_new, rd_set, rd_new, List.length_cons, List.length_nil, Nat.reduceAdd, Nat.reduceLeDiff, Nat.le_refl, List.take_succ_cons, List.take_zero, List.drop_zero, Nat.add_eq_left, Nat.left_eq_add, List.getElem?_cons_zero, List.getElem?_cons_succ, aN89, h6]; rw [retQ_some]; simp only [oneOr]
    refine ⟨hKS2 _ _ s8, .inr ⟨?_, _, rfl⟩⟩
    rw [if_neg hg] at hd
    rw [hdec, hd]
  obtain ⟨hbt, hs, hu'⟩ := hgd hg
  rw [hbt]
  rw [if_pos hg, ← hs, ← hu', ← hy] at hd
  obtain ⟨q1, q2, q3⟩ := taken u hI6.byt hg.1 hg.2.1
  have q4 := (styBytes_length (pSty u) (pSty_ok hI6.byt)).1
  have q5 := congrArg List.length q2
  rw [List.length_append, ← hu'] at q5
  simp only [go_sem, seval, h6, hj1]
  refine hNn _ _ ⟨j + 1, l ++ [y], u', x7, v8, by omega, ?_, hL9, by simp [hlj], hd, hI8, s8, ?_, ?_, tr_snoc htr (by rw [hy]; exact hnp.1) (by rw [hy]; exact hnp.2), ?_, ?_, fun _ => hbt⟩ ?_
  · simp only [go_sem, seval, slots_cons, slots_nil, Int.natCast_add, Int.natCast_succ, Int.cast_ofNat_Int, h6]
  · rw [List.length_append, List.length_cons, List.length_nil]
    have e : ndCells (l ++ [y]) = ndCells l ++ ndCells [y] := by simp [ndCells]
    rw [e]
    exact hO8'
  · intro q hq
    rcases hF8 q hq with hh | hh
    · exact hF2 q hh
    · simp [St.next_new] at hh
      omega
  · intro z hz
    rcases List.mem_append.1 hz with hz | hz
    · exact hok z hz
    · simp only [List.mem_cons, List.not_mem_nil, or_false] at hz
      rw [hz]; exact hyo
  · rw [List.length_append, List.length_cons, List.length_nil]
    omega
  · simp only [go_sem, seval, h6, h1]
    simp [RowKit.intOf]
    omega
end Go.Proofs.Ytbgnaeagdneikaa
-- pp: new
-- pp: short
namespace Go.Proofs.Ytbgnaeagdneikaa
open Go Go.Proofs.Ytbgnaeagdneikaa.Abs
set_option linter.unusedSimpArgs false
set_option linter.unusedVariables false

/-- What bytes are decoded as. -/
noncomputable def tdec (xs : List Int) : Int := match treeD xs with | some l => tchk l | none => 2

set_option maxHeartbeats 1000000 in
theorem decode57 (x : Value) (xs : List Int) (S : St) (h : Bs S x xs) (hx : Byt xs) (hl : xs.length ≤ 1000000) :
    ACalls Try.prog 57 [x] S fun r S' => KeepsAll S S' ∧ ∃ v, r = .tuple #[v, .int .i64 (tdec xs)] ∧ ((tdec xs = 0 ∧ ∃ l, treeD xs = some l ∧ Own S' 49 v l.length (ndCells l) ∧ Fresh S v ∧ (∀ y ∈ l, y.Ok) ∧ l.length ≤ xs.length) ∨ (tdec xs ≠ 0 ∧ v = .slice none 0 0)) := by
  refine ACalls.run hmix Try.func57 cN57 kN57 rfl fun hL Q hQ => ?_
  simp only [go_sem, seval, aN57]
  refine cK_of (newIn x xs S h hx (by omega)) ?_
  rintro r0 S0 hS0 hL0 ⟨i, x0, rfl, hI0, hK0, hi0, hx0⟩
  simp only [go_sem, seval]
  refine cK_of (read89 i x0 xs S0 hI0 hl) ?_
  rintro r1 S1 hS1 hL1 ⟨hK1, h1⟩
  have hK01 : KeepsAll S S1 := hK0.trans hK1 fun j hj _ => by omega
  rcases h1 with ⟨l, v, hd, rfl, hO1, hF1, hok, hll⟩ | ⟨hd, v, rfl⟩
  rotate_left
  · have e : tdec xs = 2 := by unfold tdec; rw [hd]
    simp only [go_sem, seval]
    refine hQ _ _ _ ?_; (first | rw [k_body_ret] | rw [k_body_normal]); simp only [resVals, resVal, ev, Env.get_put, ↓reduceIte, Nat.reduceEqDiff, Option.bind_some, Option.map_some, reduceCtorEq, ldv_true, ldv_false, lloadV_agg, partL, List.toList_toArray, cellsOf_set, cellsOf_new, rd_set, rd_new, List.length_cons, List.length_nil, Nat.reduceAdd, Nat.reduceLeDiff, Nat.le_refl, List.take_succ_cons, List.take_zero, List.drop_zero, Nat.add_eq_left, Nat.left_eq_add, List.getElem?_cons_zero, List.getElem?_cons_succ, aN57]; rw [retQ_some]; simp only [oneOr]
    exact ⟨hK01, _, by rw [e], .inr ⟨by rw [e]; omega, rfl⟩⟩
  simp only [go_sem, seval]
  refine cK_of (check53 v l S1 hO1.sl hok (by omega)) ?_
  rintro r2 S2 hS2 hL2 ⟨hK2, rfl⟩
  have e : tdec xs = tchk l := by unfold tdec; rw [hd]
  rw [← e]
  have hO2 := Own.keeps hL1 hO1 hK2 fun _ _ => trivial
  have hK02 : KeepsAll S S2 := hK01.trans hK2 fun _ _ _ => trivial
  have hF2 : Fresh S v := fun d hd => by have := hF1 d hd; have := hK0.1; omega
  by_cases h0 : tdec xs = 0
  · have g : (tdec xs != 0) = false := by simpa using h0
    simp only [go_sem, seval, g]
    refine hQ _ _ _ ?_; (first | rw [k_body_ret] | rw [k_body_normal]); simp only [resVals, resVal, ev, Env.get_put, ↓reduceIte, Nat.reduceEqDiff, Option.bind_some, Option.map_some, reduceCtorEq, ldv_true, ldv_false, lloadV_agg, partL, List.toList_toArray, cellsOf_set, cellsOf_new, rd_set, rd_new, List.length_cons, List.length_nil, Nat.reduceAdd, Nat.reduceLeDiff, Nat.le_refl, List.take_succ_cons, List.take_zero, List.drop_zero, Nat.add_eq_left, Nat.left_eq_add, List.getElem?_cons_zero, List.getElem?_cons_succ, aN57]; rw [retQ_some]; simp only [oneOr]
    exact ⟨hK02, _, by rw [h0], .inl ⟨h0, l, hd, hO2, hF2, hok, hll⟩⟩
  · have g : (tdec xs != 0) = true := by simpa using h0
    simp only [go_sem, seval, g]
    refine hQ _ _ _ ?_; (first | rw [k_body_ret] | rw [k_body_normal]); simp only [resVals, resVal, ev, Env.get_put, ↓reduceIte, Nat.reduceEqDiff, Option.bind_some, Option.map_some, reduceCtorEq, ldv_true, ldv_false, lloadV_agg, partL, List.toList_toArray, cellsOf_set, cellsOf_new, rd_set, rd_new, List.length_cons, List.length_nil, Nat.reduceAdd, Nat.reduceLeDiff, Nat.le_refl, List.take_succ_cons, List.take_zero, List.drop_zero, Nat.add_eq_left, Nat.left_eq_add, List.getElem?_cons_zero, List.getElem?_cons_succ, aN57]; rw [retQ_some]; simp only [oneOr]
    exact ⟨hK02, _, rfl, .inr ⟨h0, rfl⟩⟩
end Go.Proofs.Ytbgnaeagdneikaa
-- pp: new
-- pp: short
namespace Go.Proofs.Ytbgnaeagdneikaa
open Go Go.Proofs.Ytbgnaeagdneikaa.Abs
set_option linter.unusedSimpArgs false
set_option linter.unusedVariables false

theorem ow_nodeW (at_ : Int) (s : Sty) (hs : s.Ok) : ow [.bool false, .int .i64 0, .int .i64 0, .int .i64 0, .int .i64 0, .int .i64 0, .int .i64 0, .int .i64 0, .int .i64 0, .int .i64 0, .int .i64 0, .int .i64 0, .int .i64 0, .int .i64 0, .int .i64 0, .int .i64 0, .int .i64 0, .int .i64 0, .int .i64 0, .int .i64 0, .int .i64 0, .int .i64 0, .int .i64 0, .int .i64 0, .int .i64 0, .int .i64 0, .int .i64 0, .int .i64 0, .int .i64 0, .int .i64 0, .int .i64 0, .int .i64 0, .int .i64 0, .int .i64 0, .int .i64 0, .int .i64 0, .int .i64 0, .int .i64 0, .int .i64 0, .int .i64 0, .int .i64 0, .int .i64 0, .bool false, .bool false, .int .i64 0, .bool false, .int .i64 0, .int .i64 0, .int .i64 at_] 0 s.cells = s.cells ++ [.int .i64 at_] := by
  rw [ow_eq _ _ _ (by rw [hs.len]; simp), hs.len]
  simp
theorem pFour_len (t : Pst) : (pFour t).2.1.length ≤ t.1.length := by
  unfold pFour takeN
  split <;> simp
theorem nextP_len (l : List Nd) (t : Pst) : (nextP l t).2.1.length ≤ t.1.length := by
  unfold nextP
  split
  · exact Nat.le_refl _
  · exact pFour_len t

set_option maxHeartbeats 4000000 in
theorem from58 (x : Value) (xs : List Int) (S : St) (h : Bs S x xs) (hx : Byt xs) (hl : xs.length ≤ 1000000) :
    ACalls Try.prog 58 [x] S fun r S' => KeepsAll S S' ∧ ∃ v b, r = .tuple #[v, .bool b] ∧ ((b = true ∧ ∃ l, treeD xs = some l ∧ Own S' 49 v l.length (ndCells l) ∧ Fresh S v ∧ (∀ y ∈ l, y.Ok) ∧ l.length ≤ xs.length) ∨ (b = false ∧ treeD xs = none)) := by
  refine ACalls.run hmix Try.func58 cN58 kN58 rfl fun hL Q hQ => ?_
  obtain ⟨a0, e0, rfl⟩ := Sl.slice h
  simp only [go_sem, seval, aN58]
  refine cK_of (refTakeN (.slice a0 xs.length e0) xs false 4 S h hx (by omega) (by omega)) ?_
  rintro r1 S1 hS1 hL1 ⟨rfl, x1, rfl, hB1, i1⟩
  change Bs S1 x1 (pFour (xs, false)).2.1 at hB1
  rw [show takeN 4 xs false = pFour (xs, false) from rfl]
  have hnb := pFour_b (t := (xs, false)) hx
  have hbyt0 : Byt (pFour (xs, false)).2.1 := takeN_byt (t := (xs, false)) hx
  have hlen0 := pFour_len (xs, false)
  obtain ⟨N, hN⟩ : ∃ N : Nat, (pFour (xs, false)).1 = (N : Int) := ⟨(pFour (xs, false)).1.toNat, by omega⟩
  obtain ⟨t0, ht0⟩ : ∃ t0, t0 = (pFour (xs, false)).2 := ⟨_, rfl⟩
  have hdec : treeD xs = match decT N [] t0 with | some (l, t) => if t = ([], false) ∧ 0 < N then some l else none | none => none := by
    unfold treeD
    rw [hN, ← ht0, Int.toNat_natCast]
    rfl
  have hx1 : ∀ d, Value.blkOf x1 = some d → d < S1.next := fun d hd => hB1.lt hL1 hd
  rw [hN] at hnb ⊢
  rw [← ht0] at hB1 hbyt0 hlen0 ⊢
  simp only [go_sem, seval, ↓ow_all]
  refine lK_of (fun t' S' => ∃ (j : Nat) (l : List Nd) (t : Pst) (x' v : Value), j ≤ N ∧ Slots t' [(4, .int .u64 N), (5, .agg #[x', .bool t.2]), (6, v), (17, .int .u64 N), (18, .int .u64 j)] ∧ Live S' ∧ l.length = j ∧ decT N [] t0 = decT (N - j) l t ∧
      Bs S' x' t.1 ∧ Byt t.1 ∧ InSl x' x1 ∧ KeepsAll S1 S' ∧ Own S' 49 v l.length (ndCells l) ∧ Fresh S1 v ∧ Tr (par l) l.length ∧ (∀ y ∈ l, y.Ok) ∧ t.1.length + l.length ≤ xs.length)
    (fun t' _ => (N - RowKit.intOf (t' 18)).toNat) ?_ ?_
  · refine ⟨0, [], t0, x1, .slice none 0 0, by omega, ?_, hL1, rfl, rfl, hB1, hbyt0, InSl.refl _, Keeps.refl _ _, .inl ⟨rfl, rfl, rfl⟩, fun d hd => by simp [Value.blkOf] at hd, fun i hi => by simp at hi, by simp, by simpa using hlen0⟩
    simp only [go_sem, seval, slots_cons, slots_nil, Int.natCast_add, Int.natCast_succ, Int.cast_ofNat_Int]
  rintro t1 S2 Q1 ⟨j, l, t, x2, v, hj, h1, hL2, hlj, hd, hB2, hbt, i2, hK2, hO2, hF2, htr, hok, hll⟩ _ hNn hE
  simp only [slots_cons, slots_nil] at h1
  obtain ⟨va, ve, rfl⟩ := Sl.slice hO2.sl
  obtain ⟨xa, xe, rfl⟩ := Sl.slice hB2
  by_cases hjn : j = N
  · subst hjn
    simp only [go_sem, seval, h1, Int.lt_irrefl]
    refine hE _ _ _ (by simp) ?_
    rw [Nat.sub_self] at hd
    simp only [decT] at hd
    rw [hd] at hdec
    simp only at hdec
    obtain ⟨ts, tb⟩ := t
    cases tb
    · by_cases ht0 : ts.length = 0
      · have g1 : ((ts.length : Int) == 0) = true := by simp [ht0]
        have hts : ts = [] := List.eq_nil_of_length_eq_zero ht0
        by_cases hj0 : 0 < j
        · have hj0' : (0 : Int) < j := by omega
          simp only [go_sem, seval, h1, g1, hj0']
          refine hQ _ _ _ ?_; (first | rw [k_body_ret] | rw [k_body_normal]); simp only [resVals, resVal, ev, Env.get_put, ↓reduceIte, Nat.reduceEqDiff, Option.bind_some, Option.map_some, reduceCtorEq, ldv_true, ldv_false, lloadV_agg, partL, List.toList_toArray, cellsOf_set, cellsOf_new, rd_set, rd_new, List.length_cons, List.length_nil, Nat.reduceAdd, Nat.reduceLeDiff, Nat.le_refl, List.take_succ_cons, List.take_zero, List.drop_zero, Nat.add_eq_left, Nat.left_eq_add, List.getElem?_cons_zero, List.getElem?_cons_succ, aN58, h1]; rw [retQ_some]; simp only [oneOr]
          refine ⟨hK2, _, _, rfl, .inl ⟨rfl, l, ?_, hO2, hF2, hok, by omega⟩⟩
          rw [hdec, if_pos ⟨by rw [hts], hj0⟩]
        · have hj0' : ¬ (0 : Int) < j := by omega
          simp only [go_sem, seval, h1, g1, hj0']
          refine hQ _ _ _ ?_; (first | rw [k_body_ret] | rw [k_body_normal]); simp only [resVals, resVal, ev, Env.get_put, ↓reduceIte, Nat.reduceEqDiff, Option.bind_some, Option.map_some, reduceCtorEq, ldv_true, ldv_false, lloadV_agg, partL, List.toList_toArray, cellsOf_set, cellsOf_new, rd_set, rd_new, List.length_cons, List.length_nil, Nat.reduceAdd, Nat.reduceLeDiff, Nat.le_refl, List.take_succ_cons, List.take_zero, List.drop_zero, Nat.add_eq_left, Nat.left_eq_add, List.getElem?_cons_zero, List.getElem?_cons_succ, aN58, h1]; rw [retQ_some]; simp only [oneOr]
          refine ⟨hK2, _, _, rfl, .inr ⟨rfl, ?_⟩⟩
          rw [hdec, if_neg fun hh => hj0 hh.2]
      · have g1 : ((ts.length : Int) == 0) = false := by simp; intro e; apply ht0; simp [e]
        simp only [go_sem, seval, h1, g1]
        refine hQ _ _ _ ?_; (first | rw [k_body_ret] | rw [k_body_normal]); simp only [resVals, resVal, ev, Env.get_put, ↓reduceIte, Nat.reduceEqDiff, Option.bind_some, Option.map_some, reduceCtorEq, ldv_true, ldv_false, lloadV_agg, partL, List.toList_toArray, cellsOf_set, cellsOf_new, rd_set, rd_new, List.length_cons, List.length_nil, Nat.reduceAdd, Nat.reduceLeDiff, Nat.le_refl, List.take_succ_cons, List.take_zero, List.drop_zero, Nat.add_eq_left, Nat.left_eq_add, List.getElem?_cons_zero, List.getElem?_cons_succ, aN58, h1]; rw [retQ_some]; simp only [oneOr]
        refine ⟨hK2, _, _, rfl, .inr ⟨rfl, ?_⟩⟩
        rw [hdec, if_neg fun hh => ht0 (by have := hh.1; simp at this; simp [this])]
    · simp only [go_sem, seval, h1]
      refine hQ _ _ _ ?_; (first | rw [k_body_ret] | rw [k_body_normal]); simp only [resVals, resVal, ev, Env.get_put, ↓reduceIte, Nat.reduceEqDiff, Option.bind_some, Option.map_some, reduceCtorEq, ldv_true, ldv_false, lloadV_agg, partL, List.toList_toArray, cellsOf_set, cellsOf_new, rd_set, rd_new, List.length_cons, List.length_nil, Nat.reduceAdd, Nat.reduceLeDiff, Nat.le_refl, List.take_succ_cons, List.take_zero, List.drop_zero, Nat.add_eq_left, Nat.left_eq_add, List.getElem?_cons_zero, List.getElem?_cons_succ, aN58, h1]; rw [retQ_some]; simp only [oneOr]
      refine ⟨hK2, _, _, rfl, .inr ⟨rfl, ?_⟩⟩
      rw [hdec, if_neg fun hh => by have := hh.1; simp at this]
  have hjl : (j : Int) < N := by omega
  have hj1 : IntKind.u64.wrap ((j : Int) + 1) = j + 1 := by rw [wrap64u]; omega
  have hsucc : N - j = (N - (j + 1)) + 1 := by omega
  rw [hsucc, decT] at hd
  have hnp := nextP_in htr t
  have hun := nextP_len l t
  simp only [go_sem, seval, h1, hjl]
  refine iK_cut (fun t' S' => ∃ x6, Slots t' [(4, .int .u64 N), (5, .agg #[x6, .bool (nextP l t).2.2]), (6, .slice va l.length ve), (8, .int .i64 (nextP l t).1), (17, .int .u64 N), (18, .int .u64 j)] ∧ S' = S2 ∧ Bs S2 x6 (nextP l t).2.1 ∧ InSl x6 x1 ∧ (l ≠ [] → 0 ≤ (nextP l t).1)) (fun Q6 hN6 hE6 => iK_split (fun hc => ?_) (fun hc => ?_)) ?_
  · have hl0 : 0 < l.length := by simp only [decide_eq_true_eq] at hc; omega
    have hne : l ≠ [] := fun e => by rw [e] at hl0; simp at hl0
    have hnx : nextP l t = (upR l (pFour t).1.toNat, (pFour t).2) := by unfold nextP; rw [if_neg hne]
    simp only [go_sem, seval, h1]
    refine cK_of (refTakeN (.slice xa t.1.length xe) t.1 t.2 4 S2 hB2 hbt (by omega) (by omega)) ?_
    rintro r3 S3 hS3 hL3 ⟨rfl, x3, rfl, hB3, i3⟩
    have hn3 := pFour_b (t := t) hbt
    rw [show takeN 4 t.1 t.2 = pFour t from rfl] at hB3 ⊢
    obtain ⟨q, hq⟩ : ∃ q : Nat, (pFour t).1 = (q : Int) := ⟨(pFour t).1.toNat, by omega⟩
    rw [hq, Int.toNat_natCast] at hnx
    rw [hq]
    have e5 : (pFour t).2 = (nextP l t).2 := by rw [hnx]
    rw [e5] at hB3 ⊢
    have hwj : IntKind.i64.wrap (j : Int) = j := wrap64_id (by omega) (by omega)
    have hw : IntKind.i64.wrap ((j : Int) - 1) = (j : Int) - 1 := wrap64_id (by omega) (by omega)
    simp only [go_sem, seval, h1, hwj, hw, ↓ow_all]
    refine lK_of (fun t' S' => S' = S3 ∧ ∃ (c : Int) (m : Nat), -1 ≤ c ∧ c < l.length ∧ m ≤ q ∧ (chain (par l) ((l.length : Int) - 1))[q]? = (chain (par l) c)[m]? ∧ Slots t' [(4, .int .u64 N), (5, .agg #[x3, .bool (nextP l t).2.2]), (6, .slice va l.length ve), (8, .int .i64 c), (9, .int .u64 m), (17, .int .u64 N), (18, .int .u64 j)]) (fun t' _ => (RowKit.intOf (t' 9)).toNat) ?_ ?_
    · refine ⟨rfl, (j : Int) - 1, q, by omega, by omega, by omega, by rw [hlj], ?_⟩
      simp only [go_sem, seval, slots_cons, slots_nil, Int.natCast_add, Int.natCast_succ, Int.cast_ofNat_Int, h1, hwj, hw]
    rintro t4 S4 Q4 ⟨rfl, c, m, c1, c2, hmq, c3, h4⟩ _ hN4 hE4
    simp only [slots_cons, slots_nil] at h4
    have hcw : m = 0 ∨ c < 0 → c = (nextP l t).1 := by
      intro hh
      rw [hnx]
      unfold upR
      simp only
      rw [c3]
      by_cases hc0 : c < 0
      · rw [chain_neg _ hc0]
        simp
        omega
      · rcases hh with rfl | hh
        · rw [chain_pos htr (by omega) c2]
          rfl
        · omega
    by_cases hm : m = 0
    · have hcv := hcw (.inl hm)
      subst hm
      simp only [go_sem, seval, h4, Int.lt_irrefl, Int.ofNat_zero]
      refine hE4 _ _ _ (by simp) ?_
      by_cases hneg : c < 0
      · simp only [go_sem, seval, h4, hneg]
        refine hE6 _ _ _ (by simp) ?_
        simp only [go_sem, seval, h4]
        refine hE _ _ _ (by simp) ?_
        simp only [go_sem, seval, h4]
        refine hQ _ _ _ ?_; (first | rw [k_body_ret] | rw [k_body_normal]); simp only [resVals, resVal, ev, Env.get_put, ↓reduceIte, Nat.reduceEqDiff, Option.bind_some, Option.map_some, reduceCtorEq, ldv_true, ldv_false, lloadV_agg, partL, List.toList_toArray, cellsOf_set, cellsOf_new, rd_set, rd_new, List.length_cons, List.length_nil, Nat.reduceAdd, Nat.reduceLeDiff, Nat.le_refl, List.take_succ_cons, List.take_zero, List.drop_zero, Nat.add_eq_left, Nat.left_eq_add, List.getElem?_cons_zero, List.getElem?_cons_succ, aN58, h4]; rw [retQ_some]; simp only [oneOr]
        refine ⟨hK2, _, _, rfl, .inr ⟨rfl, ?_⟩⟩
        rw [if_pos ⟨hne, by rw [← hcv]; exact hneg⟩] at hd
        rw [hdec, hd]
      · simp only [go_sem, seval, h4, hneg]
        refine hN6 _ _ ⟨x3, ?_, rfl, hB3, i3.trans i2, fun _ => by omega⟩
        rw [← hcv]
        simp only [go_sem, seval, slots_cons, slots_nil, Int.natCast_add, Int.natCast_succ, Int.cast_ofNat_Int, h4]
    have hm0 : (0 : Int) < m := by omega
    by_cases hc0 : c < 0
    · have hcv := hcw (.inr hc0)
      have hg : ¬ (0 ≤ c) := by omega
      simp only [go_sem, seval, h4, hm0, hg]
      refine hE4 _ _ _ (by simp) ?_
      by_cases hneg : c < 0
      · simp only [go_sem, seval, h4, hneg]
        refine hE6 _ _ _ (by simp) ?_
        simp only [go_sem, seval, h4]
        refine hE _ _ _ (by simp) ?_
        simp only [go_sem, seval, h4]
        refine hQ _ _ _ ?_; (first | rw [k_body_ret] | rw [k_body_normal]); simp only [resVals, resVal, ev, Env.get_put, ↓reduceIte, Nat.reduceEqDiff, Option.bind_some, Option.map_some, reduceCtorEq, ldv_true, ldv_false, lloadV_agg, partL, List.toList_toArray, cellsOf_set, cellsOf_new, rd_set, rd_new, List.length_cons, List.length_nil, Nat.reduceAdd, Nat.reduceLeDiff, Nat.le_refl, List.take_succ_cons, List.take_zero, List.drop_zero, Nat.add_eq_left, Nat.left_eq_add, List.getElem?_cons_zero, List.getElem?_cons_succ, aN58, h4]; rw [retQ_some]; simp only [oneOr]
        refine ⟨hK2, _, _, rfl, .inr ⟨rfl, ?_⟩⟩
        rw [if_pos ⟨hne, by rw [← hcv]; exact hneg⟩] at hd
        rw [hdec, hd]
      · simp only [go_sem, seval, h4, hneg]
        refine hN6 _ _ ⟨x3, ?_, rfl, hB3, i3.trans i2, fun _ => by omega⟩
        rw [← hcv]
        simp only [go_sem, seval, slots_cons, slots_nil, Int.natCast_add, Int.natCast_succ, Int.cast_ofNat_Int, h4]
    have hg : 0 ≤ c := by omega
    obtain ⟨k, rfl⟩ : ∃ k : Nat, c = k := ⟨c.toNat, by omega⟩
    have hkl : k < l.length := by omega
    have hkl' : (k : Int) < l.length := by omega
    have hns : Ns S4 (.slice va l.length ve) l := hO2.sl
    obtain ⟨d', o', f', hv', he', hcs'⟩ := hns.ne (by omega)
    cases hv'
    have hpj := par_at hok hcs' k hkl
    have htj := htr k (by omega)
    have hch := chain_pos htr (a := (k : Int)) (by omega) (by omega)
    rw [Int.toNat_natCast] at hch
    obtain ⟨r, rfl⟩ : ∃ r, m = r + 1 := ⟨m - 1, by omega⟩
    rw [hch, List.getElem?_cons_succ] at c3
    have hw1 : IntKind.u64.wrap (((r + 1 : Nat) : Int) - 1) = r := by rw [wrap64u]; omega
    simp only [go_sem, seval, h4, hm0, hg, Int.toNat_natCast, hkl', hpj, hw1]
    refine hN4 _ _ ⟨rfl, par l k, r, by omega, by omega, by omega, c3, ?_⟩ ?_
    · simp only [go_sem, seval, slots_cons, slots_nil, Int.natCast_add, Int.natCast_succ, Int.cast_ofNat_Int, h4]
    · simp only [go_sem, seval, h4]
      simp [RowKit.intOf]
  · have hl0 : ¬ 0 < l.length := by simp only [decide_eq_false_iff_not] at hc; omega
    have hne : l = [] := List.eq_nil_of_length_eq_zero (by omega)
    have hnx : nextP l t = (-1, t) := by unfold nextP; rw [if_pos hne]
    simp only [go_sem, seval, h1]
    refine hN6 _ _ ⟨.slice xa t.1.length xe, ?_, rfl, by rw [hnx]; exact hB2, i2, fun h => absurd hne h⟩
    rw [hnx]
    simp only [go_sem, seval, slots_cons, slots_nil, Int.natCast_add, Int.natCast_succ, Int.cast_ofNat_Int, h1]
  rintro t6 S6 ⟨x6, h6, rfl, hB6, i6, hat⟩
  simp only [slots_cons, slots_nil] at h6
  rw [if_neg (fun hh => by have := hat hh.1; omega)] at hd
  obtain ⟨at_, hat_⟩ : ∃ at_, at_ = (nextP l t).1 := ⟨_, rfl⟩
  have hub : Byt (nextP l t).2.1 := by
    unfold nextP
    split
    · exact hbt
    · exact takeN_byt hbt
  obtain ⟨u, hu⟩ : ∃ u, u = (nextP l t).2 := ⟨_, rfl⟩
  rw [← hat_] at h6 hat hnp hd
  rw [← hu] at hB6 hd hun hub h6
  obtain ⟨xa6, xe6, rfl⟩ := Sl.slice hB6
  simp only [go_sem, seval, h6, ↓ow_all]
  refine cK_of (from41 (.slice xa6 u.1.length xe6) u S6 hB6 hub) ?_
  rintro r7 S7 hS7 hL7 ⟨hK7, hG⟩
  unfold FromPost at hG
  obtain ⟨s, u', x7, hso, rfl, hB7, hb7, i7, hgd, hbd⟩ : ∃ (s : Sty) (u' : Pst) (x7 : Value), s.Ok ∧ r7 = .tuple #[.agg s.cells.toArray, .agg #[x7, .bool u'.2]] ∧ Bs S7 x7 u'.1 ∧ Byt u'.1 ∧ InSl x7 x1 ∧ (Good u → u'.2 = false ∧ s = pSty u ∧ u' = pT5 u) ∧ (¬ Good u → u'.2 = true) := by
    rcases hG with ⟨g, x', e, g1, g2⟩ | ⟨g, e⟩
    · exact ⟨pSty u, ((pT5 u).1, false), x', pSty_ok hub, e, Sl.keeps hL2 g1 hK7 fun _ _ => trivial, (taken u hub g.1 g.2.1).2.2, g2.trans i6, fun _ => ⟨rfl, rfl, by rw [← g.1]⟩, fun h => absurd g h⟩
    · exact ⟨zeroS, ([], true), .slice none 0 0, zero_ok, e, .inl ⟨rfl, rfl, rfl⟩, by intro c hc; simp at hc, fun d hd => by simp [Value.blkOf] at hd, fun h => absurd h g, fun _ => rfl⟩
  have hlen : s.cells.length = 48 := hso.len
  have e1 := ow_nodeW at_ s hso
  have e3 := fun v => len_node hso v
  obtain ⟨y, hy⟩ : ∃ y : Nd, y = ⟨s, at_⟩ := ⟨_, rfl⟩
  have hyo : y.Ok := by rw [hy]; exact ⟨hso, by unfold InI64; simp only; omega⟩
  have hyc : y.cells = s.cells ++ [.int .i64 at_] := by rw [hy]; rfl
  have hytk : y.cells.take 49 = y.cells := List.take_of_length_le (by rw [Nd.cells_length hyo]; omega)
  have hylen := Nd.cells_length hyo
  rw [← hyc] at e1
  by_cases hg : Good u
  rotate_left
  · have hbt' := hbd hg
    rw [hbt']
    simp only [go_sem, seval, h6, hlen, ↓e1, hylen, hytk, ↓ow_all]
    refine hE _ _ _ (by simp) ?_
    simp only [go_sem, seval, h6]
    refine hQ _ _ _ ?_; (first | rw [k_body_ret] | rw [k_body_normal]); simp only [resVals, resVal, ev, Env.get_put, ↓reduceIte, Nat.reduceEqDiff, Option.bind_some, Option.map_some, reduceCtorEq, ldv_true, ldv_false, lloadV_agg, partL, List.toList_toArray, cellsOf_set, cellsOf_new, rd_set, rd_new, List.length_cons, List.length_nil, Nat.reduceAdd, Nat.reduceLeDiff, Nat.le_refl, List.take_succ_cons, List.take_zero, List.drop_zero, Nat.add_eq_left, Nat.left_eq_add, List.getElem?_cons_zero, List.getElem?_cons_succ, aN58, h6]; rw [retQ_some]; simp only [oneOr]
    refine ⟨hK2.trans hK7 fun _ _ _ => trivial, _, _, rfl, .inr ⟨rfl, ?_⟩⟩
    rw [if_neg hg] at hd
    rw [hdec, hd]
  obtain ⟨hbt', hs, hu'⟩ := hgd hg
  rw [hbt']
  rw [if_pos hg, ← hs, ← hu', ← hy] at hd
  obtain ⟨q1, q2, q3⟩ := taken u hub hg.1 hg.2.1
  have q4 := (styBytes_length (pSty u) (pSty_ok hub)).1
  have q5 := congrArg List.length q2
  rw [List.length_append, ← hu'] at q5
  simp only [go_sem, seval, h6, hlen, ↓e1, hylen, hytk, ↓ow_all]
  have hb : (S7.new ⟨false, y.cells⟩).blk S7.next = some ⟨false, y.cells⟩ := by simp [St.blk_new]
  have hn := ns_one hyo hb
  have hKn := Keeps.of_new S7 ⟨false, y.cells⟩ fun _ => True
  have hO8 := Own.keeps hL7 (Own.keeps hL2 hO2 hK7 fun _ _ => trivial) hKn fun _ _ => trivial
  have hbb : (l.length + [y].length) * 384 ≤ 1099511627776 := by simp only [List.length_cons, List.length_nil]; omega
  refine hK_of (append_live (hL7.new _) (append_own (bytes := 384) (R := fun v' S' => Own S' 49 v' (l.length + 1) (ndCells l ++ ndCells [y]) ∧ Keeps (S7.new ⟨false, y.cells⟩) S' (fun q => Value.blkOf (.slice va l.length ve) ≠ some q) ∧ (∀ q, Value.blkOf v' = some q → Value.blkOf (.slice va l.length ve) = some q ∨ (S7.new ⟨false, y.cells⟩).next ≤ q)) (by omega) hO8 hn hbb fun v' S' h1 h2 h3 => ⟨h1, h2, h3⟩)) ?_
  rintro v8 S8 ⟨hL8, hO8', hk8, hF8⟩
  have hfar : ∀ q, q < S1.next → Value.blkOf (.slice va l.length ve) ≠ some q := fun q hq e => by have := hF2 q e; omega
  have hn12 := hK2.1
  have hn27 := hK7.1
  have hn78 : S7.next < S8.next := by have := hk8.1; simp [St.next_new] at this; omega
  have hK78 : Keeps S7 S8 fun q => Value.blkOf (.slice va l.length ve) ≠ some q := hKn.all.trans hk8 fun _ _ hp => hp
  have hB8 : Bs S8 x7 u'.1 := Sl.keeps hL7 hB7 hK78 fun d hd => hfar d (hx1 d (i7 d hd))
  simp only [go_sem, seval, h6, hj1]
  refine hNn _ _ ⟨j + 1, l ++ [y], u', x7, v8, by omega, ?_, hL8, by simp [hlj], hd, hB8, hb7, i7, ?_, ?_, ?_, tr_snoc htr (by rw [hy]; exact hnp.1) (by rw [hy]; exact hnp.2), ?_, ?_⟩ ?_
  · rw [hbt']
    simp only [go_sem, seval, slots_cons, slots_nil, Int.natCast_add, Int.natCast_succ, Int.cast_ofNat_Int, h6]
  · exact (hK2.trans hK7 fun _ _ _ => trivial).trans hK78 fun q hq _ => hfar q hq
  · rw [List.length_append, List.length_cons, List.length_nil]
    have e : ndCells (l ++ [y]) = ndCells l ++ ndCells [y] := by simp [ndCells]
    rw [e]
    exact hO8'
  · intro q hq
    rcases hF8 q hq with hh | hh
    · exact hF2 q hh
    · simp [St.next_new] at hh
      omega
  · intro z hz
    rcases List.mem_append.1 hz with hz | hz
    · exact hok z hz
    · simp only [List.mem_cons, List.not_mem_nil, or_false] at hz
      rw [hz]; exact hyo
  · rw [List.length_append, List.length_cons, List.length_nil]
    omega
  · simp only [go_sem, seval, h6, h1]
    simp [RowKit.intOf]
    omega
end Go.Proofs.Ytbgnaeagdneikaa
