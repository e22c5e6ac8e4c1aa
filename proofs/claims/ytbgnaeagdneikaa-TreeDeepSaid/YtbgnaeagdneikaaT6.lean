/- The statements TreeForms and TreeDeep. -/
import Derived.Test.YtbgnaeagdneikaaT5
import Derived.Test.YtbgnaeagdneikaaSeatKKT
-- pp: new
namespace Go.Proofs.Ytbgnaeagdneikaa
open Go Go.Proofs.Ytbgnaeagdneikaa.Abs
set_option linter.unusedSimpArgs false
set_option linter.unusedVariables false

theorem iffs_bool {p : Prop} {b c : Bool} (h : b = true ↔ p) (k : c = true ↔ p) : b = c := by rw [Bool.eq_iff_iff, h, k]

set_option maxHeartbeats 1000000 in
theorem treeForms (x : Value) (l : List Nd) (S : St) (h : Ns S x l) (hok : ∀ x ∈ l, x.Ok) : ACalls Try.prog 13 [x] S fun r S' => r = .bool true := by
  refine ACalls.run hmix Try.func13 cN13 kN13 rfl fun hL Q hQ => ?_
  simp only [guard_undef, List.contains_cons, List.contains_nil, Nat.reduceBEq, Int.cast_ofNat_Int, and_self, k_pend_g, pendV, go_sem, i64_wrap_id, Int.reduceAdd, Int.reduceSub, Int.reduceNeg, Int.reduceMul, Nat.reduceSub, Nat.reduceEqDiff, Nat.reduceAdd, Nat.reduceMul, Nat.reduceLeDiff, ↓reduceIte, reduceCtorEq, Int.reduceToNat, Int.reduceLT, Int.reduceLE, Int.reduceEq, aN13]
  refine cK_of (awake50 S) ?_
  rintro r0 S0 hS0 hL0 ⟨rfl, hK0⟩
  obtain ⟨a, e, rfl⟩ := Sl.slice h
  by_cases hl : (300 : Int) < l.length
  · simp only [guard_undef, List.contains_cons, List.contains_nil, Nat.reduceBEq, Int.cast_ofNat_Int, and_self, k_pend_g, pendV, go_sem, i64_wrap_id, Int.reduceAdd, Int.reduceSub, Int.reduceNeg, Int.reduceMul, Nat.reduceSub, Nat.reduceEqDiff, Nat.reduceAdd, Nat.reduceMul, Nat.reduceLeDiff, ↓reduceIte, reduceCtorEq, Int.reduceToNat, Int.reduceLT, Int.reduceLE, Int.reduceEq, hl]
    refine cK_of (awake50 S0) ?_
    rintro r2 S2 hS2 hL2 ⟨rfl, hK2⟩
    simp only [guard_undef, List.contains_cons, List.contains_nil, Nat.reduceBEq, Int.cast_ofNat_Int, and_self, k_pend_g, pendV, go_sem, i64_wrap_id, Int.reduceAdd, Int.reduceSub, Int.reduceNeg, Int.reduceMul, Nat.reduceSub, Nat.reduceEqDiff, Nat.reduceAdd, Nat.reduceMul, Nat.reduceLeDiff, ↓reduceIte, reduceCtorEq, Int.reduceToNat, Int.reduceLT, Int.reduceLE, Int.reduceEq]
    refine hQ _ _ _ ?_; (first | rw [k_body_ret] | rw [k_body_normal]); simp only [resVals, resVal, ev, Env.get_put, ↓reduceIte, Nat.reduceEqDiff, Option.bind_some, Option.map_some, reduceCtorEq, ldv_true, ldv_false, lloadV_agg, partL, List.toList_toArray, cellsOf_set, cellsOf_new, rd_set, rd_new, List.length_cons, List.length_nil, Nat.reduceAdd, Nat.reduceLeDiff, Nat.le_refl, List.take_succ_cons, List.take_zero, List.drop_zero, Nat.add_eq_left, Nat.left_eq_add, List.getElem?_cons_zero, List.getElem?_cons_succ, aN13]; rw [retQ_some]; simp only [oneOr]
  have h0 : Ns S0 (.slice a l.length e) l := Sl.keeps hL h hK0 fun _ _ => trivial
  simp only [guard_undef, List.contains_cons, List.contains_nil, Nat.reduceBEq, Int.cast_ofNat_Int, and_self, k_pend_g, pendV, go_sem, i64_wrap_id, Int.reduceAdd, Int.reduceSub, Int.reduceNeg, Int.reduceMul, Nat.reduceSub, Nat.reduceEqDiff, Nat.reduceAdd, Nat.reduceMul, Nat.reduceLeDiff, ↓reduceIte, reduceCtorEq, Int.reduceToNat, Int.reduceLT, Int.reduceLE, Int.reduceEq, hl]
  refine cK_of (formed51 _ l S0 h0 hok (by omega)) ?_
  rintro r1 S1 hS1 hL1 ⟨⟨c, rfl, hc⟩, hK1⟩
  have h1 : Ns S1 (.slice a l.length e) l := Sl.keeps hL0 h0 hK1 fun _ _ => trivial
  simp only [guard_undef, List.contains_cons, List.contains_nil, Nat.reduceBEq, Int.cast_ofNat_Int, and_self, k_pend_g, pendV, go_sem, i64_wrap_id, Int.reduceAdd, Int.reduceSub, Int.reduceNeg, Int.reduceMul, Nat.reduceSub, Nat.reduceEqDiff, Nat.reduceAdd, Nat.reduceMul, Nat.reduceLeDiff, ↓reduceIte, reduceCtorEq, Int.reduceToNat, Int.reduceLT, Int.reduceLE, Int.reduceEq, hl]
  refine cK_of (formed52 _ l S1 h1 hok (by omega)) ?_
  rintro r2 S2 hS2 hL2 ⟨⟨c', rfl, hc'⟩, hK2⟩
  obtain rfl := iffs_bool hc hc'
  have h2 : Ns S2 (.slice a l.length e) l := Sl.keeps hL1 h1 hK2 fun _ _ => trivial
  simp only [guard_undef, List.contains_cons, List.contains_nil, Nat.reduceBEq, Int.cast_ofNat_Int, and_self, k_pend_g, pendV, go_sem, i64_wrap_id, Int.reduceAdd, Int.reduceSub, Int.reduceNeg, Int.reduceMul, Nat.reduceSub, Nat.reduceEqDiff, Nat.reduceAdd, Nat.reduceMul, Nat.reduceLeDiff, ↓reduceIte, reduceCtorEq, Int.reduceToNat, Int.reduceLT, Int.reduceLE, Int.reduceEq, hl]
  refine cK_of (check53 _ l S2 h2 hok (by omega)) ?_
  rintro r3 S3 hS3 hL3 ⟨hK3, rfl⟩
  have h3 : Ns S3 (.slice a l.length e) l := Sl.keeps hL2 h2 hK3 fun _ _ => trivial
  simp only [guard_undef, List.contains_cons, List.contains_nil, Nat.reduceBEq, Int.cast_ofNat_Int, and_self, k_pend_g, pendV, go_sem, i64_wrap_id, Int.reduceAdd, Int.reduceSub, Int.reduceNeg, Int.reduceMul, Nat.reduceSub, Nat.reduceEqDiff, Nat.reduceAdd, Nat.reduceMul, Nat.reduceLeDiff, ↓reduceIte, reduceCtorEq, Int.reduceToNat, Int.reduceLT, Int.reduceLE, Int.reduceEq, hl]
  refine cK_of (check54 _ l S3 h3 hok (by omega)) ?_
  rintro r4 S4 hS4 hL4 ⟨hK4, rfl⟩
  simp only [guard_undef, List.contains_cons, List.contains_nil, Nat.reduceBEq, Int.cast_ofNat_Int, and_self, k_pend_g, pendV, go_sem, i64_wrap_id, Int.reduceAdd, Int.reduceSub, Int.reduceNeg, Int.reduceMul, Nat.reduceSub, Nat.reduceEqDiff, Nat.reduceAdd, Nat.reduceMul, Nat.reduceLeDiff, ↓reduceIte, reduceCtorEq, Int.reduceToNat, Int.reduceLT, Int.reduceLE, Int.reduceEq, hl]
  refine hQ _ _ _ ?_; (first | rw [k_body_ret] | rw [k_body_normal]); simp only [resVals, resVal, ev, Env.get_put, ↓reduceIte, Nat.reduceEqDiff, Option.bind_some, Option.map_some, reduceCtorEq, ldv_true, ldv_false, lloadV_agg, partL, List.toList_toArray, cellsOf_set, cellsOf_new, rd_set, rd_new, List.length_cons, List.length_nil, Nat.reduceAdd, Nat.reduceLeDiff, Nat.le_refl, List.take_succ_cons, List.take_zero, List.drop_zero, Nat.add_eq_left, Nat.left_eq_add, List.getElem?_cons_zero, List.getElem?_cons_succ, aN13]; rw [retQ_some]; simp only [oneOr]

/-- A chain of plain nodes. -/
def line (n : Nat) : List Nd := (List.range n).map fun (k : Nat) => ⟨plainK 4, (k : Int) - 1⟩
theorem line_length (n : Nat) : (line n).length = n := by simp [line]
theorem line_succ (n : Nat) : line (n + 1) = line n ++ [⟨plainK 4, (n : Int) - 1⟩] := by simp [line, List.range_succ]
theorem line_par {n k : Nat} (h : k < n) : par (line n) k = (k : Int) - 1 := by
  rw [par_get (by rw [line_length]; exact h)]
  simp [line]
theorem line_ok {n : Nat} (hn : n ≤ 1000000) : ∀ x ∈ line n, x.Ok := by
  intro x hx
  simp only [line, List.mem_map, List.mem_range] at hx
  obtain ⟨k, hk, rfl⟩ := hx
  exact ⟨styK_ok true 4 (by omega), by unfold InI64; simp only; omega⟩
theorem line_tr (n : Nat) : Tr (par (line n)) n := fun i hi => by rw [line_par hi]; omega
theorem line_chain {n : Nat} : ∀ (k : Nat), k < n → (chain (par (line n)) (k : Int)).length = k + 1
  | 0, h => by
    rw [chain_pos (line_tr n) (by omega) (by omega), Int.toNat_natCast, line_par h, chain_neg _ (by omega)]
    rfl
  | k + 1, h => by
    have := line_chain (n := n) k (by omega)
    rw [chain_pos (line_tr n) (by omega) (by omega), Int.toNat_natCast, line_par h, List.length_cons, show ((k + 1 : Nat) : Int) - 1 = (k : Int) by omega, this]
theorem line_form {n : Nat} (h : 0 < n) : TForm (line n) := by
  refine ⟨⟨by rw [line_length]; exact h, fun i hi => ?_⟩, fun x hx => ?_⟩
  · rw [line_length] at hi
    refine ⟨fun _ => by rw [line_par h]; rfl, fun h0 => ?_⟩
    rw [line_par hi, chain_pos (line_tr n) (by omega) (by omega)]
    simp
  · simp only [line, List.mem_map, List.mem_range] at hx
    obtain ⟨k, hk, rfl⟩ := hx
    exact plain_formed
theorem line_chk {n : Nat} (h : 0 < n) (hn : n ≤ 1000) : tchk (line n) = if 256 < n then 3 else 0 := by
  split
  · rename_i h2
    refine tchk_lim (line_form h) ((tlim_iff _).2 (.inr (.inl ⟨256, by rw [line_length]; exact h2, ?_⟩)))
    unfold dep
    rw [line_chain 256 h2]
    omega
  · rename_i h2
    refine tchk_ok (line_form h) fun hh => ?_
    rcases (tlim_iff _).1 hh with hh | ⟨k, hk, hh⟩ | hh
    · rw [line_length] at hh; omega
    · rw [line_length] at hk
      unfold dep at hh
      rw [line_chain k hk] at hh
      omega
    · refine hh fun x hx => ?_
      simp only [line, List.mem_map, List.mem_range] at hx
      obtain ⟨k, hk, rfl⟩ := hx
      exact plain_within

set_option maxHeartbeats 1000000 in
theorem treeDeep (a : Int) (h0 : 0 ≤ a) (h1 : a < 256) (S : St) : ACalls Try.prog 14 [.int .u8 a] S fun r S' => r = .bool true := by
  refine ACalls.run hmix Try.func14 cN14 kN14 rfl fun hL Q hQ => ?_
  simp only [guard_undef, List.contains_cons, List.contains_nil, Nat.reduceBEq, Int.cast_ofNat_Int, and_self, k_pend_g, pendV, go_sem, i64_wrap_id, Int.reduceAdd, Int.reduceSub, Int.reduceNeg, Int.reduceMul, Nat.reduceSub, Nat.reduceEqDiff, Nat.reduceAdd, Nat.reduceMul, Nat.reduceLeDiff, ↓reduceIte, reduceCtorEq, Int.reduceToNat, Int.reduceLT, Int.reduceLE, Int.reduceEq, aN14]
  refine cK_of (awake50 S) ?_
  rintro r0 S0 hS0 hL0 ⟨rfl, hK0⟩
  obtain ⟨m, hm, hm12⟩ : ∃ m : Nat, a.tmod 12 = (m : Int) ∧ m < 12 := ⟨(a.tmod 12).toNat, by have := Int.tmod_nonneg (12 : Int) h0; omega, by have := Int.tmod_lt_of_pos a (b := 12) (by omega); omega⟩
  have hw1 : IntKind.i64.wrap (m : Int) = m := wrap64_id (by omega) (by omega)
  have hw2 : IntKind.i64.wrap (250 + (m : Int)) = ((250 + m : Nat) : Int) := by rw [wrap64_id (by omega) (by omega)]; omega
  simp only [guard_undef, List.contains_cons, List.contains_nil, Nat.reduceBEq, Int.cast_ofNat_Int, and_self, k_pend_g, pendV, go_sem, i64_wrap_id, Int.reduceAdd, Int.reduceSub, Int.reduceNeg, Int.reduceMul, Nat.reduceSub, Nat.reduceEqDiff, Nat.reduceAdd, Nat.reduceMul, Nat.reduceLeDiff, ↓reduceIte, reduceCtorEq, Int.reduceToNat, Int.reduceLT, Int.reduceLE, Int.reduceEq, hm, hw1, hw2]
  refine lK_of (fun t' S' => KeepsAll S S' ∧ S0.next ≤ S'.next ∧ Live S' ∧ ∃ (j : Nat) (v : Value), j ≤ 250 + m ∧ Slots t' [(3, v), (11, .int .i64 ((250 + m : Nat) : Int)), (12, .int .i64 j)] ∧ Own S' 49 v (line j).length (ndCells (line j)) ∧ Fresh S0 v) (fun t' _ => (((250 + m : Nat) : Int) - RowKit.intOf (t' 12)).toNat) ?_ ?_
  · refine ⟨hK0, Nat.le_refl _, hL0, 0, .slice none 0 0, by omega, ?_, .inl ⟨rfl, rfl, rfl⟩, fun d hd => by simp [Value.blkOf] at hd⟩
    simp only [guard_undef, List.contains_cons, List.contains_nil, Nat.reduceBEq, Int.cast_ofNat_Int, and_self, k_pend_g, pendV, go_sem, i64_wrap_id, Int.reduceAdd, Int.reduceSub, Int.reduceNeg, Int.reduceMul, Nat.reduceSub, Nat.reduceEqDiff, Nat.reduceAdd, Nat.reduceMul, Nat.reduceLeDiff, ↓reduceIte, reduceCtorEq, Int.reduceToNat, Int.reduceLT, Int.reduceLE, Int.reduceEq, slots_cons, slots_nil, Int.natCast_add, Int.natCast_succ, Int.cast_ofNat_Int, hm, hw1, hw2]
  rintro t1 S1 Q1 ⟨hK1, hn01, hL1, j, v, hj, hs, hO1, hF1⟩ _ hN hE
  simp only [slots_cons, slots_nil] at hs
  by_cases hjn : j = 250 + m
  · subst hjn
    simp only [guard_undef, List.contains_cons, List.contains_nil, Nat.reduceBEq, Int.cast_ofNat_Int, and_self, k_pend_g, pendV, go_sem, i64_wrap_id, Int.reduceAdd, Int.reduceSub, Int.reduceNeg, Int.reduceMul, Nat.reduceSub, Nat.reduceEqDiff, Nat.reduceAdd, Nat.reduceMul, Nat.reduceLeDiff, ↓reduceIte, reduceCtorEq, Int.reduceToNat, Int.reduceLT, Int.reduceLE, Int.reduceEq, hs, Int.lt_irrefl]
    refine hE _ _ _ (by simp) ?_
    simp only [guard_undef, List.contains_cons, List.contains_nil, Nat.reduceBEq, Int.cast_ofNat_Int, and_self, k_pend_g, pendV, go_sem, i64_wrap_id, Int.reduceAdd, Int.reduceSub, Int.reduceNeg, Int.reduceMul, Nat.reduceSub, Nat.reduceEqDiff, Nat.reduceAdd, Nat.reduceMul, Nat.reduceLeDiff, ↓reduceIte, reduceCtorEq, Int.reduceToNat, Int.reduceLT, Int.reduceLE, Int.reduceEq, hs]
    refine cK_of (check53 v (line (250 + m)) S1 hO1.sl (line_ok (by omega)) (by rw [line_length]; omega)) ?_
    rintro r2 S2 hS2 hL2 ⟨hK2, rfl⟩
    rw [line_chk (by omega) (by omega)]
    have hO2 := Own.keeps hL1 hO1 hK2 fun _ _ => trivial
    obtain ⟨b, e, rfl⟩ := Sl.slice hO2.sl
    by_cases hg : 256 < 250 + m
    · have g1 : ¬ (((line (250 + m)).length : Int) ≤ 256) := by rw [line_length]; omega
      have g2 : (256 : Int) < (line (250 + m)).length := by rw [line_length]; omega
      rw [if_pos hg]
      have g3 : ((3 : Int) == 0) = false := rfl
      simp only [guard_undef, List.contains_cons, List.contains_nil, Nat.reduceBEq, Int.cast_ofNat_Int, and_self, k_pend_g, pendV, go_sem, i64_wrap_id, Int.reduceAdd, Int.reduceSub, Int.reduceNeg, Int.reduceMul, Nat.reduceSub, Nat.reduceEqDiff, Nat.reduceAdd, Nat.reduceMul, Nat.reduceLeDiff, ↓reduceIte, reduceCtorEq, Int.reduceToNat, Int.reduceLT, Int.reduceLE, Int.reduceEq, hs, g1, g2, g3]
      refine hQ _ _ _ ?_; (first | rw [k_body_ret] | rw [k_body_normal]); simp only [resVals, resVal, ev, Env.get_put, ↓reduceIte, Nat.reduceEqDiff, Option.bind_some, Option.map_some, reduceCtorEq, ldv_true, ldv_false, lloadV_agg, partL, List.toList_toArray, cellsOf_set, cellsOf_new, rd_set, rd_new, List.length_cons, List.length_nil, Nat.reduceAdd, Nat.reduceLeDiff, Nat.le_refl, List.take_succ_cons, List.take_zero, List.drop_zero, Nat.add_eq_left, Nat.left_eq_add, List.getElem?_cons_zero, List.getElem?_cons_succ, aN14, hs]; rw [retQ_some]; simp only [oneOr]
    · have g1 : (((line (250 + m)).length : Int) ≤ 256) := by rw [line_length]; omega
      rw [if_neg hg]
      simp only [guard_undef, List.contains_cons, List.contains_nil, Nat.reduceBEq, Int.cast_ofNat_Int, and_self, k_pend_g, pendV, go_sem, i64_wrap_id, Int.reduceAdd, Int.reduceSub, Int.reduceNeg, Int.reduceMul, Nat.reduceSub, Nat.reduceEqDiff, Nat.reduceAdd, Nat.reduceMul, Nat.reduceLeDiff, ↓reduceIte, reduceCtorEq, Int.reduceToNat, Int.reduceLT, Int.reduceLE, Int.reduceEq, hs, g1]
      refine hQ _ _ _ ?_; (first | rw [k_body_ret] | rw [k_body_normal]); simp only [resVals, resVal, ev, Env.get_put, ↓reduceIte, Nat.reduceEqDiff, Option.bind_some, Option.map_some, reduceCtorEq, ldv_true, ldv_false, lloadV_agg, partL, List.toList_toArray, cellsOf_set, cellsOf_new, rd_set, rd_new, List.length_cons, List.length_nil, Nat.reduceAdd, Nat.reduceLeDiff, Nat.le_refl, List.take_succ_cons, List.take_zero, List.drop_zero, Nat.add_eq_left, Nat.left_eq_add, List.getElem?_cons_zero, List.getElem?_cons_succ, aN14, hs]; rw [retQ_some]; simp only [oneOr]
  have hjl : (j : Int) < ((250 + m : Nat) : Int) := by omega
  simp only [guard_undef, List.contains_cons, List.contains_nil, Nat.reduceBEq, Int.cast_ofNat_Int, and_self, k_pend_g, pendV, go_sem, i64_wrap_id, Int.reduceAdd, Int.reduceSub, Int.reduceNeg, Int.reduceMul, Nat.reduceSub, Nat.reduceEqDiff, Nat.reduceAdd, Nat.reduceMul, Nat.reduceLeDiff, ↓reduceIte, reduceCtorEq, Int.reduceToNat, Int.reduceLT, Int.reduceLE, Int.reduceEq, hs, hjl]
  refine cK_of (plain55 S1) ?_
  rintro r2 S2 hS2 hL2 ⟨rfl, hK2⟩
  have hp : (plainK 4).Ok := styK_ok true 4 (by omega)
  have hlen : (plainK 4).cells.length = 48 := hp.len
  have e1 := ow_node (plainK 4) hp
  have e2 := fun w => set_node hp (.int .i64 0) w
  have e3 := fun v => len_node hp v
  have hw3 : IntKind.i64.wrap ((j : Int) - 1) = j - 1 := wrap64_id (by omega) (by omega)
  have hw4 : IntKind.i64.wrap ((j : Int) + 1) = j + 1 := wrap64_id (by omega) (by omega)
  simp only [guard_undef, List.contains_cons, List.contains_nil, Nat.reduceBEq, Int.cast_ofNat_Int, and_self, k_pend_g, pendV, go_sem, i64_wrap_id, Int.reduceAdd, Int.reduceSub, Int.reduceNeg, Int.reduceMul, Nat.reduceSub, Nat.reduceEqDiff, Nat.reduceAdd, Nat.reduceMul, Nat.reduceLeDiff, ↓reduceIte, reduceCtorEq, Int.reduceToNat, Int.reduceLT, Int.reduceLE, Int.reduceEq, hs, hw3, hlen, ↓e1, ↓e2, ↓e3, ↓ow_all]
  obtain ⟨y, hy⟩ : ∃ y : Nd, y = ⟨plainK 4, (j : Int) - 1⟩ := ⟨_, rfl⟩
  have hyo : y.Ok := by rw [hy]; exact ⟨hp, by unfold InI64; simp only; omega⟩
  have hyc : y.cells = (plainK 4).cells ++ [.int .i64 ((j : Int) - 1)] := by rw [hy]; rfl
  rw [← hyc]
  have hb : (S2.new ⟨false, y.cells⟩).blk S2.next = some ⟨false, y.cells⟩ := by simp [St.blk_new]
  have hn := ns_one hyo hb
  have hKn := Keeps.of_new S2 ⟨false, y.cells⟩ fun _ => True
  have hO3 := Own.keeps hL2 (Own.keeps hL1 hO1 hK2 fun _ _ => trivial) hKn fun _ _ => trivial
  have hbb : ((line j).length + [y].length) * 384 ≤ 1099511627776 := by rw [line_length]; simp only [List.length_cons, List.length_nil]; omega
  refine hK_of (append_live (hL2.new _) (append_own (bytes := 384) (R := fun v' S' => Own S' 49 v' ((line j).length + 1) (ndCells (line j) ++ ndCells [y]) ∧ Keeps (S2.new ⟨false, y.cells⟩) S' (fun i => Value.blkOf v ≠ some i) ∧ (∀ i, Value.blkOf v' = some i → Value.blkOf v = some i ∨ (S2.new ⟨false, y.cells⟩).next ≤ i)) (by omega) hO3 hn hbb fun v' S' h1 h2 h3 => ⟨h1, h2, h3⟩)) ?_
  rintro v4 S4 ⟨hL4, hO4, hk4, hF4⟩
  simp only [guard_undef, List.contains_cons, List.contains_nil, Nat.reduceBEq, Int.cast_ofNat_Int, and_self, k_pend_g, pendV, go_sem, i64_wrap_id, Int.reduceAdd, Int.reduceSub, Int.reduceNeg, Int.reduceMul, Nat.reduceSub, Nat.reduceEqDiff, Nat.reduceAdd, Nat.reduceMul, Nat.reduceLeDiff, ↓reduceIte, reduceCtorEq, Int.reduceToNat, Int.reduceLT, Int.reduceLE, Int.reduceEq, hs, hw4]
  have hn24 : S2.next < S4.next := by have := hk4.1; simp [St.next_new] at this; omega
  refine hN _ _ ⟨?_, by omega, hL4, j + 1, v4, by omega, ?_, ?_, ?_⟩ ?_
  · refine ((hK1.trans hK2 fun _ _ _ => trivial).trans hKn fun _ _ _ => trivial).trans hk4 fun i hi _ e => ?_
    have := hF1 i e
    omega
  · simp only [guard_undef, List.contains_cons, List.contains_nil, Nat.reduceBEq, Int.cast_ofNat_Int, and_self, k_pend_g, pendV, go_sem, i64_wrap_id, Int.reduceAdd, Int.reduceSub, Int.reduceNeg, Int.reduceMul, Nat.reduceSub, Nat.reduceEqDiff, Nat.reduceAdd, Nat.reduceMul, Nat.reduceLeDiff, ↓reduceIte, reduceCtorEq, Int.reduceToNat, Int.reduceLT, Int.reduceLE, Int.reduceEq, slots_cons, slots_nil, Int.natCast_add, Int.natCast_succ, Int.cast_ofNat_Int, hs]
  · rw [line_succ, ← hy, List.length_append, List.length_cons, List.length_nil]
    have e : ndCells (line j ++ [y]) = ndCells (line j) ++ ndCells [y] := by simp [ndCells]
    rw [e]
    exact hO4
  · intro i hi
    rcases hF4 i hi with hh | hh
    · exact hF1 i hh
    · simp [St.next_new] at hh
      omega
  · simp only [guard_undef, List.contains_cons, List.contains_nil, Nat.reduceBEq, Int.cast_ofNat_Int, and_self, k_pend_g, pendV, go_sem, i64_wrap_id, Int.reduceAdd, Int.reduceSub, Int.reduceNeg, Int.reduceMul, Nat.reduceSub, Nat.reduceEqDiff, Nat.reduceAdd, Nat.reduceMul, Nat.reduceLeDiff, ↓reduceIte, reduceCtorEq, Int.reduceToNat, Int.reduceLT, Int.reduceLE, Int.reduceEq, hs]
    simp [RowKit.intOf]
    omega

theorem nd_ok (cs : List Value) (h : FlatOk ndSh cs) : ∃ x : Nd, cs = x.cells ∧ x.Ok := by
  obtain ⟨a, b, rfl, h1, h2⟩ := flat_split h
  obtain ⟨s, hs, rfl⟩ := sty_of h1
  obtain ⟨v, b2, rfl, ⟨p, rfl, w⟩, h3⟩ := flat_cons h2
  obtain rfl := flat_nil h3
  exact ⟨⟨s, p⟩, rfl, hs, wf64 w⟩
theorem nds_ok : ∀ (n : Nat) (cs : List Value), RowsOk ndSh n cs → ∃ l : List Nd, l.length = n ∧ cs = ndCells l ∧ ∀ x ∈ l, x.Ok := by
  intro n
  induction n with
  | zero =>
    intro cs h
    have : cs = [] := List.eq_nil_of_length_eq_zero (by simpa using h.1)
    exact ⟨[], rfl, this, by simp⟩
  | succ n ih =>
    intro cs h
    have h0 := h.2 0 (by omega)
    have hl := h.1
    have hsl : ndSh.length = 49 := rfl
    rw [hsl] at h0 hl
    rw [Nat.zero_mul, List.drop_zero] at h0
    obtain ⟨x, hx, hox⟩ := nd_ok _ h0
    have hr : RowsOk ndSh n (cs.drop 49) := by
      refine ⟨by rw [hsl, List.length_drop]; omega, fun i hi => ?_⟩
      have := h.2 (i + 1) (by omega)
      rw [hsl] at this ⊢
      rw [List.drop_drop]
      rwa [show 49 + i * 49 = (i + 1) * 49 by omega]
    obtain ⟨l, h1, h2, h3⟩ := ih _ hr
    refine ⟨x :: l, by simp [h1], ?_, fun y hy => ?_⟩
    · rw [← List.take_append_drop 49 cs, hx, h2]
      simp [ndCells]
    · rcases List.mem_cons.1 hy with rfl | hy
      · exact hox
      · exact h3 y hy
theorem Ns.of_rows {S : St} {x : Value} {n : Nat} {cs : List Value} (hx : Sl S 49 x n cs) (hr : RowsOk ndSh n cs) : ∃ l : List Nd, Ns S x l ∧ ∀ z ∈ l, z.Ok := by
  obtain ⟨l, h1, rfl, h3⟩ := nds_ok n cs hr
  subst h1
  exact ⟨l, hx, h3⟩
theorem wfByte {n : Int} (h : (Lit.int .u8 n).wf = true) : 0 ≤ n ∧ n < 256 := by
  simp [Lit.wf, IntKind.min, IntKind.max, IntKind.signed, IntKind.bits] at h
  omega
theorem treeForms' (x : Value) (n : Nat) (cs : List Value) (S : St) (hx : Sl S 49 x n cs) (hr : RowsOk ndSh n cs) : ACalls Try.prog 13 [x] S fun r S' => r = .bool true := by
  obtain ⟨l, hX, hl⟩ := Ns.of_rows hx hr
  exact treeForms x l S hX hl
theorem treeDeep' (a : Int) (S : St) (wa : (Lit.int .u8 a).wf = true) : ACalls Try.prog 14 [.int .u8 a] S fun r S' => r = .bool true := treeDeep a (wfByte wa).1 (wfByte wa).2 S
end Go.Proofs.Ytbgnaeagdneikaa
