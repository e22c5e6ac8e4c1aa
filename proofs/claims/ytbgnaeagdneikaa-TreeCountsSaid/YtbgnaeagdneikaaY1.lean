/- The lengths of a style, as the program has them. -/
import Derived.Test.YtbgnaeagdneikaaY0
namespace Go.Proofs.Ytbgnaeagdneikaa
open Go Go.Proofs.Ytbgnaeagdneikaa.Abs
set_option linter.unusedSimpArgs false
set_option linter.unusedVariables false

def LenF (p : Int × Int) : Prop := p.1 = 0 ∧ p.2 = 0 ∨ p.1 = 1 ∨ p.1 = 2
theorem formed65 (a b : Int) (S : St) : ACalls Try.prog 65 [.agg #[.int .i64 a, .int .i64 b]] S fun r S' => (∃ c, r = .bool c ∧ (c = true ↔ LenF (a, b))) ∧ KeepsAll S S' := by
  refine ACalls.run hmix Try.func65 cF65 kF65 rfl fun hL Q hQ => ?_
  have hk : KeepsAll S (S.new ⟨false, [.int .i64 a, .int .i64 b]⟩) := Keeps.of_new _ _ _
  by_cases h0 : a = 0
  · subst h0
    by_cases h1 : b = 0
    · subst h1
      simp only [go_sem, i64_wrap_id, Int.reduceAdd, Int.reduceSub, Int.reduceNeg, Int.reduceMul, Nat.reduceSub, Nat.reduceEqDiff, Nat.reduceAdd, Nat.reduceMul, Nat.reduceLeDiff, ↓reduceIte, reduceCtorEq, Int.reduceToNat, Int.reduceLT, Int.reduceLE, Int.reduceEq, aF65]
      refine hQ _ _ _ ?_; (first | rw [k_body_ret] | rw [k_body_normal]); simp only [resVals, resVal, ev, Env.get_put, ↓reduceIte, Nat.reduceEqDiff, Option.bind_some, Option.map_some, reduceCtorEq, ldv_true, ldv_false, lloadV_agg, partL, List.toList_toArray, cellsOf_set, cellsOf_new, rd_set, rd_new, List.length_cons, List.length_nil, Nat.reduceAdd, Nat.reduceLeDiff, Nat.le_refl, List.take_succ_cons, List.take_zero, List.drop_zero, Nat.add_eq_left, Nat.left_eq_add, List.getElem?_cons_zero, List.getElem?_cons_succ, aF65]; rw [retQ_some]; simp only [oneOr]
      exact ⟨⟨_, rfl, by simp [LenF]⟩, hk⟩
    · simp only [go_sem, i64_wrap_id, Int.reduceAdd, Int.reduceSub, Int.reduceNeg, Int.reduceMul, Nat.reduceSub, Nat.reduceEqDiff, Nat.reduceAdd, Nat.reduceMul, Nat.reduceLeDiff, ↓reduceIte, reduceCtorEq, Int.reduceToNat, Int.reduceLT, Int.reduceLE, Int.reduceEq, aF65, show (b == 0) = false by simpa using h1, Int.reduceBEq]
      refine hQ _ _ _ ?_; (first | rw [k_body_ret] | rw [k_body_normal]); simp only [resVals, resVal, ev, Env.get_put, ↓reduceIte, Nat.reduceEqDiff, Option.bind_some, Option.map_some, reduceCtorEq, ldv_true, ldv_false, lloadV_agg, partL, List.toList_toArray, cellsOf_set, cellsOf_new, rd_set, rd_new, List.length_cons, List.length_nil, Nat.reduceAdd, Nat.reduceLeDiff, Nat.le_refl, List.take_succ_cons, List.take_zero, List.drop_zero, Nat.add_eq_left, Nat.left_eq_add, List.getElem?_cons_zero, List.getElem?_cons_succ, aF65]; rw [retQ_some]; simp only [oneOr]
      exact ⟨⟨_, rfl, by simp [LenF, h1]⟩, hk⟩
  · by_cases h1 : a = 1
    · subst h1
      simp only [go_sem, i64_wrap_id, Int.reduceAdd, Int.reduceSub, Int.reduceNeg, Int.reduceMul, Nat.reduceSub, Nat.reduceEqDiff, Nat.reduceAdd, Nat.reduceMul, Nat.reduceLeDiff, ↓reduceIte, reduceCtorEq, Int.reduceToNat, Int.reduceLT, Int.reduceLE, Int.reduceEq, aF65, Int.reduceBEq]
      refine hQ _ _ _ ?_; (first | rw [k_body_ret] | rw [k_body_normal]); simp only [resVals, resVal, ev, Env.get_put, ↓reduceIte, Nat.reduceEqDiff, Option.bind_some, Option.map_some, reduceCtorEq, ldv_true, ldv_false, lloadV_agg, partL, List.toList_toArray, cellsOf_set, cellsOf_new, rd_set, rd_new, List.length_cons, List.length_nil, Nat.reduceAdd, Nat.reduceLeDiff, Nat.le_refl, List.take_succ_cons, List.take_zero, List.drop_zero, Nat.add_eq_left, Nat.left_eq_add, List.getElem?_cons_zero, List.getElem?_cons_succ, aF65]; rw [retQ_some]; simp only [oneOr]
      exact ⟨⟨_, rfl, by simp [LenF]⟩, hk⟩
    · simp only [go_sem, i64_wrap_id, Int.reduceAdd, Int.reduceSub, Int.reduceNeg, Int.reduceMul, Nat.reduceSub, Nat.reduceEqDiff, Nat.reduceAdd, Nat.reduceMul, Nat.reduceLeDiff, ↓reduceIte, reduceCtorEq, Int.reduceToNat, Int.reduceLT, Int.reduceLE, Int.reduceEq, aF65, Int.reduceBEq, show (a == 0) = false by simpa using h0, show (a == 1) = false by simpa using h1]
      refine hQ _ _ _ ?_; (first | rw [k_body_ret] | rw [k_body_normal]); simp only [resVals, resVal, ev, Env.get_put, ↓reduceIte, Nat.reduceEqDiff, Option.bind_some, Option.map_some, reduceCtorEq, ldv_true, ldv_false, lloadV_agg, partL, List.toList_toArray, cellsOf_set, cellsOf_new, rd_set, rd_new, List.length_cons, List.length_nil, Nat.reduceAdd, Nat.reduceLeDiff, Nat.le_refl, List.take_succ_cons, List.take_zero, List.drop_zero, Nat.add_eq_left, Nat.left_eq_add, List.getElem?_cons_zero, List.getElem?_cons_succ, aF65]; rw [retQ_some]; simp only [oneOr]
      exact ⟨⟨_, rfl, by simp [LenF, h0, h1]⟩, hk⟩

def ptrs (b o k : Nat) : List Value := (List.range k).map fun j => .pointer (some ⟨b, o + j * 2, none⟩)
theorem ptrs_succ (b o k : Nat) : ptrs b o (k + 1) = ptrs b o k ++ [.pointer (some ⟨b, o + k * 2, none⟩)] := by simp [ptrs, List.range_succ]
theorem ptrs_length (b o k : Nat) : (ptrs b o k).length = k := by simp [ptrs]

def IsL (S : St) (l : Nat) (v : Value) (n : Nat) (cs : List Value) : Prop := S.blk l = some ⟨false, [v]⟩ ∧ Own S 1 v n cs ∧ Value.blkOf v ≠ some l

/-- An append onto what a block bears, and back into it. -/
theorem IsL.app {S S' : St} {l n : Nat} {v v' : Value} {cs : List Value} (h : IsL S l v n cs) (hL : Live S) {n' : Nat} {cs' : List Value} (h1 : Own S' 1 v' n' cs') (h2 : Keeps S S' fun i => Value.blkOf v ≠ some i)
    (h3 : ∀ i, Value.blkOf v' = some i → Value.blkOf v = some i ∨ S.next ≤ i) : IsL (S'.set l ⟨false, [v']⟩) l v' n' cs' ∧ OutStep S l v (S'.set l ⟨false, [v']⟩) v' := by
  have hl := hL _ _ h.1
  have hne : Value.blkOf v' ≠ some l := fun e => by
    rcases h3 _ e with h' | h'
    · exact h.2.2 h'
    · omega
  refine ⟨⟨by simp [St.blk_set], h1.keep fun i hi => ?_, hne⟩, ⟨(h2.mono fun i _ hp => hp.2).set (fun i _ hp => hp.1) _, h3⟩⟩
  rw [St.blk_set, if_neg]
  intro e
  exact hne (e ▸ hi)

theorem four91 (b o l : Nat) (v : Value) (n : Nat) (cs : List Value) (S : St) (h : IsL S l v n cs) (hn : n ≤ 1000) :
    ACalls Try.prog 91 [.pointer (some ⟨b, o, none⟩), ptr l] S fun r S' => r = .tuple #[] ∧ ∃ v', IsL S' l v' (n + 4) (cs ++ ptrs b o 4) ∧ OutStep S l v S' v' := by
  refine ACalls.run hmix Try.func91 cF91 kF91 rfl fun hL Q hQ => ?_
  simp only [go_sem, i64_wrap_id, Int.reduceAdd, Int.reduceSub, Int.reduceNeg, Int.reduceMul, Nat.reduceSub, Nat.reduceEqDiff, Nat.reduceAdd, Nat.reduceMul, Nat.reduceLeDiff, ↓reduceIte, reduceCtorEq, Int.reduceToNat, Int.reduceLT, Int.reduceLE, Int.reduceEq, aF91]
  refine lK_of (fun t' S' => ∃ (k : Nat) (v' : Value), k ≤ 4 ∧ t' 0 = .pointer (some ⟨b, o, none⟩) ∧ t' 1 = ptr l ∧ t' 4 = .int .i64 k ∧ IsL S' l v' (n + k) (cs ++ ptrs b o k) ∧ OutStep S l v S' v') (fun t' _ => (4 - RowKit.intOf (t' 4)).toNat) ?_ ?_
  · refine ⟨0, v, by omega, ?_, ?_, ?_, by simpa [ptrs] using h, .refl _ _ _⟩
    · simp only [go_sem, i64_wrap_id, Int.reduceAdd, Int.reduceSub, Int.reduceNeg, Int.reduceMul, Nat.reduceSub, Nat.reduceEqDiff, Nat.reduceAdd, Nat.reduceMul, Nat.reduceLeDiff, ↓reduceIte, reduceCtorEq, Int.reduceToNat, Int.reduceLT, Int.reduceLE, Int.reduceEq]
    · simp only [go_sem, i64_wrap_id, Int.reduceAdd, Int.reduceSub, Int.reduceNeg, Int.reduceMul, Nat.reduceSub, Nat.reduceEqDiff, Nat.reduceAdd, Nat.reduceMul, Nat.reduceLeDiff, ↓reduceIte, reduceCtorEq, Int.reduceToNat, Int.reduceLT, Int.reduceLE, Int.reduceEq]
    · simp only [go_sem, i64_wrap_id, Int.reduceAdd, Int.reduceSub, Int.reduceNeg, Int.reduceMul, Nat.reduceSub, Nat.reduceEqDiff, Nat.reduceAdd, Nat.reduceMul, Nat.reduceLeDiff, ↓reduceIte, reduceCtorEq, Int.reduceToNat, Int.reduceLT, Int.reduceLE, Int.reduceEq]; rfl
  · rintro t1 S1 Q1 ⟨k, v1, hk, h0, h1, h4, hI, hs⟩ hL1 hN hE
    by_cases hk4 : k = 4
    · subst hk4
      simp only [go_sem, i64_wrap_id, Int.reduceAdd, Int.reduceSub, Int.reduceNeg, Int.reduceMul, Nat.reduceSub, Nat.reduceEqDiff, Nat.reduceAdd, Nat.reduceMul, Nat.reduceLeDiff, ↓reduceIte, reduceCtorEq, Int.reduceToNat, Int.reduceLT, Int.reduceLE, Int.reduceEq, h4, show ¬ (((4 : Nat) : Int) < 4) by omega]
      refine hE _ _ _ (by simp) ?_
      simp only [go_sem, i64_wrap_id, Int.reduceAdd, Int.reduceSub, Int.reduceNeg, Int.reduceMul, Nat.reduceSub, Nat.reduceEqDiff, Nat.reduceAdd, Nat.reduceMul, Nat.reduceLeDiff, ↓reduceIte, reduceCtorEq, Int.reduceToNat, Int.reduceLT, Int.reduceLE, Int.reduceEq]
      refine hQ _ _ _ ?_; (first | rw [k_body_ret] | rw [k_body_normal]); simp only [resVals, resVal, ev, Env.get_put, ↓reduceIte, Nat.reduceEqDiff, Option.bind_some, Option.map_some, reduceCtorEq, ldv_true, ldv_false, lloadV_agg, partL, List.toList_toArray, cellsOf_set, cellsOf_new, rd_set, rd_new, List.length_cons, List.length_nil, Nat.reduceAdd, Nat.reduceLeDiff, Nat.le_refl, List.take_succ_cons, List.take_zero, List.drop_zero, Nat.add_eq_left, Nat.left_eq_add, List.getElem?_cons_zero, List.getElem?_cons_succ, aF91]; rw [retQ_some]; simp only [oneOr]
      exact ⟨trivial, v1, hI, hs⟩
    · have hlt : ((k : Int) < 4) := by omega
      have hk0 : (0 : Int) ≤ k := by omega
      have hk1 : IntKind.i64.wrap ((k : Int) + 1) = k + 1 := wrap64_id (by omega) (by omega)
      have hl := hL1 _ _ hI.1
      have hr : rd S1 l 0 = some v1 := by rw [rd_of_blk hI.1]; rfl
      simp only [go_sem, i64_wrap_id, Int.reduceAdd, Int.reduceSub, Int.reduceNeg, Int.reduceMul, Nat.reduceSub, Nat.reduceEqDiff, Nat.reduceAdd, Nat.reduceMul, Nat.reduceLeDiff, ↓reduceIte, reduceCtorEq, Int.reduceToNat, Int.reduceLT, Int.reduceLE, Int.reduceEq, h0, h1, h4, hlt, hk0, Int.toNat_natCast, hr, Nat.ne_of_lt hl, (show (((4 : Nat) : Int)) = 4 from rfl)]
      refine ⟨?_, ?_⟩ <;>
      · refine hK_of (append_own (cs := cs ++ ptrs b o k) (k := 1) (ds := [.pointer (some ⟨b, o + k * 2, none⟩)]) (by omega) (hI.2.1.keep (fun i hi => ?_)) (.inr ⟨S1.next, 0, 1, rfl, .inr rfl, by simp [cellsOf_new]⟩) (by omega)
          (R := fun v' S' => Own S' 1 v' (n + k + 1) (cs ++ ptrs b o k ++ [.pointer (some ⟨b, o + k * 2, none⟩)]) ∧ Keeps S1 S' (fun i => Value.blkOf v1 ≠ some i) ∧ (∀ i, Value.blkOf v' = some i → Value.blkOf v1 = some i ∨ S1.next ≤ i)) ?_) ?_
        · rw [St.blk_new, if_neg (Nat.ne_of_lt (hI.2.1.sl.lt hL1 hi))]
        · intro v' S' k1 k2 k3
          refine ⟨k1, (Keeps.of_new S1 _ _).trans k2 (fun i _ hp => hp), fun i hi => ?_⟩
          rcases k3 i hi with h | h
          · exact .inl h
          · simp [St.next_new] at h; omega
        · rintro v2 S2 ⟨k1, k2, k3⟩
          obtain ⟨av, ee, hv2⟩ := k1.sl.slice
          have hb2 : S2.blk l = some ⟨false, [v1]⟩ := by rw [k2.2 l hl hI.2.2]; exact hI.1
          obtain ⟨g1, g2⟩ := hI.app hL1 k1 k2 k3
          simp only [go_sem, i64_wrap_id, Int.reduceAdd, Int.reduceSub, Int.reduceNeg, Int.reduceMul, Nat.reduceSub, Nat.reduceEqDiff, Nat.reduceAdd, Nat.reduceMul, Nat.reduceLeDiff, ↓reduceIte, reduceCtorEq, Int.reduceToNat, Int.reduceLT, Int.reduceLE, Int.reduceEq, h1, h4, hb2, hv2, hk1]
          rw [← hv2]
          refine hN _ _ ⟨k + 1, v2, by omega, ?_, ?_, ?_, ?_, hs.trans g2⟩ ?_
          · simp only [go_sem, i64_wrap_id, Int.reduceAdd, Int.reduceSub, Int.reduceNeg, Int.reduceMul, Nat.reduceSub, Nat.reduceEqDiff, Nat.reduceAdd, Nat.reduceMul, Nat.reduceLeDiff, ↓reduceIte, reduceCtorEq, Int.reduceToNat, Int.reduceLT, Int.reduceLE, Int.reduceEq, h0]
          · simp only [go_sem, i64_wrap_id, Int.reduceAdd, Int.reduceSub, Int.reduceNeg, Int.reduceMul, Nat.reduceSub, Nat.reduceEqDiff, Nat.reduceAdd, Nat.reduceMul, Nat.reduceLeDiff, ↓reduceIte, reduceCtorEq, Int.reduceToNat, Int.reduceLT, Int.reduceLE, Int.reduceEq, h1]
          · simp only [go_sem, i64_wrap_id, Int.reduceAdd, Int.reduceSub, Int.reduceNeg, Int.reduceMul, Nat.reduceSub, Nat.reduceEqDiff, Nat.reduceAdd, Nat.reduceMul, Nat.reduceLeDiff, ↓reduceIte, reduceCtorEq, Int.reduceToNat, Int.reduceLT, Int.reduceLE, Int.reduceEq]; congr 1
          · rw [ptrs_succ, ← List.append_assoc]; exact g1
          · simp only [go_sem, i64_wrap_id, Int.reduceAdd, Int.reduceSub, Int.reduceNeg, Int.reduceMul, Nat.reduceSub, Nat.reduceEqDiff, Nat.reduceAdd, Nat.reduceMul, Nat.reduceLeDiff, ↓reduceIte, reduceCtorEq, Int.reduceToNat, Int.reduceLT, Int.reduceLE, Int.reduceEq, h4, RowKit.intOf]
            omega

theorem enters91 : enters Try.prog 91 = true := by kernel_rfl

theorem lengths64 (b : Nat) (S : St) : ACalls Try.prog 64 [ptr b] S fun r S' => Own S' 1 r 18 (ptrs b 2 18) ∧ KeepsAll S S' ∧ Fresh S r := by
  refine ACalls.run hmix Try.func64 cF64 kF64 rfl fun hL Q hQ => ?_
  simp only [go_sem, i64_wrap_id, Int.reduceAdd, Int.reduceSub, Int.reduceNeg, Int.reduceMul, Nat.reduceSub, Nat.reduceEqDiff, Nat.reduceAdd, Nat.reduceMul, Nat.reduceLeDiff, ↓reduceIte, reduceCtorEq, Int.reduceToNat, Int.reduceLT, Int.reduceLE, Int.reduceEq, aF64]
  have hk0 := Keeps.of_new S ⟨false, [.slice none 0 0]⟩ fun _ => True
  refine ⟨enters91, cK_of (four91 b 2 S.next (.slice none 0 0) 0 [] _ ⟨by simp [St.blk_new], .inl ⟨rfl, rfl, rfl⟩, by simp [Value.blkOf]⟩ (by omega)) ?_⟩
  rintro r1 S1 hS1 hL1 ⟨rfl, v1, hI1, hs1⟩
  obtain ⟨hK1, hF1⟩ := hs1.old hk0 (Nat.le_refl _) (fun d hd => by simp [Value.blkOf] at hd)
  have hl1 := hL1 _ _ hI1.1
  have hr : rd S1 S.next 0 = some v1 := by rw [rd_of_blk hI1.1]; rfl
  simp only [go_sem, i64_wrap_id, Int.reduceAdd, Int.reduceSub, Int.reduceNeg, Int.reduceMul, Nat.reduceSub, Nat.reduceEqDiff, Nat.reduceAdd, Nat.reduceMul, Nat.reduceLeDiff, ↓reduceIte, reduceCtorEq, Int.reduceToNat, Int.reduceLT, Int.reduceLE, Int.reduceEq, hr, Nat.ne_of_lt hl1]
  refine ⟨?_, ?_⟩ <;>
  · refine hK_of (append_own (cs := [] ++ ptrs b 2 4) (k := 6) (ds := [.pointer (some ⟨b, 10, none⟩), .pointer (some ⟨b, 12, none⟩), .pointer (some ⟨b, 14, none⟩), .pointer (some ⟨b, 16, none⟩), .pointer (some ⟨b, 18, none⟩), .pointer (some ⟨b, 20, none⟩)]) (by omega) (hI1.2.1.keep (fun i hi => ?_)) (.inr ⟨S1.next, 0, 1, rfl, .inr rfl, by simp [cellsOf_new]⟩) (by omega)
      (R := fun v' S' => Own S' 1 v' 10 (ptrs b 2 10) ∧ Keeps S1 S' (fun i => Value.blkOf v1 ≠ some i) ∧ (∀ i, Value.blkOf v' = some i → Value.blkOf v1 = some i ∨ S1.next ≤ i)) ?_) ?_
    · rw [St.blk_new, if_neg (Nat.ne_of_lt (hI1.2.1.sl.lt hL1 hi))]
    · intro v' S' k1 k2 k3
      refine ⟨k1, (Keeps.of_new S1 _ _).trans k2 (fun i _ hp => hp), fun i hi => ?_⟩
      rcases k3 i hi with h | h
      · exact .inl h
      · simp [St.next_new] at h; omega
    · rintro v2 S2 ⟨k1, k2, k3⟩
      obtain ⟨av, ee, hv2⟩ := k1.sl.slice
      have hb2 : S2.blk S.next = some ⟨false, [v1]⟩ := by rw [k2.2 _ hl1 hI1.2.2]; exact hI1.1
      obtain ⟨hI2, hs2⟩ := hI1.app hL1 k1 k2 k3
      obtain ⟨hK2, hF2⟩ := hs2.old hK1 (Nat.le_refl _) hF1
      simp only [go_sem, i64_wrap_id, Int.reduceAdd, Int.reduceSub, Int.reduceNeg, Int.reduceMul, Nat.reduceSub, Nat.reduceEqDiff, Nat.reduceAdd, Nat.reduceMul, Nat.reduceLeDiff, ↓reduceIte, reduceCtorEq, Int.reduceToNat, Int.reduceLT, Int.reduceLE, Int.reduceEq, hb2, hv2]
      rw [← hv2]
      refine ⟨enters91, cK_of (four91 b 22 S.next v2 10 _ _ hI2 (by omega)) ?_⟩
      rintro r3 S3 hS3 hL3 ⟨rfl, v3, hI3, hs3⟩
      obtain ⟨hK3, hF3⟩ := hs3.old hK2 (Nat.le_refl _) hF2
      simp only [go_sem, i64_wrap_id, Int.reduceAdd, Int.reduceSub, Int.reduceNeg, Int.reduceMul, Nat.reduceSub, Nat.reduceEqDiff, Nat.reduceAdd, Nat.reduceMul, Nat.reduceLeDiff, ↓reduceIte, reduceCtorEq, Int.reduceToNat, Int.reduceLT, Int.reduceLE, Int.reduceEq]
      refine ⟨enters91, cK_of (four91 b 30 S.next v3 14 _ _ hI3 (by omega)) ?_⟩
      rintro r4 S4 hS4 hL4 ⟨rfl, v4, hI4, hs4⟩
      obtain ⟨hK4, hF4⟩ := hs4.old hK3 (Nat.le_refl _) hF3
      have hr4 : rd S4 S.next 0 = some v4 := by rw [rd_of_blk hI4.1]; rfl
      simp only [go_sem, i64_wrap_id, Int.reduceAdd, Int.reduceSub, Int.reduceNeg, Int.reduceMul, Nat.reduceSub, Nat.reduceEqDiff, Nat.reduceAdd, Nat.reduceMul, Nat.reduceLeDiff, ↓reduceIte, reduceCtorEq, Int.reduceToNat, Int.reduceLT, Int.reduceLE, Int.reduceEq, hr4]
      refine hQ _ _ _ ?_; (first | rw [k_body_ret] | rw [k_body_normal]); simp only [resVals, resVal, ev, Env.get_put, ↓reduceIte, Nat.reduceEqDiff, Option.bind_some, Option.map_some, reduceCtorEq, ldv_true, ldv_false, lloadV_agg, partL, List.toList_toArray, cellsOf_set, cellsOf_new, rd_set, rd_new, List.length_cons, List.length_nil, Nat.reduceAdd, Nat.reduceLeDiff, Nat.le_refl, List.take_succ_cons, List.take_zero, List.drop_zero, Nat.add_eq_left, Nat.left_eq_add, List.getElem?_cons_zero, List.getElem?_cons_succ, aF64]; rw [retQ_some]; simp only [oneOr]
      exact ⟨hI4.2.1, hK4, hF4⟩
end Go.Proofs.Ytbgnaeagdneikaa
