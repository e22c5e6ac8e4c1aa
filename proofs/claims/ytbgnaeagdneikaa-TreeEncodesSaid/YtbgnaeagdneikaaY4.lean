/- The document's answer: the lengths of a style. -/
import Derived.Test.YtbgnaeagdneikaaY3
namespace Go.Proofs.Ytbgnaeagdneikaa
open Go Go.Proofs.Ytbgnaeagdneikaa.Abs
set_option linter.unusedSimpArgs false
set_option linter.unusedVariables false

theorem app2 {S : St} {x y : Value} {n k : Nat} {cs ds : List Value} (hL : Live S) (hx : Own S 2 x n cs) (hy : Sl S 2 y k ds) (hb : n + k ≤ 1000000) :
    optWp (doAppend 2 16 x y S) fun v S' => Live S' ∧ Own S' 2 v (n + k) (cs ++ ds) ∧ Keeps S S' (fun i => Value.blkOf x ≠ some i) ∧ (∀ i, Value.blkOf v = some i → Value.blkOf x = some i ∨ S.next ≤ i) :=
  append_live hL (append_own (by omega) hx hy (by omega) fun v S' h1 h2 h3 => ⟨h1, h2, h3⟩)

theorem lens66 (s : Sty) (hs : s.Ok) (S : St) : ACalls Try.prog 66 [.agg s.cells.toArray] S fun r S' => Own S' 2 r 18 (lenCells s.lens) ∧ KeepsAll S S' ∧ Fresh S r := by
  refine ACalls.run hmix Try.func66 cF66 kF66 rfl fun hL Q hQ => ?_
  simp only [go_sem, i64_wrap_id, Int.reduceAdd, Int.reduceSub, Int.reduceNeg, Int.reduceMul, Nat.reduceSub, Nat.reduceEqDiff, Nat.reduceAdd, Nat.reduceMul, Nat.reduceLeDiff, ↓reduceIte, reduceCtorEq, Int.reduceToNat, Int.reduceLT, Int.reduceLE, Int.reduceEq, aF66]
  have hl18 := hs.lens
  obtain ⟨S2, hS2⟩ : ∃ S2, S2 = (S.new ⟨false, s.cells⟩).new ⟨false, []⟩ := ⟨_, rfl⟩
  have hk2 : KeepsAll S S2 := by rw [hS2]; exact (Keeps.of_new _ _ _).new _
  have hbl : S2.blk S.next = some ⟨false, s.cells⟩ := by rw [hS2]; simp [St.blk_new, St.next_new]
  have hsty : StyAt S2 S.next s := .of_blk hbl hs
  have hL2 : Live S2 := by
    rw [hS2]
    exact (hL.new _).new _
  have hb := hL2 _ _ hbl
  have hx : Own S2 2 (.slice (some ⟨S.next + 1, 0, none⟩) 0 2) 0 [] := .inr ⟨_, rfl, by rw [hS2]; simp [St.blk_new, St.next_new], rfl⟩
  rw [← hS2]
  refine hK_of (app2 (k := 4) hL2 hx (.inr ⟨S.next, 2, 0, rfl, .inl rfl, (hsty.all hs).span 0 4 (by omega)⟩) (by omega)) ?_
  rintro v3 S3 ⟨hL3, hO3, hK3, hF3⟩
  have hbl3 : S3.blk S.next = some ⟨false, s.cells⟩ := by rw [hK3.2 _ hb (by simp [Value.blkOf])]; exact hbl
  have hsty3 : StyAt S3 S.next s := .of_blk hbl3 hs
  have hk3 : KeepsAll S S3 := hk2.trans hK3 fun i hi _ => by simp [Value.blkOf]; omega
  have hf3 : Fresh S v3 := fun i hi => by
    rcases hF3 i hi with h | h
    · simp [Value.blkOf] at h; omega
    · have := hk2.1; omega
  have hn3 : Value.blkOf v3 ≠ some S.next := fun e => by
    rcases hF3 _ e with h | h
    · simp [Value.blkOf] at h
    · omega
  have l4 := (hsty3.all hs).len 4 (by omega)
  have l5 := (hsty3.all hs).len 5 (by omega)
  have l6 := (hsty3.all hs).len 6 (by omega)
  have l7 := (hsty3.all hs).len 7 (by omega)
  have l8 := (hsty3.all hs).len 8 (by omega)
  have l9 := (hsty3.all hs).len 9 (by omega)
  simp only [Nat.reduceMul, Nat.reduceAdd] at l4 l5 l6 l7 l8 l9
  simp only [go_sem, i64_wrap_id, Int.reduceAdd, Int.reduceSub, Int.reduceNeg, Int.reduceMul, Nat.reduceSub, Nat.reduceEqDiff, Nat.reduceAdd, Nat.reduceMul, Nat.reduceLeDiff, ↓reduceIte, reduceCtorEq, Int.reduceToNat, Int.reduceLT, Int.reduceLE, Int.reduceEq, l4, l5, l6, l7, l8, l9]
  have hmid : lenCells ((s.lens.drop 4).take 6) = [.int .i64 s.lens[4].1, .int .i64 s.lens[4].2, .int .i64 s.lens[5].1, .int .i64 s.lens[5].2, .int .i64 s.lens[6].1, .int .i64 s.lens[6].2,
      .int .i64 s.lens[7].1, .int .i64 s.lens[7].2, .int .i64 s.lens[8].1, .int .i64 s.lens[8].2, .int .i64 s.lens[9].1, .int .i64 s.lens[9].2] := by
    rw [List.drop_eq_getElem_cons (by omega), List.drop_eq_getElem_cons (by omega), List.drop_eq_getElem_cons (by omega), List.drop_eq_getElem_cons (by omega), List.drop_eq_getElem_cons (by omega), List.drop_eq_getElem_cons (by omega)]
    rfl
  rw [← hmid]
  have hO3' : Own (S3.new ⟨false, lenCells ((s.lens.drop 4).take 6)⟩) 2 v3 4 (lenCells (s.lens.take 4)) := by
    have := Own.keeps hL3 hO3 (Keeps.of_new S3 ⟨false, lenCells ((s.lens.drop 4).take 6)⟩ fun _ => True) fun _ _ => trivial
    simpa using this
  refine hK_of (app2 (n := 4) (k := 6) (ds := lenCells ((s.lens.drop 4).take 6)) (hL3.new _) hO3' (.inr ⟨S3.next, 0, 2, rfl, .inr rfl, ?_⟩) (by omega)) ?_
  · rw [cellsOf_new, if_pos rfl, if_pos (by simp [lenCells_length]; omega), List.drop_zero, List.take_of_length_le (by simp [lenCells_length]; omega)]
  rintro v4 S4 ⟨hL4, hO4, hK4, hF4⟩
  have hK34 : Keeps S3 S4 fun i => Value.blkOf v3 ≠ some i := (Keeps.of_new S3 _ _).trans hK4 fun i _ hp => hp
  have hb3 := hL3 _ _ hbl3
  have hbl4 : S4.blk S.next = some ⟨false, s.cells⟩ := by rw [hK34.2 _ hb3 hn3]; exact hbl3
  have hk4 : KeepsAll S S4 := hk3.trans hK34 fun i hi _ e => by have := hf3 i e; omega
  have hf4 : Fresh S v4 := fun i hi => by
    rcases hF4 i hi with h | h
    · exact hf3 i h
    · have := hk3.1; simp [St.next_new] at h; omega
  have hn4 : Value.blkOf v4 ≠ some S.next := fun e => by
    rcases hF4 _ e with h | h
    · exact hn3 h
    · simp [St.next_new] at h; omega
  have hsty4 : StyAt S4 S.next s := .of_blk hbl4 hs
  simp only [go_sem, i64_wrap_id, Int.reduceAdd, Int.reduceSub, Int.reduceNeg, Int.reduceMul, Nat.reduceSub, Nat.reduceEqDiff, Nat.reduceAdd, Nat.reduceMul, Nat.reduceLeDiff, ↓reduceIte, reduceCtorEq, Int.reduceToNat, Int.reduceLT, Int.reduceLE, Int.reduceEq]
  refine hK_of (app2 (k := 4) hL4 hO4 (.inr ⟨S.next, 22, 0, rfl, .inl rfl, (hsty4.all hs).span 10 4 (by omega)⟩) (by omega)) ?_
  rintro v5 S5 ⟨hL5, hO5, hK5, hF5⟩
  have hb4 := hL4 _ _ hbl4
  have hbl5 : S5.blk S.next = some ⟨false, s.cells⟩ := by rw [hK5.2 _ hb4 hn4]; exact hbl4
  have hk5 : KeepsAll S S5 := hk4.trans hK5 fun i hi _ e => by have := hf4 i e; omega
  have hf5 : Fresh S v5 := fun i hi => by
    rcases hF5 i hi with h | h
    · exact hf4 i h
    · have := hk4.1; omega
  have hn5 : Value.blkOf v5 ≠ some S.next := fun e => by
    rcases hF5 _ e with h | h
    · exact hn4 h
    · omega
  have hsty5 : StyAt S5 S.next s := .of_blk hbl5 hs
  simp only [go_sem, i64_wrap_id, Int.reduceAdd, Int.reduceSub, Int.reduceNeg, Int.reduceMul, Nat.reduceSub, Nat.reduceEqDiff, Nat.reduceAdd, Nat.reduceMul, Nat.reduceLeDiff, ↓reduceIte, reduceCtorEq, Int.reduceToNat, Int.reduceLT, Int.reduceLE, Int.reduceEq]
  refine hK_of (app2 (k := 4) hL5 hO5 (.inr ⟨S.next, 30, 0, rfl, .inl rfl, (hsty5.all hs).span 14 4 (by omega)⟩) (by omega)) ?_
  rintro v6 S6 ⟨hL6, hO6, hK6, hF6⟩
  have hk6 : KeepsAll S S6 := hk5.trans hK6 fun i hi _ e => by have := hf5 i e; omega
  have hf6 : Fresh S v6 := fun i hi => by
    rcases hF6 i hi with h | h
    · exact hf5 i h
    · have := hk5.1; omega
  simp only [go_sem, i64_wrap_id, Int.reduceAdd, Int.reduceSub, Int.reduceNeg, Int.reduceMul, Nat.reduceSub, Nat.reduceEqDiff, Nat.reduceAdd, Nat.reduceMul, Nat.reduceLeDiff, ↓reduceIte, reduceCtorEq, Int.reduceToNat, Int.reduceLT, Int.reduceLE, Int.reduceEq]
  refine hQ _ _ _ ?_; (first | rw [k_body_ret] | rw [k_body_normal]); simp only [resVals, resVal, ev, Env.get_put, ↓reduceIte, Nat.reduceEqDiff, Option.bind_some, Option.map_some, reduceCtorEq, ldv_true, ldv_false, lloadV_agg, partL, List.toList_toArray, cellsOf_set, cellsOf_new, rd_set, rd_new, List.length_cons, List.length_nil, Nat.reduceAdd, Nat.reduceLeDiff, Nat.le_refl, List.take_succ_cons, List.take_zero, List.drop_zero, Nat.add_eq_left, Nat.left_eq_add, List.getElem?_cons_zero, List.getElem?_cons_succ, aF66]; rw [retQ_some]; simp only [oneOr]
  refine ⟨?_, hk6, hf6⟩
  have e : lenCells s.lens = lenCells (s.lens.take 4) ++ lenCells ((s.lens.drop 4).take 6) ++ lenCells ((s.lens.drop 10).take 4) ++ lenCells ((s.lens.drop 14).take 4) := by
    rw [← lenCells_append, ← lenCells_append, ← lenCells_append]
    congr 1
    have h1 : (s.lens.drop 14).take 4 = s.lens.drop 14 := List.take_of_length_le (by simp; omega)
    have h2 : (s.lens.drop 10).take 4 ++ s.lens.drop 14 = s.lens.drop 10 := by
      have := List.take_append_drop 4 (s.lens.drop 10)
      rwa [List.drop_drop] at this
    have h3 : (s.lens.drop 4).take 6 ++ s.lens.drop 10 = s.lens.drop 4 := by
      have := List.take_append_drop 6 (s.lens.drop 4)
      rwa [List.drop_drop] at this
    rw [h1, List.append_assoc, List.append_assoc, h2, h3, List.take_append_drop]
  rw [e]
  simpa using hO6
end Go.Proofs.Ytbgnaeagdneikaa
