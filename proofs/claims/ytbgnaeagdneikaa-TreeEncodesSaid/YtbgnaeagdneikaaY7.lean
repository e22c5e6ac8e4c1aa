/- The statement StyleForms, over the abstract memory. -/
import Derived.Test.YtbgnaeagdneikaaY6
namespace Go.Proofs.Ytbgnaeagdneikaa
open Go Go.Proofs.Ytbgnaeagdneikaa.Abs
set_option linter.unusedSimpArgs false
set_option linter.unusedVariables false

def styK (sh : Bool) (ls : List (Int × Int)) : Sty := ⟨sh, 0, ls, [0, 0, 0, 0], false, false, 0, false, 0, 0⟩
def lensK (k : Nat) : List (Int × Int) := List.replicate 14 (0, 0) ++ List.replicate k (1, 0) ++ List.replicate (4 - k) (0, 0)
def plainK (k : Nat) : Sty := styK true (lensK k)
def zeroS : Sty := styK false (lensK 0)
theorem lensK_length (k : Nat) (h : k ≤ 4) : (lensK k).length = 18 := by simp [lensK]; omega
theorem lensK_mem (k : Nat) : ∀ p ∈ lensK k, p = (0, 0) ∨ p = (1, 0) := by
  intro p hp
  simp only [lensK, List.mem_append, List.mem_replicate] at hp
  rcases hp with (hp | hp) | hp
  · exact .inl hp.2
  · exact .inr hp.2
  · exact .inl hp.2
theorem styK_ok (sh : Bool) (k : Nat) (h : k ≤ 4) : (styK sh (lensK k)).Ok := by
  refine ⟨lensK_length k h, rfl, fun p hp => ?_, fun n hn => ?_, ?_, ?_, ?_, ?_⟩
  · rcases lensK_mem k p hp with rfl | rfl <;> simp [InI64]
  · simp [styK] at hn; subst hn; simp [InI64]
  all_goals simp [styK, InI64]
theorem plain_formed : SFormed (plainK 4) := by
  refine ⟨fun j hj => ?_, fun k hk => ?_, by simp [plainK, styK]⟩
  · have h18 : j < 18 := by simpa [plainK, styK, lensK] using hj
    have e0 := (by decide : ∀ j : Fin 18, (lensK 4)[j.1]? = some (if j.1 < 14 then (0, 0) else (1, 0))) ⟨j, h18⟩
    show LenOk j ((lensK 4)[j]'hj)
    rw [show (lensK 4)[j]'hj = _ from (List.getElem?_eq_some_iff.1 e0).2]
    show LenOk j (if j < 14 then (0, 0) else (1, 0))
    split
    · exact ⟨.inl ⟨rfl, rfl⟩, fun h => absurd h (by simp), fun h => by omega⟩
    · exact ⟨.inr (.inl rfl), fun h => absurd h (by simp), fun h => by simp⟩
  · have h4 : k < 4 := by simpa [plainK, styK] using hk
    match k, h4 with
    | 0, _ => simp [plainK, styK]
    | 1, _ => simp [plainK, styK]
    | 2, _ => simp [plainK, styK]
    | 3, _ => simp [plainK, styK]
theorem plain_within : SWithin (plainK 4) := by
  refine ⟨fun j hj => ?_, fun k hk => ?_, by simp [plainK, styK]⟩
  · have := lensK_mem 4 _ (List.getElem_mem (l := lensK 4) (n := j) hj)
    have e : (plainK 4).lens[j] = (lensK 4)[j]'hj := rfl
    rw [e]
    rcases this with h | h <;> rw [h] <;> simp [LenIn]
  · have h4 : k < 4 := by simpa [plainK, styK] using hk
    match k, h4 with
    | 0, _ => simp [plainK, styK]
    | 1, _ => simp [plainK, styK]
    | 2, _ => simp [plainK, styK]
    | 3, _ => simp [plainK, styK]
theorem zero_formed : ¬ SFormed zeroS := by
  intro h
  have := (h.1 14 (by simp [zeroS, styK, lensK])).2.2 (by omega)
  simp [zeroS, styK, lensK] at this

theorem plain55 (S : St) : ACalls Try.prog 55 [] S fun r S' => r = .agg (plainK 4).cells.toArray ∧ KeepsAll S S' := by
  refine ACalls.run hmix Try.func55 cF55 kF55 rfl fun hL Q hQ => ?_
  simp only [go_sem, i64_wrap_id, Int.reduceAdd, Int.reduceSub, Int.reduceNeg, Int.reduceMul, Nat.reduceSub, Nat.reduceEqDiff, Nat.reduceAdd, Nat.reduceMul, Nat.reduceLeDiff, ↓reduceIte, reduceCtorEq, Int.reduceToNat, Int.reduceLT, Int.reduceLE, Int.reduceEq, aF55]
  refine lK_of (fun t' S' => ∃ k : Nat, k ≤ 4 ∧ t' 0 = ptr S.next ∧ t' 1 = ptr (S.next + 1) ∧ t' 4 = .int .i64 k ∧ S'.blk S.next = some ⟨false, zeroS.cells⟩ ∧ S'.blk (S.next + 1) = some ⟨false, (plainK k).cells⟩ ∧ KeepsAll S S') (fun t' _ => (4 - RowKit.intOf (t' 4)).toNat) ?_ ?_
  · refine ⟨0, by omega, ?_, ?_, ?_, ?_, ?_, ?_⟩
    · simp only [go_sem, i64_wrap_id, Int.reduceAdd, Int.reduceSub, Int.reduceNeg, Int.reduceMul, Nat.reduceSub, Nat.reduceEqDiff, Nat.reduceAdd, Nat.reduceMul, Nat.reduceLeDiff, ↓reduceIte, reduceCtorEq, Int.reduceToNat, Int.reduceLT, Int.reduceLE, Int.reduceEq]
    · simp only [go_sem, i64_wrap_id, Int.reduceAdd, Int.reduceSub, Int.reduceNeg, Int.reduceMul, Nat.reduceSub, Nat.reduceEqDiff, Nat.reduceAdd, Nat.reduceMul, Nat.reduceLeDiff, ↓reduceIte, reduceCtorEq, Int.reduceToNat, Int.reduceLT, Int.reduceLE, Int.reduceEq]
    · simp only [go_sem, i64_wrap_id, Int.reduceAdd, Int.reduceSub, Int.reduceNeg, Int.reduceMul, Nat.reduceSub, Nat.reduceEqDiff, Nat.reduceAdd, Nat.reduceMul, Nat.reduceLeDiff, ↓reduceIte, reduceCtorEq, Int.reduceToNat, Int.reduceLT, Int.reduceLE, Int.reduceEq]; rfl
    · simp [St.blk_set, St.blk_new, St.next_new]; rfl
    · simp [St.blk_set, St.blk_new, St.next_new]; rfl
    · exact ((Keeps.of_new _ _ _).new _).set (fun i hi _ => by omega) _
  · rintro t1 S1 Q1 ⟨k, hk, h0, h1, h4, hz, hb, hK⟩ hL1 hN hE
    have hlen : (plainK k).cells.length = 48 := (styK_ok true k hk).len
    by_cases hk4 : k = 4
    · subst hk4
      simp only [go_sem, i64_wrap_id, Int.reduceAdd, Int.reduceSub, Int.reduceNeg, Int.reduceMul, Nat.reduceSub, Nat.reduceEqDiff, Nat.reduceAdd, Nat.reduceMul, Nat.reduceLeDiff, ↓reduceIte, reduceCtorEq, Int.reduceToNat, Int.reduceLT, Int.reduceLE, Int.reduceEq, h4, show ¬ (((4 : Nat) : Int) < 4) by omega]
      refine hE _ _ _ (by simp) ?_
      have hc : cellsOf S1 (S.next + 1) 0 48 = some (plainK 4).cells := StyAt.of_blk hb (styK_ok true 4 (by omega))
      have hzl : zeroS.cells.length = 48 := by decide
      have how : ow zeroS.cells 0 (plainK 4).cells = (plainK 4).cells := by rfl
      simp only [go_sem, i64_wrap_id, Int.reduceAdd, Int.reduceSub, Int.reduceNeg, Int.reduceMul, Nat.reduceSub, Nat.reduceEqDiff, Nat.reduceAdd, Nat.reduceMul, Nat.reduceLeDiff, ↓reduceIte, reduceCtorEq, Int.reduceToNat, Int.reduceLT, Int.reduceLE, Int.reduceEq, h0, h1, hc, hz, hlen, hzl, how]
      refine hQ _ _ _ ?_; (first | rw [k_body_ret] | rw [k_body_normal]); simp only [resVals, resVal, ev, Env.get_put, ↓reduceIte, Nat.reduceEqDiff, Option.bind_some, Option.map_some, reduceCtorEq, ldv_true, ldv_false, lloadV_agg, partL, List.toList_toArray, cellsOf_set, cellsOf_new, rd_set, rd_new, List.length_cons, List.length_nil, Nat.reduceAdd, Nat.reduceLeDiff, Nat.le_refl, List.take_succ_cons, List.take_zero, List.drop_zero, Nat.add_eq_left, Nat.left_eq_add, List.getElem?_cons_zero, List.getElem?_cons_succ, aF55, h0, hlen, List.take_of_length_le]; rw [retQ_some]; simp only [oneOr]
      exact ⟨trivial, hK.set (fun i hi _ => by omega) _⟩
    · have hlt : ((k : Int) < 4) := by omega
      have hk0 : (0 : Int) ≤ k := by omega
      have hk1 : IntKind.i64.wrap ((k : Int) + 1) = k + 1 := wrap64_id (by omega) (by omega)
      simp only [go_sem, i64_wrap_id, Int.reduceAdd, Int.reduceSub, Int.reduceNeg, Int.reduceMul, Nat.reduceSub, Nat.reduceEqDiff, Nat.reduceAdd, Nat.reduceMul, Nat.reduceLeDiff, ↓reduceIte, reduceCtorEq, Int.reduceToNat, Int.reduceLT, Int.reduceLE, Int.reduceEq, h0, h1, h4, hlt, hk0, Int.toNat_natCast, hb, hlen, hk1, show 30 + k * 2 ≤ 46 by omega, show (((4 : Nat) : Int)) = 4 from rfl]
      refine hN _ _ ⟨k + 1, by omega, ?_, ?_, ?_, ?_, ?_, hK.set (fun i hi _ => by omega) _⟩ ?_
      · simp only [go_sem, i64_wrap_id, Int.reduceAdd, Int.reduceSub, Int.reduceNeg, Int.reduceMul, Nat.reduceSub, Nat.reduceEqDiff, Nat.reduceAdd, Nat.reduceMul, Nat.reduceLeDiff, ↓reduceIte, reduceCtorEq, Int.reduceToNat, Int.reduceLT, Int.reduceLE, Int.reduceEq, h0]
      · simp only [go_sem, i64_wrap_id, Int.reduceAdd, Int.reduceSub, Int.reduceNeg, Int.reduceMul, Nat.reduceSub, Nat.reduceEqDiff, Nat.reduceAdd, Nat.reduceMul, Nat.reduceLeDiff, ↓reduceIte, reduceCtorEq, Int.reduceToNat, Int.reduceLT, Int.reduceLE, Int.reduceEq, h1]
      · simp only [go_sem, i64_wrap_id, Int.reduceAdd, Int.reduceSub, Int.reduceNeg, Int.reduceMul, Nat.reduceSub, Nat.reduceEqDiff, Nat.reduceAdd, Nat.reduceMul, Nat.reduceLeDiff, ↓reduceIte, reduceCtorEq, Int.reduceToNat, Int.reduceLT, Int.reduceLE, Int.reduceEq]; congr 1
      · rw [St.blk_set, if_neg (by omega)]; exact hz
      · rw [St.blk_set, if_pos rfl]
        have hk3 : k < 4 := by omega
        match k, hk3 with
        | 0, _ => rfl
        | 1, _ => rfl
        | 2, _ => rfl
        | 3, _ => rfl
      · simp only [go_sem, i64_wrap_id, Int.reduceAdd, Int.reduceSub, Int.reduceNeg, Int.reduceMul, Nat.reduceSub, Nat.reduceEqDiff, Nat.reduceAdd, Nat.reduceMul, Nat.reduceLeDiff, ↓reduceIte, reduceCtorEq, Int.reduceToNat, Int.reduceLT, Int.reduceLE, Int.reduceEq, h4, RowKit.intOf]
        omega

theorem awake06 (S : St) : ACalls Try.prog 19 [] S fun r S' => r = .bool true ∧ KeepsAll S S' := by
  refine ACalls.run hmix Try.func19 cF19 kF19 rfl fun hL Q hQ => ?_
  simp only [go_sem, i64_wrap_id, Int.reduceAdd, Int.reduceSub, Int.reduceNeg, Int.reduceMul, Nat.reduceSub, Nat.reduceEqDiff, Nat.reduceAdd, Nat.reduceMul, Nat.reduceLeDiff, ↓reduceIte, reduceCtorEq, Int.reduceToNat, Int.reduceLT, Int.reduceLE, Int.reduceEq, aF19]
  refine cK_of (plain55 S) ?_
  rintro r1 S1 hS1 hL1 ⟨rfl, hK1⟩
  simp only [go_sem, i64_wrap_id, Int.reduceAdd, Int.reduceSub, Int.reduceNeg, Int.reduceMul, Nat.reduceSub, Nat.reduceEqDiff, Nat.reduceAdd, Nat.reduceMul, Nat.reduceLeDiff, ↓reduceIte, reduceCtorEq, Int.reduceToNat, Int.reduceLT, Int.reduceLE, Int.reduceEq]
  refine cK_of (formed20 (plainK 4) (styK_ok true 4 (by omega)) S1) ?_
  rintro r2 S2 hS2 hL2 ⟨⟨c, rfl, hc⟩, hK2⟩
  obtain rfl : c = true := hc.2 plain_formed
  simp only [go_sem, i64_wrap_id, Int.reduceAdd, Int.reduceSub, Int.reduceNeg, Int.reduceMul, Nat.reduceSub, Nat.reduceEqDiff, Nat.reduceAdd, Nat.reduceMul, Nat.reduceLeDiff, ↓reduceIte, reduceCtorEq, Int.reduceToNat, Int.reduceLT, Int.reduceLE, Int.reduceEq]
  refine cK_of (plain55 S2) ?_
  rintro r3 S3 hS3 hL3 ⟨rfl, hK3⟩
  simp only [go_sem, i64_wrap_id, Int.reduceAdd, Int.reduceSub, Int.reduceNeg, Int.reduceMul, Nat.reduceSub, Nat.reduceEqDiff, Nat.reduceAdd, Nat.reduceMul, Nat.reduceLeDiff, ↓reduceIte, reduceCtorEq, Int.reduceToNat, Int.reduceLT, Int.reduceLE, Int.reduceEq]
  refine cK_of (within22 (plainK 4) (styK_ok true 4 (by omega)) S3) ?_
  rintro r4 S4 hS4 hL4 ⟨⟨c, rfl, hc⟩, hK4⟩
  obtain rfl : c = true := hc.2 plain_within
  simp only [go_sem, i64_wrap_id, Int.reduceAdd, Int.reduceSub, Int.reduceNeg, Int.reduceMul, Nat.reduceSub, Nat.reduceEqDiff, Nat.reduceAdd, Nat.reduceMul, Nat.reduceLeDiff, ↓reduceIte, reduceCtorEq, Int.reduceToNat, Int.reduceLT, Int.reduceLE, Int.reduceEq]
  refine cK_of (formed20 zeroS (styK_ok false 0 (by omega)) S4) ?_
  rintro r5 S5 hS5 hL5 ⟨⟨c, rfl, hc⟩, hK5⟩
  obtain rfl : c = false := by
    cases c
    · rfl
    · exact absurd (hc.1 rfl) zero_formed
  simp only [go_sem, i64_wrap_id, Int.reduceAdd, Int.reduceSub, Int.reduceNeg, Int.reduceMul, Nat.reduceSub, Nat.reduceEqDiff, Nat.reduceAdd, Nat.reduceMul, Nat.reduceLeDiff, ↓reduceIte, reduceCtorEq, Int.reduceToNat, Int.reduceLT, Int.reduceLE, Int.reduceEq]
  refine hQ _ _ _ ?_; (first | rw [k_body_ret] | rw [k_body_normal]); simp only [resVals, resVal, ev, Env.get_put, ↓reduceIte, Nat.reduceEqDiff, Option.bind_some, Option.map_some, reduceCtorEq, ldv_true, ldv_false, lloadV_agg, partL, List.toList_toArray, cellsOf_set, cellsOf_new, rd_set, rd_new, List.length_cons, List.length_nil, Nat.reduceAdd, Nat.reduceLeDiff, Nat.le_refl, List.take_succ_cons, List.take_zero, List.drop_zero, Nat.add_eq_left, Nat.left_eq_add, List.getElem?_cons_zero, List.getElem?_cons_succ, aF19]; rw [retQ_some]; simp only [oneOr]
  exact ⟨trivial, (((hK1.trans hK2 fun _ _ _ => trivial).trans hK3 fun _ _ _ => trivial).trans hK4 fun _ _ _ => trivial).trans hK5 fun _ _ _ => trivial⟩

theorem iff_bool {c d : Bool} {p : Prop} (h : c = true ↔ p) (k : d = true ↔ p) : c = d := by
  cases c <;> cases d <;> simp_all

theorem styleForms (s : Sty) (hs : s.Ok) (S : St) : ACalls Try.prog 3 [.agg s.cells.toArray] S fun r S' => r = .bool true := by
  refine ACalls.run hmix Try.func3 cF3 kF3 rfl fun hL Q hQ => ?_
  simp only [go_sem, i64_wrap_id, Int.reduceAdd, Int.reduceSub, Int.reduceNeg, Int.reduceMul, Nat.reduceSub, Nat.reduceEqDiff, Nat.reduceAdd, Nat.reduceMul, Nat.reduceLeDiff, ↓reduceIte, reduceCtorEq, Int.reduceToNat, Int.reduceLT, Int.reduceLE, Int.reduceEq, aF3]
  refine cK_of (awake06 _) ?_
  rintro r1 S1 hS1 hL1 ⟨rfl, hK1⟩
  have hb0 : (S.new ⟨false, s.cells⟩).blk S.next = some ⟨false, s.cells⟩ := by simp [St.blk_new]
  have hb1 : S1.blk S.next = some ⟨false, s.cells⟩ := by rw [hK1.2 _ (by simp [St.next_new]) trivial]; exact hb0
  have hc1 : cellsOf S1 S.next 0 48 = some s.cells := StyAt.of_blk hb1 hs
  simp only [go_sem, i64_wrap_id, Int.reduceAdd, Int.reduceSub, Int.reduceNeg, Int.reduceMul, Nat.reduceSub, Nat.reduceEqDiff, Nat.reduceAdd, Nat.reduceMul, Nat.reduceLeDiff, ↓reduceIte, reduceCtorEq, Int.reduceToNat, Int.reduceLT, Int.reduceLE, Int.reduceEq, hc1]
  refine ⟨⟨?_, ?_⟩, ?_⟩
  all_goals
    refine cK_of (formed20 s hs S1) ?_
    rintro r2 S2 hS2 hL2 ⟨⟨c2, rfl, h2⟩, hK2⟩
    have hb2 : S2.blk S.next = some ⟨false, s.cells⟩ := by rw [hK2.2 _ (hL1 _ _ hb1) trivial]; exact hb1
    have hc2 : cellsOf S2 S.next 0 48 = some s.cells := StyAt.of_blk hb2 hs
    simp only [go_sem, i64_wrap_id, Int.reduceAdd, Int.reduceSub, Int.reduceNeg, Int.reduceMul, Nat.reduceSub, Nat.reduceEqDiff, Nat.reduceAdd, Nat.reduceMul, Nat.reduceLeDiff, ↓reduceIte, reduceCtorEq, Int.reduceToNat, Int.reduceLT, Int.reduceLE, Int.reduceEq, hc2]
    refine cK_of (refFormed s hs S2) ?_
    rintro r3 S3 hS3 hL3 ⟨⟨c3, rfl, h3⟩, hK3⟩
    have hb3 : S3.blk S.next = some ⟨false, s.cells⟩ := by rw [hK3.2 _ (hL2 _ _ hb2) trivial]; exact hb2
    have hc3 : cellsOf S3 S.next 0 48 = some s.cells := StyAt.of_blk hb3 hs
    obtain rfl := iff_bool h2 h3
    simp only [go_sem, i64_wrap_id, Int.reduceAdd, Int.reduceSub, Int.reduceNeg, Int.reduceMul, Nat.reduceSub, Nat.reduceEqDiff, Nat.reduceAdd, Nat.reduceMul, Nat.reduceLeDiff, ↓reduceIte, reduceCtorEq, Int.reduceToNat, Int.reduceLT, Int.reduceLE, Int.reduceEq, hc3]
    refine cK_of (refFormed s hs S3) ?_
    rintro r4 S4 hS4 hL4 ⟨⟨c4, rfl, h4⟩, hK4⟩
    have hb4 : S4.blk S.next = some ⟨false, s.cells⟩ := by rw [hK4.2 _ (hL3 _ _ hb3) trivial]; exact hb3
    have hc4 : cellsOf S4 S.next 0 48 = some s.cells := StyAt.of_blk hb4 hs
    cases c4
    · simp only [go_sem, i64_wrap_id, Int.reduceAdd, Int.reduceSub, Int.reduceNeg, Int.reduceMul, Nat.reduceSub, Nat.reduceEqDiff, Nat.reduceAdd, Nat.reduceMul, Nat.reduceLeDiff, ↓reduceIte, reduceCtorEq, Int.reduceToNat, Int.reduceLT, Int.reduceLE, Int.reduceEq, hc4]
      refine ⟨⟨?_, ?_⟩, ?_⟩ <;>
      · refine hQ _ _ _ ?_; (first | rw [k_body_ret] | rw [k_body_normal]); simp only [resVals, resVal, ev, Env.get_put, ↓reduceIte, Nat.reduceEqDiff, Option.bind_some, Option.map_some, reduceCtorEq, ldv_true, ldv_false, lloadV_agg, partL, List.toList_toArray, cellsOf_set, cellsOf_new, rd_set, rd_new, List.length_cons, List.length_nil, Nat.reduceAdd, Nat.reduceLeDiff, Nat.le_refl, List.take_succ_cons, List.take_zero, List.drop_zero, Nat.add_eq_left, Nat.left_eq_add, List.getElem?_cons_zero, List.getElem?_cons_succ, aF3]; rw [retQ_some]; simp only [oneOr]
    · simp only [go_sem, i64_wrap_id, Int.reduceAdd, Int.reduceSub, Int.reduceNeg, Int.reduceMul, Nat.reduceSub, Nat.reduceEqDiff, Nat.reduceAdd, Nat.reduceMul, Nat.reduceLeDiff, ↓reduceIte, reduceCtorEq, Int.reduceToNat, Int.reduceLT, Int.reduceLE, Int.reduceEq, hc4]
      refine ⟨⟨?_, ?_⟩, ?_⟩
      all_goals
        refine cK_of (within22 s hs S4) ?_
        rintro r5 S5 hS5 hL5 ⟨⟨c5, rfl, h5⟩, hK5⟩
        have hb5 : S5.blk S.next = some ⟨false, s.cells⟩ := by rw [hK5.2 _ (hL4 _ _ hb4) trivial]; exact hb4
        have hc5 : cellsOf S5 S.next 0 48 = some s.cells := StyAt.of_blk hb5 hs
        simp only [go_sem, i64_wrap_id, Int.reduceAdd, Int.reduceSub, Int.reduceNeg, Int.reduceMul, Nat.reduceSub, Nat.reduceEqDiff, Nat.reduceAdd, Nat.reduceMul, Nat.reduceLeDiff, ↓reduceIte, reduceCtorEq, Int.reduceToNat, Int.reduceLT, Int.reduceLE, Int.reduceEq, hc5]
        refine cK_of (refWithin s hs S5) ?_
        rintro r6 S6 hS6 hL6 ⟨⟨c6, rfl, h6⟩, hK6⟩
        obtain rfl := iff_bool h5 h6
        simp only [go_sem, i64_wrap_id, Int.reduceAdd, Int.reduceSub, Int.reduceNeg, Int.reduceMul, Nat.reduceSub, Nat.reduceEqDiff, Nat.reduceAdd, Nat.reduceMul, Nat.reduceLeDiff, ↓reduceIte, reduceCtorEq, Int.reduceToNat, Int.reduceLT, Int.reduceLE, Int.reduceEq]
        refine hQ _ _ _ ?_; (first | rw [k_body_ret] | rw [k_body_normal]); simp only [resVals, resVal, ev, Env.get_put, ↓reduceIte, Nat.reduceEqDiff, Option.bind_some, Option.map_some, reduceCtorEq, ldv_true, ldv_false, lloadV_agg, partL, List.toList_toArray, cellsOf_set, cellsOf_new, rd_set, rd_new, List.length_cons, List.length_nil, Nat.reduceAdd, Nat.reduceLeDiff, Nat.le_refl, List.take_succ_cons, List.take_zero, List.drop_zero, Nat.add_eq_left, Nat.left_eq_add, List.getElem?_cons_zero, List.getElem?_cons_succ, aF3]; rw [retQ_some]; simp only [oneOr]

theorem styleForms' (cs : List Value) (S : St) (h : FlatOk styleSh cs) : ACalls Try.prog 3 [.agg cs.toArray] S fun r S' => r = .bool true := by
  obtain ⟨s, hs, rfl⟩ := sty_of h
  exact styleForms s hs S
end Go.Proofs.Ytbgnaeagdneikaa
