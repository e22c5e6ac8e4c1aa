/- style.Get, walked. -/
import Derived.Test.YtbgnaeagdneikaaY9
namespace Go.Proofs.Ytbgnaeagdneikaa
open Go Go.Proofs.Ytbgnaeagdneikaa.Abs
set_option linter.unusedSimpArgs false
set_option linter.unusedVariables false

theorem IsIn.keeps {S S' : St} {P : Nat → Prop} {i : Nat} {x : Value} {xs : List Int} {bad : Bool} (h : IsIn S i x xs bad) (hL : Live S) (hk : Keeps S S' P) (h1 : P i) (h2 : ∀ d, Value.blkOf x = some d → P d) : IsIn S' i x xs bad :=
  ⟨by rw [hk.2 i (hL _ _ h.blk) h1]; exact h.blk, Sl.keeps hL h.data hk h2, h.ne, h.byt, h.nil⟩
theorem ow_all : ∀ (vs cs : List Value), vs.length = cs.length → ow cs 0 vs = vs := by
  have key : ∀ (vs pre cs : List Value), vs.length = cs.length → ow (pre ++ cs) pre.length vs = pre ++ vs := by
    intro vs
    induction vs with
    | nil => intro pre cs h; rw [List.eq_nil_of_length_eq_zero h.symm]; rfl
    | cons v vs ih =>
      intro pre cs h
      cases cs with
      | nil => simp at h
      | cons c cs =>
        have := ih (pre ++ [v]) cs (by simpa using h)
        simp only [ow]
        rw [List.set_append, if_neg (by omega)]
        simpa using this
  intro vs cs h
  simpa using key vs [] cs h
theorem int2_and (a b : Int) : int2 .and .i64 a .i64 b = some (.int .i64 (bitAnd a b)) := by unfold int2; rw [if_pos rfl]; rfl

def styOf (n : Int) (ls : List (Int × Int)) (bs : List Int) (z bk ln : Int) : Sty := ⟨n % 2 == 1, n / 2 % 4, ls, bs, n / 8 % 2 == 1, hasZOf n, z, n / 32 % 2 == 1, bk, ln⟩
def zl (k : Nat) : List (Int × Int) := List.replicate k (0, 0)

def Good (t : Pst) : Prop := (pT5 t).2 = false ∧ (pByte t).1 < 64 ∧ SFormed (pSty t)
def GetPost (S : St) (i : Nat) (x : Value) (t : Pst) (r : Value) (S' : St) : Prop :=
  (Good t ∧ r = .agg (pSty t).cells.toArray ∧ ∃ x', IsIn S' i x' (pT5 t).1 false ∧ InStep S i x S' x') ∨ (¬ Good t ∧ r = .agg zeroS.cells.toArray ∧ ∃ x', IsIn S' i x' [] true ∧ InStep S i x S' x')

theorem set_set (S : St) (id : Nat) (b c : Blk) : (S.set id b).set id c = S.set id c := by
  unfold St.set
  congr 1
  funext q
  by_cases h : q = id <;> simp [h]
theorem cells_get_tail (s : Sty) (hl : s.lens.length = 18) (hb : s.border.length = 4) (k : Nat) : s.cells[42 + k]? = ([.bool s.rtl, .bool s.hasZ, .int .i64 s.z, .bool s.clip, .int .i64 s.back, .int .i64 s.line] : List Value)[k]? := by
  have hl2 := lenCells_length s.lens
  rw [cells_eq, show 42 + k = (40 + k) + 1 + 1 by omega, List.getElem?_cons_succ, List.getElem?_cons_succ, List.getElem?_append_right (by omega), List.getElem?_append_right (by simp; omega)]
  congr 1
  simp
  omega
theorem takeN_byt {n : Nat} {t : Pst} (h : Byt t.1) : Byt (takeN n t.1 t.2).2.1 := by
  unfold takeN
  split
  · intro c hc; simp at hc
  · exact fun c hc => h c (List.mem_of_mem_drop hc)
theorem pLen_byt {t : Pst} (h : Byt t.1) : Byt (pLen t).2.1 := by
  unfold pLen
  split
  · exact takeN_byt h
  · exact takeN_byt (t := (pByte t).2) (takeN_byt h)
theorem pLens_byt (n : Nat) {t : Pst} (h : Byt t.1) : Byt (pLens n t).2.1 := by
  induction n with
  | zero => exact h
  | succ n ih => exact pLen_byt ih
theorem pLen_in {t : Pst} (h : Byt t.1) : InI64 (pLen t).1.1 ∧ InI64 (pLen t).1.2 := by
  have hb := takeN_bound (n := 1) (bad := t.2) h
  unfold pLen
  split
  · simp [InI64]
  · refine ⟨?_, pEight_in _⟩
    show InI64 (takeN 1 t.1 t.2).1
    unfold InI64
    omega
theorem pLens_in (n : Nat) {t : Pst} (h : Byt t.1) : ∀ p ∈ (pLens n t).1, InI64 p.1 ∧ InI64 p.2 := by
  induction n with
  | zero => simp [pLens]
  | succ n ih =>
    intro p hp
    simp only [pLens, List.mem_append, List.mem_singleton] at hp
    rcases hp with hp | rfl
    · exact ih p hp
    · exact pLen_in (pLens_byt n h)
theorem pLens_length (n : Nat) (t : Pst) : (pLens n t).1.length = n := by
  induction n with
  | zero => rfl
  | succ n ih => simp [pLens, ih]
theorem pInts_length (n : Nat) (t : Pst) : (pInts n t).1.length = n := by
  induction n with
  | zero => rfl
  | succ n ih => simp [pInts, ih]
theorem pInts_in (n : Nat) (t : Pst) : ∀ p ∈ (pInts n t).1, InI64 p := by
  induction n with
  | zero => simp [pInts]
  | succ n ih =>
    intro p hp
    simp only [pInts, List.mem_append, List.mem_singleton] at hp
    rcases hp with hp | rfl
    · exact ih p hp
    · exact pEight_in _
theorem pSty_ok {t : Pst} (h : Byt t.1) : (pSty t).Ok := by
  have hb := takeN_bound (n := 1) (bad := t.2) h
  refine ⟨pLens_length _ _, pInts_length _ _, pLens_in 18 (takeN_byt h), pInts_in 4 _, ?_, ?_, pEight_in _, pEight_in _⟩
  · show InI64 ((takeN 1 t.1 t.2).1 / 2 % 4)
    unfold InI64
    omega
  · show InI64 (pOpt (hasZOf (pByte t).1) (pT2 t)).1
    unfold pOpt
    split
    · exact pEight_in _
    · simp [InI64]

theorem get40 (i : Nat) (x : Value) (xs : List Int) (bad : Bool) (S : St) (h : IsIn S i x xs bad) : ACalls Try.prog 40 [ptr i] S (GetPost S i x (xs, bad)) := by
  refine ACalls.run hmix Try.func40 cF40 kF40 rfl fun hL Q hQ => ?_
  simp only [go_sem, i64_wrap_id, Int.reduceAdd, Int.reduceSub, Int.reduceNeg, Int.reduceMul, Nat.reduceSub, Nat.reduceEqDiff, Nat.reduceAdd, Nat.reduceMul, Nat.reduceLeDiff, ↓reduceIte, reduceCtorEq, Int.reduceToNat, Int.reduceLT, Int.reduceLE, Int.reduceEq, aF40]
  have hi := hL _ _ h.blk
  have hxd : ∀ d, Value.blkOf x = some d → d < S.next := fun d hd => h.data.lt hL hd
  have hI0 : IsIn (S.new ⟨false, zeroS.cells⟩) i x xs bad := h.keeps hL (Keeps.of_new _ _ fun _ => True) trivial fun _ _ => trivial
  refine cK_of (inByte i x xs bad _ hI0) ?_
  rintro r1 S1 hS1 hL1 ⟨rfl, x1, hI1, hs1⟩
  obtain ⟨n, hn⟩ : ∃ n, n = (pByte (xs, bad)).1 := ⟨_, rfl⟩
  have hn8 : InU8 n := by
    have := takeN_bound (n := 1) (bad := bad) h.byt
    rw [hn]
    show 0 ≤ (takeN 1 xs bad).1 ∧ (takeN 1 xs bad).1 < 256
    omega
  obtain ⟨a1, a8, a16, a32⟩ := and_facts n hn8
  unfold InU8 at hn8
  rw [show (takeN 1 xs bad).1 = n from hn.symm]
  have hw : IntKind.i64.wrap n = n := wrap64_id (by omega) (by omega)
  have hq : n.tdiv 2 = n / 2 := Int.tdiv_eq_ediv_of_nonneg (by omega)
  have hqw : IntKind.i64.wrap (n / 2) = n / 2 := wrap64_id (by omega) (by omega)
  have hm : (n / 2).tmod 4 = n / 2 % 4 := Int.tmod_eq_emod_of_nonneg (by omega)
  simp only [go_sem, i64_wrap_id, Int.reduceAdd, Int.reduceSub, Int.reduceNeg, Int.reduceMul, Nat.reduceSub, Nat.reduceEqDiff, Nat.reduceAdd, Nat.reduceMul, Nat.reduceLeDiff, ↓reduceIte, reduceCtorEq, Int.reduceToNat, Int.reduceLT, Int.reduceLE, Int.reduceEq, hw, hq, hqw, hm, ↓int2_and, a1, a8, a16, a32, show ¬ ((2 : Int) = 0) by omega, show ¬ ((4 : Int) = 0) by omega, ↓ow_all]
  have hI1' := hI1
  have hi1 := hL1 _ _ hI1.blk
  have hx1 : ∀ d, Value.blkOf x1 = some d → d < S.next := fun d hd => hxd d (hs1.data d hd)
  have hn0 : S.next < S1.next := by have := hs1.keep.1; simp [St.next_new] at this; omega
  have hz1 : S1.blk S.next = some ⟨false, zeroS.cells⟩ := by rw [hs1.keep.2 _ (by simp [St.next_new]) (by omega)]; simp [St.blk_new]; rfl
  refine cK_of (lengths64 S1.next _) ?_
  rintro r2 S2 hS2 hL2 ⟨hO2, hK2, hF2⟩
  obtain ⟨dp, hr2, hbp, _⟩ := hO2.ne (by omega)
  have hb2 : S2.blk S1.next = some ⟨false, (styOf n (zl 18) [0, 0, 0, 0] 0 0 0).cells⟩ := by
    rw [hK2.2 _ (by simp [St.next_new, St.next_set]) trivial, St.blk_set, if_pos rfl]
    rfl
  have hz2 : S2.blk S.next = some ⟨false, zeroS.cells⟩ := by
    rw [hK2.2 _ (by simp [St.next_new, St.next_set]; omega) trivial, St.blk_set, if_neg (by omega), St.blk_new, if_neg (by omega)]
    exact hz1
  have hk12 : Keeps S1 S2 fun j => True := (((Keeps.of_new S1 _ fun _ => True).set (fun j hj _ => by omega) _).trans hK2 fun _ _ _ => trivial)
  have hI2 : IsIn S2 i x1 (pT0 (xs, bad)).1 (pT0 (xs, bad)).2 := hI1.keeps hL1 hk12 trivial fun _ _ => trivial
  have hdp : S1.next < dp := by
    have := hF2 dp (by rw [hr2]; rfl)
    simp [St.next_new, St.next_set] at this
    omega
  have hin : i < S.next := hi
  have hsk : Keeps S S2 fun j => j ≠ i := ((Keeps.of_new S _ fun j => j ≠ i).trans hs1.keep (fun j _ hp => hp)).trans hk12 fun _ _ _ => trivial
  simp only [go_sem, i64_wrap_id, Int.reduceAdd, Int.reduceSub, Int.reduceNeg, Int.reduceMul, Nat.reduceSub, Nat.reduceEqDiff, Nat.reduceAdd, Nat.reduceMul, Nat.reduceLeDiff, ↓reduceIte, reduceCtorEq, Int.reduceToNat, Int.reduceLT, Int.reduceLE, Int.reduceEq, hr2]
  refine lK_of (fun t' S' => ∃ (j : Nat) (xi : Value), j ≤ 18 ∧ t' 0 = ptr i ∧ t' 2 = ptr S.next ∧ t' 3 = .int .i64 n ∧ t' 4 = ptr S1.next ∧ t' 27 = r2 ∧ t' 28 = .int .i64 18 ∧ t' 29 = .int .i64 j ∧
      S'.blk S.next = some ⟨false, zeroS.cells⟩ ∧ S'.blk S1.next = some ⟨false, (styOf n ((pLens j (pT0 (xs, bad))).1 ++ zl (18 - j)) [0, 0, 0, 0] 0 0 0).cells⟩ ∧ S'.blk dp = some ⟨false, ptrs S1.next 2 18⟩ ∧
      IsIn S' i xi (pLens j (pT0 (xs, bad))).2.1 (pLens j (pT0 (xs, bad))).2.2 ∧ (∀ d, Value.blkOf xi = some d → Value.blkOf x = some d) ∧ Keeps S S' (fun j => j ≠ i)) (fun t' _ => (18 - RowKit.intOf (t' 29)).toNat) ?_ ?_
  · refine ⟨0, x1, by omega, ?_, ?_, ?_, ?_, ?_, ?_, ?_, hz2, hb2, hbp, hI2, hs1.data, hsk⟩
    · simp only [go_sem, i64_wrap_id, Int.reduceAdd, Int.reduceSub, Int.reduceNeg, Int.reduceMul, Nat.reduceSub, Nat.reduceEqDiff, Nat.reduceAdd, Nat.reduceMul, Nat.reduceLeDiff, ↓reduceIte, reduceCtorEq, Int.reduceToNat, Int.reduceLT, Int.reduceLE, Int.reduceEq]
    · simp only [go_sem, i64_wrap_id, Int.reduceAdd, Int.reduceSub, Int.reduceNeg, Int.reduceMul, Nat.reduceSub, Nat.reduceEqDiff, Nat.reduceAdd, Nat.reduceMul, Nat.reduceLeDiff, ↓reduceIte, reduceCtorEq, Int.reduceToNat, Int.reduceLT, Int.reduceLE, Int.reduceEq]
    · simp only [go_sem, i64_wrap_id, Int.reduceAdd, Int.reduceSub, Int.reduceNeg, Int.reduceMul, Nat.reduceSub, Nat.reduceEqDiff, Nat.reduceAdd, Nat.reduceMul, Nat.reduceLeDiff, ↓reduceIte, reduceCtorEq, Int.reduceToNat, Int.reduceLT, Int.reduceLE, Int.reduceEq]
    · simp only [go_sem, i64_wrap_id, Int.reduceAdd, Int.reduceSub, Int.reduceNeg, Int.reduceMul, Nat.reduceSub, Nat.reduceEqDiff, Nat.reduceAdd, Nat.reduceMul, Nat.reduceLeDiff, ↓reduceIte, reduceCtorEq, Int.reduceToNat, Int.reduceLT, Int.reduceLE, Int.reduceEq]
    · simp only [go_sem, i64_wrap_id, Int.reduceAdd, Int.reduceSub, Int.reduceNeg, Int.reduceMul, Nat.reduceSub, Nat.reduceEqDiff, Nat.reduceAdd, Nat.reduceMul, Nat.reduceLeDiff, ↓reduceIte, reduceCtorEq, Int.reduceToNat, Int.reduceLT, Int.reduceLE, Int.reduceEq, hr2]
    · simp only [go_sem, i64_wrap_id, Int.reduceAdd, Int.reduceSub, Int.reduceNeg, Int.reduceMul, Nat.reduceSub, Nat.reduceEqDiff, Nat.reduceAdd, Nat.reduceMul, Nat.reduceLeDiff, ↓reduceIte, reduceCtorEq, Int.reduceToNat, Int.reduceLT, Int.reduceLE, Int.reduceEq]; rfl
    · simp only [go_sem, i64_wrap_id, Int.reduceAdd, Int.reduceSub, Int.reduceNeg, Int.reduceMul, Nat.reduceSub, Nat.reduceEqDiff, Nat.reduceAdd, Nat.reduceMul, Nat.reduceLeDiff, ↓reduceIte, reduceCtorEq, Int.reduceToNat, Int.reduceLT, Int.reduceLE, Int.reduceEq]; rfl
  · rintro t1 S3 Q1 ⟨j, xi, hj, g0, g2, g3, g4, g27, g28, g29, hz3, hb3, hp3, hI3, hd3, hk3⟩ hL3 hN hE
    have hpl : ∀ k, (pLens k (pT0 (xs, bad))).1.length = k := fun k => by
      induction k with
      | zero => rfl
      | succ k ih => simp [pLens, ih]
    by_cases hj18 : j = 18
    · subst hj18
      simp only [go_sem, i64_wrap_id, Int.reduceAdd, Int.reduceSub, Int.reduceNeg, Int.reduceMul, Nat.reduceSub, Nat.reduceEqDiff, Nat.reduceAdd, Nat.reduceMul, Nat.reduceLeDiff, ↓reduceIte, reduceCtorEq, Int.reduceToNat, Int.reduceLT, Int.reduceLE, Int.reduceEq, g28, g29, show ¬ (((18 : Nat) : Int) < 18) by omega]
      refine hE _ _ _ (by simp) ?_
      simp only [go_sem, i64_wrap_id, Int.reduceAdd, Int.reduceSub, Int.reduceNeg, Int.reduceMul, Nat.reduceSub, Nat.reduceEqDiff, Nat.reduceAdd, Nat.reduceMul, Nat.reduceLeDiff, ↓reduceIte, reduceCtorEq, Int.reduceToNat, Int.reduceLT, Int.reduceLE, Int.reduceEq]
      clear hN hE
      obtain ⟨L, hLe⟩ : ∃ L, L = (pLens 18 (pT0 (xs, bad))).1 := ⟨_, rfl⟩
      have hLl : L.length = 18 := by rw [hLe]; exact hpl 18
      rw [← hLe, show zl (18 - 18) = [] from rfl, List.append_nil] at hb3
      have hI3' : IsIn S3 i xi (pT1 (xs, bad)).1 (pT1 (xs, bad)).2 := hI3
      refine lK_of (fun t' S' => ∃ (k : Nat) (xi : Value), k ≤ 4 ∧ t' 0 = ptr i ∧ t' 2 = ptr S.next ∧ t' 3 = .int .i64 n ∧ t' 4 = ptr S1.next ∧ t' 50 = .int .i64 k ∧
          S'.blk S.next = some ⟨false, zeroS.cells⟩ ∧ S'.blk S1.next = some ⟨false, (styOf n L ((pInts k (pT1 (xs, bad))).1 ++ List.replicate (4 - k) 0) 0 0 0).cells⟩ ∧
          IsIn S' i xi (pInts k (pT1 (xs, bad))).2.1 (pInts k (pT1 (xs, bad))).2.2 ∧ (∀ d, Value.blkOf xi = some d → Value.blkOf x = some d) ∧ Keeps S S' (fun j => j ≠ i)) (fun t' _ => (4 - RowKit.intOf (t' 50)).toNat) ?_ ?_
      · refine ⟨0, xi, by omega, ?_, ?_, ?_, ?_, ?_, hz3, hb3, hI3', hd3, hk3⟩
        · simp only [go_sem, i64_wrap_id, Int.reduceAdd, Int.reduceSub, Int.reduceNeg, Int.reduceMul, Nat.reduceSub, Nat.reduceEqDiff, Nat.reduceAdd, Nat.reduceMul, Nat.reduceLeDiff, ↓reduceIte, reduceCtorEq, Int.reduceToNat, Int.reduceLT, Int.reduceLE, Int.reduceEq, g0]
        · simp only [go_sem, i64_wrap_id, Int.reduceAdd, Int.reduceSub, Int.reduceNeg, Int.reduceMul, Nat.reduceSub, Nat.reduceEqDiff, Nat.reduceAdd, Nat.reduceMul, Nat.reduceLeDiff, ↓reduceIte, reduceCtorEq, Int.reduceToNat, Int.reduceLT, Int.reduceLE, Int.reduceEq, g2]
        · simp only [go_sem, i64_wrap_id, Int.reduceAdd, Int.reduceSub, Int.reduceNeg, Int.reduceMul, Nat.reduceSub, Nat.reduceEqDiff, Nat.reduceAdd, Nat.reduceMul, Nat.reduceLeDiff, ↓reduceIte, reduceCtorEq, Int.reduceToNat, Int.reduceLT, Int.reduceLE, Int.reduceEq, g3]
        · simp only [go_sem, i64_wrap_id, Int.reduceAdd, Int.reduceSub, Int.reduceNeg, Int.reduceMul, Nat.reduceSub, Nat.reduceEqDiff, Nat.reduceAdd, Nat.reduceMul, Nat.reduceLeDiff, ↓reduceIte, reduceCtorEq, Int.reduceToNat, Int.reduceLT, Int.reduceLE, Int.reduceEq, g4]
        · simp only [go_sem, i64_wrap_id, Int.reduceAdd, Int.reduceSub, Int.reduceNeg, Int.reduceMul, Nat.reduceSub, Nat.reduceEqDiff, Nat.reduceAdd, Nat.reduceMul, Nat.reduceLeDiff, ↓reduceIte, reduceCtorEq, Int.reduceToNat, Int.reduceLT, Int.reduceLE, Int.reduceEq]; rfl
      · rintro t2 S4 Q2 ⟨k, x4, hk, f0, f2, f3, f4, f50, hz4, hb4, hI4, hd4, hk4⟩ hL4 hN2 hE2
        by_cases hk4' : k = 4
        · subst hk4'
          simp only [go_sem, i64_wrap_id, Int.reduceAdd, Int.reduceSub, Int.reduceNeg, Int.reduceMul, Nat.reduceSub, Nat.reduceEqDiff, Nat.reduceAdd, Nat.reduceMul, Nat.reduceLeDiff, ↓reduceIte, reduceCtorEq, Int.reduceToNat, Int.reduceLT, Int.reduceLE, Int.reduceEq, f50, show ¬ (((4 : Nat) : Int) < 4) by omega]
          refine hE2 _ _ _ (by simp) ?_
          clear hN2 hE2
          obtain ⟨B, hB⟩ : ∃ B, B = (pInts 4 (pT1 (xs, bad))).1 := ⟨_, rfl⟩
          have hBl : B.length = 4 := by rw [hB]; exact pInts_length _ _
          rw [← hB, show List.replicate (4 - 4) (0 : Int) = [] from rfl, List.append_nil] at hb4
          have hI4' : IsIn S4 i x4 (pT2 (xs, bad)).1 (pT2 (xs, bad)).2 := by unfold pT2; exact hI4
          have hlen : ∀ z bk ln, (styOf n L B z bk ln).cells.length = 48 := fun z bk ln => by simp [Sty.cells, styOf, lenCells_length, hLl, hBl]
          have hr43 : rd S4 S1.next 43 = some (.bool (hasZOf n)) := by rw [rd_of_blk hb4]; exact cells_get_tail _ hLl hBl 1
          simp only [go_sem, i64_wrap_id, Int.reduceAdd, Int.reduceSub, Int.reduceNeg, Int.reduceMul, Nat.reduceSub, Nat.reduceEqDiff, Nat.reduceAdd, Nat.reduceMul, Nat.reduceLeDiff, ↓reduceIte, reduceCtorEq, Int.reduceToNat, Int.reduceLT, Int.reduceLE, Int.reduceEq, f0, f2, f3, f4, hr43]
          refine iK_cut (fun t' S' => Live S' ∧ ∃ x', t' 0 = ptr i ∧ t' 2 = ptr S.next ∧ t' 3 = .int .i64 n ∧ t' 4 = ptr S1.next ∧ S'.blk S.next = some ⟨false, zeroS.cells⟩ ∧
            S'.blk S1.next = some ⟨false, (styOf n L B (pOpt (hasZOf n) (pT2 (xs, bad))).1 0 0).cells⟩ ∧ IsIn S' i x' (pOpt (hasZOf n) (pT2 (xs, bad))).2.1 (pOpt (hasZOf n) (pT2 (xs, bad))).2.2 ∧ (∀ d, Value.blkOf x' = some d → Value.blkOf x = some d) ∧ Keeps S S' (fun j => j ≠ i)) ?_ ?_
          · intro Q3 hN3 hE3
            refine iK_split (fun hz => ?_) (fun hz => ?_)
            · simp only [go_sem, i64_wrap_id, Int.reduceAdd, Int.reduceSub, Int.reduceNeg, Int.reduceMul, Nat.reduceSub, Nat.reduceEqDiff, Nat.reduceAdd, Nat.reduceMul, Nat.reduceLeDiff, ↓reduceIte, reduceCtorEq, Int.reduceToNat, Int.reduceLT, Int.reduceLE, Int.reduceEq, f0]
              refine cK_of (inEight i x4 _ _ S4 hI4') ?_
              rintro r5 S5 hS5 hL5 ⟨rfl, x5, hI5, hs5⟩
              have hb5 : S5.blk S1.next = some ⟨false, (styOf n L B 0 0 0).cells⟩ := by rw [hs5.keep.2 _ (hL4 _ _ hb4) (by omega)]; exact hb4
              have hz5 : S5.blk S.next = some ⟨false, zeroS.cells⟩ := by rw [hs5.keep.2 _ (hL4 _ _ hz4) (by omega)]; exact hz4
              have hd5 : ∀ d, Value.blkOf x5 = some d → Value.blkOf x = some d := fun d hd => hd4 d (hs5.data d hd)
              have hk5 : Keeps S S5 fun j => j ≠ i := hk4.trans hs5.keep fun _ _ hp => hp
              have hset : ∀ v : Int, (styOf n L B 0 0 0).cells.set 44 (.int .i64 v) = (styOf n L B v 0 0).cells := fun v => cells_set_z _ hLl hBl v
              have hop : pOpt (hasZOf n) (pT2 (xs, bad)) = (s64 (takeN 8 (pT2 (xs, bad)).1 (pT2 (xs, bad)).2).1, (takeN 8 (pT2 (xs, bad)).1 (pT2 (xs, bad)).2).2) := by unfold pOpt pEight; rw [if_pos hz]
              simp only [go_sem, i64_wrap_id, Int.reduceAdd, Int.reduceSub, Int.reduceNeg, Int.reduceMul, Nat.reduceSub, Nat.reduceEqDiff, Nat.reduceAdd, Nat.reduceMul, Nat.reduceLeDiff, ↓reduceIte, reduceCtorEq, Int.reduceToNat, Int.reduceLT, Int.reduceLE, Int.reduceEq, f4, hb5, hlen, hset]
              refine hN3 _ _ ⟨hL5.set _ _ (hL5 _ _ hb5), x5, ?_, ?_, ?_, ?_, ?_, ?_, ?_, hd5, ?_⟩
              · simp only [go_sem, i64_wrap_id, Int.reduceAdd, Int.reduceSub, Int.reduceNeg, Int.reduceMul, Nat.reduceSub, Nat.reduceEqDiff, Nat.reduceAdd, Nat.reduceMul, Nat.reduceLeDiff, ↓reduceIte, reduceCtorEq, Int.reduceToNat, Int.reduceLT, Int.reduceLE, Int.reduceEq, f0]
              · simp only [go_sem, i64_wrap_id, Int.reduceAdd, Int.reduceSub, Int.reduceNeg, Int.reduceMul, Nat.reduceSub, Nat.reduceEqDiff, Nat.reduceAdd, Nat.reduceMul, Nat.reduceLeDiff, ↓reduceIte, reduceCtorEq, Int.reduceToNat, Int.reduceLT, Int.reduceLE, Int.reduceEq, f2]
              · simp only [go_sem, i64_wrap_id, Int.reduceAdd, Int.reduceSub, Int.reduceNeg, Int.reduceMul, Nat.reduceSub, Nat.reduceEqDiff, Nat.reduceAdd, Nat.reduceMul, Nat.reduceLeDiff, ↓reduceIte, reduceCtorEq, Int.reduceToNat, Int.reduceLT, Int.reduceLE, Int.reduceEq, f3]
              · simp only [go_sem, i64_wrap_id, Int.reduceAdd, Int.reduceSub, Int.reduceNeg, Int.reduceMul, Nat.reduceSub, Nat.reduceEqDiff, Nat.reduceAdd, Nat.reduceMul, Nat.reduceLeDiff, ↓reduceIte, reduceCtorEq, Int.reduceToNat, Int.reduceLT, Int.reduceLE, Int.reduceEq, f4]
              · rw [St.blk_set, if_neg (by omega)]; exact hz5
              · rw [St.blk_set, if_pos rfl, hop]
              · simp only [hop]
                exact hI5.keeps hL5 ((Keeps.refl S5 fun q => q ≠ S1.next).set (fun q _ hq => hq) _) (by omega) fun d hd => by have := hxd d (hd5 d hd); omega
              · exact hk5.set (fun q hq _ => by omega) _
            · have hop : pOpt (hasZOf n) (pT2 (xs, bad)) = (0, pT2 (xs, bad)) := by unfold pOpt; rw [if_neg (by simp [hz])]
              simp only [go_sem, i64_wrap_id, Int.reduceAdd, Int.reduceSub, Int.reduceNeg, Int.reduceMul, Nat.reduceSub, Nat.reduceEqDiff, Nat.reduceAdd, Nat.reduceMul, Nat.reduceLeDiff, ↓reduceIte, reduceCtorEq, Int.reduceToNat, Int.reduceLT, Int.reduceLE, Int.reduceEq]
              refine hN3 _ _ ⟨hL4, x4, ?_, ?_, ?_, ?_, hz4, ?_, ?_, hd4, hk4⟩
              · simp only [go_sem, i64_wrap_id, Int.reduceAdd, Int.reduceSub, Int.reduceNeg, Int.reduceMul, Nat.reduceSub, Nat.reduceEqDiff, Nat.reduceAdd, Nat.reduceMul, Nat.reduceLeDiff, ↓reduceIte, reduceCtorEq, Int.reduceToNat, Int.reduceLT, Int.reduceLE, Int.reduceEq, f0]
              · simp only [go_sem, i64_wrap_id, Int.reduceAdd, Int.reduceSub, Int.reduceNeg, Int.reduceMul, Nat.reduceSub, Nat.reduceEqDiff, Nat.reduceAdd, Nat.reduceMul, Nat.reduceLeDiff, ↓reduceIte, reduceCtorEq, Int.reduceToNat, Int.reduceLT, Int.reduceLE, Int.reduceEq, f2]
              · simp only [go_sem, i64_wrap_id, Int.reduceAdd, Int.reduceSub, Int.reduceNeg, Int.reduceMul, Nat.reduceSub, Nat.reduceEqDiff, Nat.reduceAdd, Nat.reduceMul, Nat.reduceLeDiff, ↓reduceIte, reduceCtorEq, Int.reduceToNat, Int.reduceLT, Int.reduceLE, Int.reduceEq, f3]
              · simp only [go_sem, i64_wrap_id, Int.reduceAdd, Int.reduceSub, Int.reduceNeg, Int.reduceMul, Nat.reduceSub, Nat.reduceEqDiff, Nat.reduceAdd, Nat.reduceMul, Nat.reduceLeDiff, ↓reduceIte, reduceCtorEq, Int.reduceToNat, Int.reduceLT, Int.reduceLE, Int.reduceEq, f4]
              · rw [hop]; exact hb4
              · rw [hop]; exact hI4'
          · rintro t3 S5 ⟨hL5, x5, g0, g2, g3, g4, hz5, hb5, hI5, hd5, hk5⟩
            obtain ⟨z, hzz⟩ : ∃ z, z = (pOpt (hasZOf n) (pT2 (xs, bad))).1 := ⟨_, rfl⟩
            rw [← hzz] at hb5
            have hI5' : IsIn S5 i x5 (pT3 (xs, bad)).1 (pT3 (xs, bad)).2 := by
              have : pT3 (xs, bad) = (pOpt (hasZOf n) (pT2 (xs, bad))).2 := by unfold pT3; rw [← hn]
              rw [this]; exact hI5
            simp only [go_sem, i64_wrap_id, Int.reduceAdd, Int.reduceSub, Int.reduceNeg, Int.reduceMul, Nat.reduceSub, Nat.reduceEqDiff, Nat.reduceAdd, Nat.reduceMul, Nat.reduceLeDiff, ↓reduceIte, reduceCtorEq, Int.reduceToNat, Int.reduceLT, Int.reduceLE, Int.reduceEq, g0]
            refine cK_of (inEight i x5 _ _ S5 hI5') ?_
            rintro r6 S6 hS6 hL6 ⟨rfl, x6, hI6, hs6⟩
            have hI6' : IsIn S6 i x6 (pT4 (xs, bad)).1 (pT4 (xs, bad)).2 := hI6
            simp only [go_sem, i64_wrap_id, Int.reduceAdd, Int.reduceSub, Int.reduceNeg, Int.reduceMul, Nat.reduceSub, Nat.reduceEqDiff, Nat.reduceAdd, Nat.reduceMul, Nat.reduceLeDiff, ↓reduceIte, reduceCtorEq, Int.reduceToNat, Int.reduceLT, Int.reduceLE, Int.reduceEq, g0]
            refine cK_of (inEight i x6 _ _ S6 hI6') ?_
            rintro r7 S7 hS7 hL7 ⟨rfl, x7, hI7, hs7⟩
            have hI7' : IsIn S7 i x7 (pT5 (xs, bad)).1 (pT5 (xs, bad)).2 := hI7
            have hb7 : S7.blk S1.next = some ⟨false, (styOf n L B z 0 0).cells⟩ := by
              rw [hs7.keep.2 _ (by have := hs6.keep.1; have := hL5 _ _ hb5; omega) (by omega), hs6.keep.2 _ (hL5 _ _ hb5) (by omega)]; exact hb5
            have hz7 : S7.blk S.next = some ⟨false, zeroS.cells⟩ := by
              rw [hs7.keep.2 _ (by have := hs6.keep.1; have := hL5 _ _ hz5; omega) (by omega), hs6.keep.2 _ (hL5 _ _ hz5) (by omega)]; exact hz5
            have hd7 : ∀ d, Value.blkOf x7 = some d → Value.blkOf x = some d := fun d hd => hd5 d (hs6.data d (hs7.data d hd))
            have hk7 : Keeps S S7 fun j => j ≠ i := (hk5.trans hs6.keep fun _ _ hp => hp).trans hs7.keep fun _ _ hp => hp
            have hset1 : ∀ v : Int, (styOf n L B z 0 0).cells.set 46 (.int .i64 v) = (styOf n L B z v 0).cells := fun v => cells_set_back _ hLl hBl v
            have hset2 : ∀ v w : Int, (styOf n L B z w 0).cells.set 47 (.int .i64 v) = (styOf n L B z w v).cells := fun v w => cells_set_line _ hLl hBl v
            simp only [go_sem, i64_wrap_id, Int.reduceAdd, Int.reduceSub, Int.reduceNeg, Int.reduceMul, Nat.reduceSub, Nat.reduceEqDiff, Nat.reduceAdd, Nat.reduceMul, Nat.reduceLeDiff, ↓reduceIte, reduceCtorEq, Int.reduceToNat, Int.reduceLT, Int.reduceLE, Int.reduceEq, g0, g4, hb7, hlen, hset1, hset2]
            obtain ⟨S8, hS8⟩ : ∃ S8, S8 = S7.set S1.next ⟨false, (styOf n L B z (s64 (takeN 8 (pT3 (xs, bad)).1 (pT3 (xs, bad)).2).1) (s64 (takeN 8 (pT4 (xs, bad)).1 (pT4 (xs, bad)).2).1)).cells⟩ := ⟨_, rfl⟩
            have hsty : styOf n L B z (s64 (takeN 8 (pT3 (xs, bad)).1 (pT3 (xs, bad)).2).1) (s64 (takeN 8 (pT4 (xs, bad)).1 (pT4 (xs, bad)).2).1) = pSty (xs, bad) := by
              unfold pSty styOf
              rw [← hn, ← hLe, ← hB, ← hzz]
              rfl
            rw [hsty] at hS8 ⊢
            rw [set_set, ← hS8]
            have hb4' : S1.next < S7.next := by have := hL7 _ _ hb7; omega
            have hL8 : Live S8 := by rw [hS8]; exact hL7.set _ _ hb4'
            have hI8 : IsIn S8 i x7 (pT5 (xs, bad)).1 (pT5 (xs, bad)).2 := by
              rw [hS8]
              exact hI7'.keeps hL7 ((Keeps.refl S7 fun q => q ≠ S1.next).set (fun q _ hq => hq) _) (by omega) fun d hd => by have := hxd d (hd7 d hd); omega
            have hb8 : S8.blk S1.next = some ⟨false, (pSty (xs, bad)).cells⟩ := by rw [hS8, St.blk_set, if_pos rfl]
            have hz8 : S8.blk S.next = some ⟨false, zeroS.cells⟩ := by rw [hS8, St.blk_set, if_neg (by omega)]; exact hz7
            have hk8 : Keeps S S8 fun j => j ≠ i := by rw [hS8]; exact hk7.set (fun q hq _ => by omega) _
            have hok : (pSty (xs, bad)).Ok := pSty_ok h.byt
            have hc8 : cellsOf S8 S1.next 0 48 = some (pSty (xs, bad)).cells := StyAt.of_blk hb8 hok
            refine cK_of (inBad i x7 _ _ S8 hI8) ?_
            rintro r9 S9 hS9 hL9 ⟨rfl, rfl⟩
            have hpos : (pByte (xs, bad)).1 = n := hn.symm
            cases hbad : (pT5 (xs, bad)).2
            · by_cases h64 : n ≥ 64
              · simp only [go_sem, i64_wrap_id, Int.reduceAdd, Int.reduceSub, Int.reduceNeg, Int.reduceMul, Nat.reduceSub, Nat.reduceEqDiff, Nat.reduceAdd, Nat.reduceMul, Nat.reduceLeDiff, ↓reduceIte, reduceCtorEq, Int.reduceToNat, Int.reduceLT, Int.reduceLE, Int.reduceEq, g3, h64]
                simp only [go_sem, i64_wrap_id, Int.reduceAdd, Int.reduceSub, Int.reduceNeg, Int.reduceMul, Nat.reduceSub, Nat.reduceEqDiff, Nat.reduceAdd, Nat.reduceMul, Nat.reduceLeDiff, ↓reduceIte, reduceCtorEq, Int.reduceToNat, Int.reduceLT, Int.reduceLE, Int.reduceEq, g0]
                refine cK_of (fail_any i x7 _ _ S9 hI8) ?_
                rintro rf Sf hSf hLf ⟨rfl, hIf, hsf⟩
                have hzf : Sf.blk S.next = some ⟨false, zeroS.cells⟩ := by rw [hsf.keep.2 _ (hL9 _ _ hz8) (by omega)]; exact hz8
                have hzl : zeroS.cells.length = 48 := by decide
                simp only [go_sem, i64_wrap_id, Int.reduceAdd, Int.reduceSub, Int.reduceNeg, Int.reduceMul, Nat.reduceSub, Nat.reduceEqDiff, Nat.reduceAdd, Nat.reduceMul, Nat.reduceLeDiff, ↓reduceIte, reduceCtorEq, Int.reduceToNat, Int.reduceLT, Int.reduceLE, Int.reduceEq, g2, hzf, hzl, ↓ow_all]
                refine hQ _ _ _ ?_
                rw [k_body_ret]
                have hcf : cellsOf (Sf.set S.next ⟨false, zeroS.cells⟩) S.next 0 48 = some zeroS.cells := StyAt.of_blk (ro := false) (by rw [St.blk_set, if_pos rfl]) (styK_ok false 0 (by omega))
                change retQ _ (Sf.set S.next ⟨false, zeroS.cells⟩) _
                refine Eq.mpr (congrArg (retQ _ _) (show _ = some [.agg zeroS.cells.toArray] from ?_)) ?_
                · simp only [aF40, resVals, resVal, Env.get_put, ↓reduceIte, Nat.reduceEqDiff, reduceCtorEq, g2, ldv_true, Option.map_some, Option.bind_some]
                  exact congrArg (fun o => (Option.map (fun cs : List Value => Value.agg cs.toArray) o).bind fun v => some [v]) hcf
                rw [retQ_some]
                exact .inr ⟨fun hg => (by have := hg.2.1; rw [hpos] at this; omega), rfl, _, hIf.keeps hLf ((Keeps.refl Sf fun q => q ≠ S.next).set (fun q _ hq => hq) _) (by omega) (fun d hd => by simp [Value.blkOf] at hd), ⟨(hk8.trans hsf.keep fun _ _ hp => hp).set (fun q hq _ => by omega) _, fun d hd => by simp [Value.blkOf] at hd⟩⟩
              · simp only [go_sem, i64_wrap_id, Int.reduceAdd, Int.reduceSub, Int.reduceNeg, Int.reduceMul, Nat.reduceSub, Nat.reduceEqDiff, Nat.reduceAdd, Nat.reduceMul, Nat.reduceLeDiff, ↓reduceIte, reduceCtorEq, Int.reduceToNat, Int.reduceLT, Int.reduceLE, Int.reduceEq, g3, g4, h64, hc8]
                refine cK_of (formed20 _ hok S9) ?_
                rintro ra Sa hSa hLa ⟨⟨c, rfl, hc⟩, hKa⟩
                have hIa : IsIn Sa i x7 (pT5 (xs, bad)).1 (pT5 (xs, bad)).2 := hI8.keeps hL8 hKa trivial fun _ _ => trivial
                have hza : Sa.blk S.next = some ⟨false, zeroS.cells⟩ := by rw [hKa.2 _ (hL8 _ _ hz8) trivial]; exact hz8
                have hba : Sa.blk S1.next = some ⟨false, (pSty (xs, bad)).cells⟩ := by rw [hKa.2 _ (hL8 _ _ hb8) trivial]; exact hb8
                have hka : Keeps S Sa fun j => j ≠ i := hk8.trans hKa fun _ _ _ => trivial
                cases c
                · simp only [go_sem, i64_wrap_id, Int.reduceAdd, Int.reduceSub, Int.reduceNeg, Int.reduceMul, Nat.reduceSub, Nat.reduceEqDiff, Nat.reduceAdd, Nat.reduceMul, Nat.reduceLeDiff, ↓reduceIte, reduceCtorEq, Int.reduceToNat, Int.reduceLT, Int.reduceLE, Int.reduceEq, g0]
                  refine cK_of (fail_any i x7 _ _ Sa hIa) ?_
                  rintro rf Sf hSf hLf ⟨rfl, hIf, hsf⟩
                  have hzf : Sf.blk S.next = some ⟨false, zeroS.cells⟩ := by rw [hsf.keep.2 _ (hLa _ _ hza) (by omega)]; exact hza
                  have hzl : zeroS.cells.length = 48 := by decide
                  simp only [go_sem, i64_wrap_id, Int.reduceAdd, Int.reduceSub, Int.reduceNeg, Int.reduceMul, Nat.reduceSub, Nat.reduceEqDiff, Nat.reduceAdd, Nat.reduceMul, Nat.reduceLeDiff, ↓reduceIte, reduceCtorEq, Int.reduceToNat, Int.reduceLT, Int.reduceLE, Int.reduceEq, g2, hzf, hzl, ↓ow_all]
                  refine hQ _ _ _ ?_
                  rw [k_body_ret]
                  have hcf : cellsOf (Sf.set S.next ⟨false, zeroS.cells⟩) S.next 0 48 = some zeroS.cells := StyAt.of_blk (ro := false) (by rw [St.blk_set, if_pos rfl]) (styK_ok false 0 (by omega))
                  change retQ _ (Sf.set S.next ⟨false, zeroS.cells⟩) _
                  refine Eq.mpr (congrArg (retQ _ _) (show _ = some [.agg zeroS.cells.toArray] from ?_)) ?_
                  · simp only [aF40, resVals, resVal, Env.get_put, ↓reduceIte, Nat.reduceEqDiff, reduceCtorEq, g2, ldv_true, Option.map_some, Option.bind_some]
                    exact congrArg (fun o => (Option.map (fun cs : List Value => Value.agg cs.toArray) o).bind fun v => some [v]) hcf
                  rw [retQ_some]
                  exact .inr ⟨fun hg => (by have := hc.2 hg.2.2; cases this), rfl, _, hIf.keeps hLf ((Keeps.refl Sf fun q => q ≠ S.next).set (fun q _ hq => hq) _) (by omega) (fun d hd => by simp [Value.blkOf] at hd), ⟨(hka.trans hsf.keep fun _ _ hp => hp).set (fun q hq _ => by omega) _, fun d hd => by simp [Value.blkOf] at hd⟩⟩
                · have hca : cellsOf Sa S1.next 0 48 = some (pSty (xs, bad)).cells := StyAt.of_blk hba hok
                  have hzl : zeroS.cells.length = 48 := by decide
                  have hpl48 := hok.len
                  have how := ow_all (pSty (xs, bad)).cells zeroS.cells (by rw [hpl48, hzl])
                  simp only [go_sem, i64_wrap_id, Int.reduceAdd, Int.reduceSub, Int.reduceNeg, Int.reduceMul, Nat.reduceSub, Nat.reduceEqDiff, Nat.reduceAdd, Nat.reduceMul, Nat.reduceLeDiff, ↓reduceIte, reduceCtorEq, Int.reduceToNat, Int.reduceLT, Int.reduceLE, Int.reduceEq, g2, g4, hca, hza, hzl, hpl48, how]
                  refine hQ _ _ _ ?_
                  rw [k_body_ret]
                  have hcf : cellsOf (Sa.set S.next ⟨false, (pSty (xs, bad)).cells⟩) S.next 0 48 = some (pSty (xs, bad)).cells := StyAt.of_blk (ro := false) (by rw [St.blk_set, if_pos rfl]) hok
                  simp only [aF40, resVals, resVal, Env.get_put, ↓reduceIte, Nat.reduceEqDiff, reduceCtorEq, g2, ldv_true, hcf, Option.map_some, Option.bind_some]
                  rw [retQ_some]
                  rw [hbad] at hIa
                  exact .inl ⟨⟨hbad, by rw [hpos]; omega, hc.1 rfl⟩, rfl, _, hIa.keeps hLa ((Keeps.refl Sa fun q => q ≠ S.next).set (fun q _ hq => hq) _) (by omega) (fun d hd => by have := hxd d (hd7 d hd); omega), ⟨hka.set (fun q hq _ => by omega) _, hd7⟩⟩
            · simp only [go_sem, i64_wrap_id, Int.reduceAdd, Int.reduceSub, Int.reduceNeg, Int.reduceMul, Nat.reduceSub, Nat.reduceEqDiff, Nat.reduceAdd, Nat.reduceMul, Nat.reduceLeDiff, ↓reduceIte, reduceCtorEq, Int.reduceToNat, Int.reduceLT, Int.reduceLE, Int.reduceEq, g3]
              simp only [go_sem, i64_wrap_id, Int.reduceAdd, Int.reduceSub, Int.reduceNeg, Int.reduceMul, Nat.reduceSub, Nat.reduceEqDiff, Nat.reduceAdd, Nat.reduceMul, Nat.reduceLeDiff, ↓reduceIte, reduceCtorEq, Int.reduceToNat, Int.reduceLT, Int.reduceLE, Int.reduceEq, g0]
              refine cK_of (fail_any i x7 _ _ S9 hI8) ?_
              rintro rf Sf hSf hLf ⟨rfl, hIf, hsf⟩
              have hzf : Sf.blk S.next = some ⟨false, zeroS.cells⟩ := by rw [hsf.keep.2 _ (hL9 _ _ hz8) (by omega)]; exact hz8
              have hzl : zeroS.cells.length = 48 := by decide
              simp only [go_sem, i64_wrap_id, Int.reduceAdd, Int.reduceSub, Int.reduceNeg, Int.reduceMul, Nat.reduceSub, Nat.reduceEqDiff, Nat.reduceAdd, Nat.reduceMul, Nat.reduceLeDiff, ↓reduceIte, reduceCtorEq, Int.reduceToNat, Int.reduceLT, Int.reduceLE, Int.reduceEq, g2, hzf, hzl, ↓ow_all]
              refine hQ _ _ _ ?_
              rw [k_body_ret]
              have hcf : cellsOf (Sf.set S.next ⟨false, zeroS.cells⟩) S.next 0 48 = some zeroS.cells := StyAt.of_blk (ro := false) (by rw [St.blk_set, if_pos rfl]) (styK_ok false 0 (by omega))
              change retQ _ (Sf.set S.next ⟨false, zeroS.cells⟩) _
              refine Eq.mpr (congrArg (retQ _ _) (show _ = some [.agg zeroS.cells.toArray] from ?_)) ?_
              · simp only [aF40, resVals, resVal, Env.get_put, ↓reduceIte, Nat.reduceEqDiff, reduceCtorEq, g2, ldv_true, Option.map_some, Option.bind_some]
                exact congrArg (fun o => (Option.map (fun cs : List Value => Value.agg cs.toArray) o).bind fun v => some [v]) hcf
              rw [retQ_some]
              exact .inr ⟨fun hg => (by have := hg.1; rw [hbad] at this; cases this), rfl, _, hIf.keeps hLf ((Keeps.refl Sf fun q => q ≠ S.next).set (fun q _ hq => hq) _) (by omega) (fun d hd => by simp [Value.blkOf] at hd), ⟨(hk8.trans hsf.keep fun _ _ hp => hp).set (fun q hq _ => by omega) _, fun d hd => by simp [Value.blkOf] at hd⟩⟩
        · have hlt : ((k : Int) < 4) := by omega
          have hk0 : (0 : Int) ≤ k := by omega
          have hk1 : IntKind.i64.wrap ((k : Int) + 1) = k + 1 := wrap64_id (by omega) (by omega)
          simp only [go_sem, i64_wrap_id, Int.reduceAdd, Int.reduceSub, Int.reduceNeg, Int.reduceMul, Nat.reduceSub, Nat.reduceEqDiff, Nat.reduceAdd, Nat.reduceMul, Nat.reduceLeDiff, ↓reduceIte, reduceCtorEq, Int.reduceToNat, Int.reduceLT, Int.reduceLE, Int.reduceEq, f0, f4, f50, hlt, show (((4 : Nat) : Int)) = 4 from rfl]
          refine cK_of (inEight i x4 _ _ S4 hI4) ?_
          rintro r5 S5 hS5 hL5 ⟨rfl, x5, hI5, hs5⟩
          obtain ⟨B, hB⟩ : ∃ B, B = (pInts k (pT1 (xs, bad))).1 := ⟨_, rfl⟩
          obtain ⟨t, ht⟩ : ∃ t, t = (pInts k (pT1 (xs, bad))).2 := ⟨_, rfl⟩
          have hBl : B.length = k := by rw [hB]; exact pInts_length _ _
          have hsucc : (pInts (k + 1) (pT1 (xs, bad))).1 = B ++ [(pEight t).1] ∧ (pInts (k + 1) (pT1 (xs, bad))).2 = (pEight t).2 := by rw [hB, ht]; exact ⟨rfl, rfl⟩
          rw [← ht] at hI5
          rw [← ht]
          have hrep : List.replicate (4 - k) (0 : Int) = 0 :: List.replicate (3 - k) 0 := by rw [show 4 - k = (3 - k) + 1 by omega, List.replicate_succ]
          rw [← hB, hrep] at hb4
          have hBlen : (B ++ (0 : Int) :: List.replicate (3 - k) 0).length = 4 := by simp [hBl]; omega
          have hb5 : S5.blk S1.next = some ⟨false, (styOf n L (B ++ 0 :: List.replicate (3 - k) 0) 0 0 0).cells⟩ := by rw [hs5.keep.2 _ (hL4 _ _ hb4) (by omega)]; exact hb4
          have hz5 : S5.blk S.next = some ⟨false, zeroS.cells⟩ := by rw [hs5.keep.2 _ (hL4 _ _ hz4) (by omega)]; exact hz4
          have hd5 : ∀ d, Value.blkOf x5 = some d → Value.blkOf x = some d := fun d hd => hd4 d (hs5.data d hd)
          have hk5 : Keeps S S5 fun j => j ≠ i := hk4.trans hs5.keep fun _ _ hp => hp
          have hlen : (styOf n L (B ++ 0 :: List.replicate (3 - k) 0) 0 0 0).cells.length = 48 := by simp [Sty.cells, styOf, lenCells_length, hLl, hBl]; omega
          have hset : ∀ v : Int, (styOf n L (B ++ 0 :: List.replicate (3 - k) 0) 0 0 0).cells.set (38 + k) (.int .i64 v) = (styOf n L (B ++ v :: List.replicate (3 - k) 0) 0 0 0).cells := by
            intro v
            rw [cells_set_border _ hLl k (by show k < (B ++ (0 : Int) :: List.replicate (3 - k) 0).length; omega)]
            show Sty.cells { (styOf n L (B ++ 0 :: List.replicate (3 - k) 0) 0 0 0) with border := (B ++ (0 : Int) :: List.replicate (3 - k) 0).set k v } = _
            rw [List.set_append, if_neg (by omega), hBl, Nat.sub_self]
            rfl
          simp only [go_sem, i64_wrap_id, Int.reduceAdd, Int.reduceSub, Int.reduceNeg, Int.reduceMul, Nat.reduceSub, Nat.reduceEqDiff, Nat.reduceAdd, Nat.reduceMul, Nat.reduceLeDiff, ↓reduceIte, reduceCtorEq, Int.reduceToNat, Int.reduceLT, Int.reduceLE, Int.reduceEq, f0, f4, f50, hk0, hlt, Int.toNat_natCast, Nat.mul_one, hb5, hlen, hset, hk1, show 38 + k + 1 ≤ 48 by omega, show 38 + k ≤ 47 by omega, show (((4 : Nat) : Int)) = 4 from rfl]
          refine hN2 _ _ ⟨k + 1, x5, by omega, ?_, ?_, ?_, ?_, ?_, ?_, ?_, ?_, hd5, ?_⟩ ?_
          · simp only [go_sem, i64_wrap_id, Int.reduceAdd, Int.reduceSub, Int.reduceNeg, Int.reduceMul, Nat.reduceSub, Nat.reduceEqDiff, Nat.reduceAdd, Nat.reduceMul, Nat.reduceLeDiff, ↓reduceIte, reduceCtorEq, Int.reduceToNat, Int.reduceLT, Int.reduceLE, Int.reduceEq, f0]
          · simp only [go_sem, i64_wrap_id, Int.reduceAdd, Int.reduceSub, Int.reduceNeg, Int.reduceMul, Nat.reduceSub, Nat.reduceEqDiff, Nat.reduceAdd, Nat.reduceMul, Nat.reduceLeDiff, ↓reduceIte, reduceCtorEq, Int.reduceToNat, Int.reduceLT, Int.reduceLE, Int.reduceEq, f2]
          · simp only [go_sem, i64_wrap_id, Int.reduceAdd, Int.reduceSub, Int.reduceNeg, Int.reduceMul, Nat.reduceSub, Nat.reduceEqDiff, Nat.reduceAdd, Nat.reduceMul, Nat.reduceLeDiff, ↓reduceIte, reduceCtorEq, Int.reduceToNat, Int.reduceLT, Int.reduceLE, Int.reduceEq, f3]
          · simp only [go_sem, i64_wrap_id, Int.reduceAdd, Int.reduceSub, Int.reduceNeg, Int.reduceMul, Nat.reduceSub, Nat.reduceEqDiff, Nat.reduceAdd, Nat.reduceMul, Nat.reduceLeDiff, ↓reduceIte, reduceCtorEq, Int.reduceToNat, Int.reduceLT, Int.reduceLE, Int.reduceEq, f4]
          · simp only [go_sem, i64_wrap_id, Int.reduceAdd, Int.reduceSub, Int.reduceNeg, Int.reduceMul, Nat.reduceSub, Nat.reduceEqDiff, Nat.reduceAdd, Nat.reduceMul, Nat.reduceLeDiff, ↓reduceIte, reduceCtorEq, Int.reduceToNat, Int.reduceLT, Int.reduceLE, Int.reduceEq]; congr 1
          · rw [St.blk_set, if_neg (by omega)]; exact hz5
          · rw [St.blk_set, if_pos rfl, hsucc.1, show 4 - (k + 1) = 3 - k by omega, List.append_assoc]
            rfl
          · rw [hsucc.2]
            exact hI5.keeps hL5 ((Keeps.refl S5 fun q => q ≠ S1.next).set (fun q _ hq => hq) _) (by omega) fun d hd => by have := hxd d (hd5 d hd); omega
          · exact hk5.set (fun q hq _ => by omega) _
          · simp only [go_sem, i64_wrap_id, Int.reduceAdd, Int.reduceSub, Int.reduceNeg, Int.reduceMul, Nat.reduceSub, Nat.reduceEqDiff, Nat.reduceAdd, Nat.reduceMul, Nat.reduceLeDiff, ↓reduceIte, reduceCtorEq, Int.reduceToNat, Int.reduceLT, Int.reduceLE, Int.reduceEq, f50, RowKit.intOf]
            omega
    · have hlt : ((j : Int) < 18) := by omega
      have hj0 : (0 : Int) ≤ j := by omega
      have hj1 : IntKind.i64.wrap ((j : Int) + 1) = j + 1 := wrap64_id (by omega) (by omega)
      have hp := ptrs_rd (v := r2) hp3 j (by omega)
      simp only [go_sem, i64_wrap_id, Int.reduceAdd, Int.reduceSub, Int.reduceNeg, Int.reduceMul, Nat.reduceSub, Nat.reduceEqDiff, Nat.reduceAdd, Nat.reduceMul, Nat.reduceLeDiff, ↓reduceIte, reduceCtorEq, Int.reduceToNat, Int.reduceLT, Int.reduceLE, Int.reduceEq, g0, g2, g3, g4, g27, g28, g29, hlt, hr2, hj0, Int.toNat_natCast, Nat.mul_one, hp, show (((18 : Nat) : Int)) = 18 from rfl]
      refine cK_of (inByte i xi _ _ S3 hI3) ?_
      rintro r4 S4 hS4 hL4 ⟨rfl, x4, hI4, hs4⟩
      obtain ⟨A, hA⟩ : ∃ A, A = (pLens j (pT0 (xs, bad))).1 := ⟨_, rfl⟩
      obtain ⟨t, ht⟩ : ∃ t, t = (pLens j (pT0 (xs, bad))).2 := ⟨_, rfl⟩
      have hAl : A.length = j := by rw [hA]; exact hpl j
      rw [← ht] at hI3 hI4
      rw [← hA] at hb3
      have hsucc : (pLens (j + 1) (pT0 (xs, bad))).1 = A ++ [(pLen t).1] ∧ (pLens (j + 1) (pT0 (xs, bad))).2 = (pLen t).2 := by rw [hA, ht]; exact ⟨rfl, rfl⟩
      have hzl : zl (18 - j) = (0, 0) :: zl (17 - j) := by
        unfold zl
        rw [show 18 - j = (17 - j) + 1 by omega, List.replicate_succ]
      rw [hzl] at hb3
      obtain ⟨k, hk⟩ : ∃ k, k = (takeN 1 t.1 t.2).1 := ⟨_, rfl⟩
      have hk8 := takeN_bound (n := 1) (bad := t.2) hI3.byt
      rw [← hk] at hk8
      have hkw : IntKind.i64.wrap k = k := wrap64_id (by omega) (by omega)
      have hLlen : (A ++ (0, 0) :: zl (17 - j)).length = 18 := by simp [hAl, zl]; omega
      have hlen : ∀ L : List (Int × Int), L.length = 18 → (styOf n L [0, 0, 0, 0] 0 0 0).cells.length = 48 := fun L hL => by
        simp [Sty.cells, styOf, lenCells_length, hL]
      have hb4 : S4.blk S1.next = some ⟨false, (styOf n (A ++ (0, 0) :: zl (17 - j)) [0, 0, 0, 0] 0 0 0).cells⟩ := by
        rw [hs4.keep.2 _ (hL3 _ _ hb3) (by omega)]; exact hb3
      have hz4 : S4.blk S.next = some ⟨false, zeroS.cells⟩ := by rw [hs4.keep.2 _ (hL3 _ _ hz3) (by omega)]; exact hz3
      have hp4 : S4.blk dp = some ⟨false, ptrs S1.next 2 18⟩ := by rw [hs4.keep.2 _ (hL3 _ _ hp3) (by omega)]; exact hp3
      have hk4 : Keeps S S4 fun j => j ≠ i := hk3.trans hs4.keep fun _ _ hp => hp
      have hd4 : ∀ d, Value.blkOf x4 = some d → Value.blkOf x = some d := fun d hd => hd3 d (hs4.data d hd)
      have hget : ((styOf n (A ++ (0, 0) :: zl (17 - j)) [0, 0, 0, 0] 0 0 0).cells.set (2 + j * 2) (.int .i64 k))[2 + j * 2]? = some (.int .i64 k) := by
        rw [List.getElem?_set, if_pos rfl, if_pos (by rw [hlen _ hLlen]; omega)]
      have hkind : (styOf n (A ++ (0, 0) :: zl (17 - j)) [0, 0, 0, 0] 0 0 0).cells.set (2 + j * 2) (.int .i64 k) = (styOf n (A ++ (k, 0) :: zl (17 - j)) [0, 0, 0, 0] 0 0 0).cells := by
        rw [cells_set_kind _ j (by show j < (A ++ (0, 0) :: zl (17 - j)).length; omega)]
        have e : (styOf n (A ++ (0, 0) :: zl (17 - j)) [0, 0, 0, 0] 0 0 0).lens.set j (k, ((styOf n (A ++ (0, 0) :: zl (17 - j)) [0, 0, 0, 0] 0 0 0).lens[j]'(by show j < (A ++ (0, 0) :: zl (17 - j)).length; omega)).2) = A ++ (k, 0) :: zl (17 - j) := by
          show (A ++ (0, 0) :: zl (17 - j)).set j (k, ((A ++ (0, 0) :: zl (17 - j))[j]'(by omega)).2) = _
          have e2 : ((A ++ (0, 0) :: zl (17 - j))[j]'(by omega)) = (0, 0) := by
            rw [List.getElem_append_right (by omega)]; simp [hAl]
          rw [e2, List.set_append, if_neg (by omega), hAl, Nat.sub_self]
          rfl
        rw [e]
        rfl
      rw [← ht, ← hk]
      simp only [go_sem, i64_wrap_id, Int.reduceAdd, Int.reduceSub, Int.reduceNeg, Int.reduceMul, Nat.reduceSub, Nat.reduceEqDiff, Nat.reduceAdd, Nat.reduceMul, Nat.reduceLeDiff, ↓reduceIte, reduceCtorEq, Int.reduceToNat, Int.reduceLT, Int.reduceLE, Int.reduceEq, g0, g2, g3, g4, g27, g28, g29, hkw, hb4, hlen _ hLlen, show 2 + j * 2 + 1 ≤ 48 by omega, hget, show 2 + j * 2 ≤ 47 by omega]
      have next : ∀ (t' : Env) (S' : St) (x' : Value), t' 0 = ptr i → t' 2 = ptr S.next → t' 3 = .int .i64 n → t' 4 = ptr S1.next → t' 27 = r2 → t' 28 = .int .i64 18 → t' 29 = .int .i64 ((j : Int) + 1) →
          S'.blk S.next = some ⟨false, zeroS.cells⟩ → S'.blk S1.next = some ⟨false, (styOf n (A ++ (pLen t).1 :: zl (17 - j)) [0, 0, 0, 0] 0 0 0).cells⟩ → S'.blk dp = some ⟨false, ptrs S1.next 2 18⟩ →
          IsIn S' i x' (pLen t).2.1 (pLen t).2.2 → (∀ d, Value.blkOf x' = some d → Value.blkOf x = some d) → Keeps S S' (fun j => j ≠ i) → Q1 .normal t' S' := by
        intro t' S' x' f0 f2 f3 f4 f27 f28 f29 q1 q2 q3 q4 q5 q6
        refine hN _ _ ⟨j + 1, x', by omega, f0, f2, f3, f4, f27, f28, f29, q1, ?_, q3, ?_, q5, q6⟩ ?_
        · rw [hsucc.1, show 18 - (j + 1) = 17 - j by omega, List.append_assoc]
          exact q2
        · rw [hsucc.2]; exact q4
        · rw [f29, g29]
          simp [RowKit.intOf]
          omega
      rw [hkind]
      by_cases hk0 : k = 0
      · have hpl0 : pLen t = ((0, 0), (takeN 1 t.1 t.2).2) := by
          unfold pLen pByte
          rw [← hk, if_pos hk0]
        subst hk0
        simp only [go_sem, i64_wrap_id, Int.reduceAdd, Int.reduceSub, Int.reduceNeg, Int.reduceMul, Nat.reduceSub, Nat.reduceEqDiff, Nat.reduceAdd, Nat.reduceMul, Nat.reduceLeDiff, ↓reduceIte, reduceCtorEq, Int.reduceToNat, Int.reduceLT, Int.reduceLE, Int.reduceEq, g29, hj1]
        refine next _ _ x4 ?_ ?_ ?_ ?_ ?_ ?_ ?_ ?_ ?_ ?_ ?_ hd4 ?_
        · simp only [go_sem, i64_wrap_id, Int.reduceAdd, Int.reduceSub, Int.reduceNeg, Int.reduceMul, Nat.reduceSub, Nat.reduceEqDiff, Nat.reduceAdd, Nat.reduceMul, Nat.reduceLeDiff, ↓reduceIte, reduceCtorEq, Int.reduceToNat, Int.reduceLT, Int.reduceLE, Int.reduceEq, g0]
        · simp only [go_sem, i64_wrap_id, Int.reduceAdd, Int.reduceSub, Int.reduceNeg, Int.reduceMul, Nat.reduceSub, Nat.reduceEqDiff, Nat.reduceAdd, Nat.reduceMul, Nat.reduceLeDiff, ↓reduceIte, reduceCtorEq, Int.reduceToNat, Int.reduceLT, Int.reduceLE, Int.reduceEq, g2]
        · simp only [go_sem, i64_wrap_id, Int.reduceAdd, Int.reduceSub, Int.reduceNeg, Int.reduceMul, Nat.reduceSub, Nat.reduceEqDiff, Nat.reduceAdd, Nat.reduceMul, Nat.reduceLeDiff, ↓reduceIte, reduceCtorEq, Int.reduceToNat, Int.reduceLT, Int.reduceLE, Int.reduceEq, g3]
        · simp only [go_sem, i64_wrap_id, Int.reduceAdd, Int.reduceSub, Int.reduceNeg, Int.reduceMul, Nat.reduceSub, Nat.reduceEqDiff, Nat.reduceAdd, Nat.reduceMul, Nat.reduceLeDiff, ↓reduceIte, reduceCtorEq, Int.reduceToNat, Int.reduceLT, Int.reduceLE, Int.reduceEq, g4]
        · simp only [go_sem, i64_wrap_id, Int.reduceAdd, Int.reduceSub, Int.reduceNeg, Int.reduceMul, Nat.reduceSub, Nat.reduceEqDiff, Nat.reduceAdd, Nat.reduceMul, Nat.reduceLeDiff, ↓reduceIte, reduceCtorEq, Int.reduceToNat, Int.reduceLT, Int.reduceLE, Int.reduceEq, g27]
          try exact hr2
        · simp only [go_sem, i64_wrap_id, Int.reduceAdd, Int.reduceSub, Int.reduceNeg, Int.reduceMul, Nat.reduceSub, Nat.reduceEqDiff, Nat.reduceAdd, Nat.reduceMul, Nat.reduceLeDiff, ↓reduceIte, reduceCtorEq, Int.reduceToNat, Int.reduceLT, Int.reduceLE, Int.reduceEq, g28]
        · simp only [go_sem, i64_wrap_id, Int.reduceAdd, Int.reduceSub, Int.reduceNeg, Int.reduceMul, Nat.reduceSub, Nat.reduceEqDiff, Nat.reduceAdd, Nat.reduceMul, Nat.reduceLeDiff, ↓reduceIte, reduceCtorEq, Int.reduceToNat, Int.reduceLT, Int.reduceLE, Int.reduceEq]
        · rw [St.blk_set, if_neg (by omega)]; exact hz4
        · rw [St.blk_set, if_pos rfl, hpl0]
        · rw [St.blk_set, if_neg (by omega)]; exact hp4
        · rw [hpl0]
          exact hI4.keeps hL4 ((Keeps.refl S4 fun q => q ≠ S1.next).set (fun q _ hq => hq) _) (by omega) fun d hd => by have := hxd d (hd4 d hd); omega
        · exact hk4.set (fun q hq _ => by omega) _
      · have hb5' : (k != 0) = true := by simpa using hk0
        have hpl1 : pLen t = ((k, s64 (takeN 8 (takeN 1 t.1 t.2).2.1 (takeN 1 t.1 t.2).2.2).1), (takeN 8 (takeN 1 t.1 t.2).2.1 (takeN 1 t.1 t.2).2.2).2) := by
          unfold pLen pEight pByte
          rw [← hk, if_neg hk0]
        have hI4' : IsIn (S4.set S1.next ⟨false, (styOf n (A ++ (k, 0) :: zl (17 - j)) [0, 0, 0, 0] 0 0 0).cells⟩) i x4 (takeN 1 t.1 t.2).2.1 (takeN 1 t.1 t.2).2.2 :=
          hI4.keeps hL4 ((Keeps.refl S4 fun q => q ≠ S1.next).set (fun q _ hq => hq) _) (by omega) fun d hd => by have := hxd d (hd4 d hd); omega
        simp only [go_sem, i64_wrap_id, Int.reduceAdd, Int.reduceSub, Int.reduceNeg, Int.reduceMul, Nat.reduceSub, Nat.reduceEqDiff, Nat.reduceAdd, Nat.reduceMul, Nat.reduceLeDiff, ↓reduceIte, reduceCtorEq, Int.reduceToNat, Int.reduceLT, Int.reduceLE, Int.reduceEq, g0, hb5']
        refine cK_of (inEight i x4 _ _ _ hI4') ?_
        rintro r5 S5 hS5 hL5 ⟨rfl, x5, hI5, hs5⟩
        have hL2len : (A ++ (k, 0) :: zl (17 - j)).length = 18 := by simp [hAl, zl]; omega
        have hb5 : S5.blk S1.next = some ⟨false, (styOf n (A ++ (k, 0) :: zl (17 - j)) [0, 0, 0, 0] 0 0 0).cells⟩ := by
          rw [hs5.keep.2 _ (by rw [St.next_set]; exact hL4 _ _ hb4) (by omega), St.blk_set, if_pos rfl]
        have hz5 : S5.blk S.next = some ⟨false, zeroS.cells⟩ := by rw [hs5.keep.2 _ (by rw [St.next_set]; exact hL4 _ _ hz4) (by omega), St.blk_set, if_neg (by omega)]; exact hz4
        have hp5 : S5.blk dp = some ⟨false, ptrs S1.next 2 18⟩ := by rw [hs5.keep.2 _ (by rw [St.next_set]; exact hL4 _ _ hp4) (by omega), St.blk_set, if_neg (by omega)]; exact hp4
        have hd5 : ∀ d, Value.blkOf x5 = some d → Value.blkOf x = some d := fun d hd => hd4 d (hs5.data d hd)
        have hk5 : Keeps S S5 fun j => j ≠ i := (hk4.set (fun q hq _ => by omega) _).trans hs5.keep fun _ _ hp => hp
        have hnum : ∀ v : Int, (styOf n (A ++ (k, 0) :: zl (17 - j)) [0, 0, 0, 0] 0 0 0).cells.set (2 + j * 2 + 1) (.int .i64 v) = (styOf n (A ++ (k, v) :: zl (17 - j)) [0, 0, 0, 0] 0 0 0).cells := by
          intro v
          have e := cells_set_len (styOf n (A ++ (k, 0) :: zl (17 - j)) [0, 0, 0, 0] 0 0 0) j (by show j < (A ++ (k, 0) :: zl (17 - j)).length; omega) k v
          have e3 : (styOf n (A ++ (k, 0) :: zl (17 - j)) [0, 0, 0, 0] 0 0 0).cells.set (2 + j * 2) (.int .i64 k) = (styOf n (A ++ (k, 0) :: zl (17 - j)) [0, 0, 0, 0] 0 0 0).cells := by
            rw [← hkind, List.set_set]
          rw [e3] at e
          rw [e]
          have e4 : (A ++ (k, 0) :: zl (17 - j)).set j (k, v) = A ++ (k, v) :: zl (17 - j) := by
            rw [List.set_append, if_neg (by omega), hAl, Nat.sub_self]
            rfl
          show Sty.cells { (styOf n (A ++ (k, 0) :: zl (17 - j)) [0, 0, 0, 0] 0 0 0) with lens := (A ++ (k, 0) :: zl (17 - j)).set j (k, v) } = _
          rw [e4]
          rfl
        simp only [go_sem, i64_wrap_id, Int.reduceAdd, Int.reduceSub, Int.reduceNeg, Int.reduceMul, Nat.reduceSub, Nat.reduceEqDiff, Nat.reduceAdd, Nat.reduceMul, Nat.reduceLeDiff, ↓reduceIte, reduceCtorEq, Int.reduceToNat, Int.reduceLT, Int.reduceLE, Int.reduceEq, g29, hj1, hb5, hlen _ hL2len, show 2 + j * 2 + 1 + 1 ≤ 48 by omega, show 2 + j * 2 + 1 ≤ 47 by omega, show 2 + j * 2 ≤ 46 by omega, hnum]
        refine next _ _ x5 ?_ ?_ ?_ ?_ ?_ ?_ ?_ ?_ ?_ ?_ ?_ hd5 ?_
        · simp only [go_sem, i64_wrap_id, Int.reduceAdd, Int.reduceSub, Int.reduceNeg, Int.reduceMul, Nat.reduceSub, Nat.reduceEqDiff, Nat.reduceAdd, Nat.reduceMul, Nat.reduceLeDiff, ↓reduceIte, reduceCtorEq, Int.reduceToNat, Int.reduceLT, Int.reduceLE, Int.reduceEq, g0]
        · simp only [go_sem, i64_wrap_id, Int.reduceAdd, Int.reduceSub, Int.reduceNeg, Int.reduceMul, Nat.reduceSub, Nat.reduceEqDiff, Nat.reduceAdd, Nat.reduceMul, Nat.reduceLeDiff, ↓reduceIte, reduceCtorEq, Int.reduceToNat, Int.reduceLT, Int.reduceLE, Int.reduceEq, g2]
        · simp only [go_sem, i64_wrap_id, Int.reduceAdd, Int.reduceSub, Int.reduceNeg, Int.reduceMul, Nat.reduceSub, Nat.reduceEqDiff, Nat.reduceAdd, Nat.reduceMul, Nat.reduceLeDiff, ↓reduceIte, reduceCtorEq, Int.reduceToNat, Int.reduceLT, Int.reduceLE, Int.reduceEq, g3]
        · simp only [go_sem, i64_wrap_id, Int.reduceAdd, Int.reduceSub, Int.reduceNeg, Int.reduceMul, Nat.reduceSub, Nat.reduceEqDiff, Nat.reduceAdd, Nat.reduceMul, Nat.reduceLeDiff, ↓reduceIte, reduceCtorEq, Int.reduceToNat, Int.reduceLT, Int.reduceLE, Int.reduceEq, g4]
        · simp only [go_sem, i64_wrap_id, Int.reduceAdd, Int.reduceSub, Int.reduceNeg, Int.reduceMul, Nat.reduceSub, Nat.reduceEqDiff, Nat.reduceAdd, Nat.reduceMul, Nat.reduceLeDiff, ↓reduceIte, reduceCtorEq, Int.reduceToNat, Int.reduceLT, Int.reduceLE, Int.reduceEq, g27]
          try exact hr2
        · simp only [go_sem, i64_wrap_id, Int.reduceAdd, Int.reduceSub, Int.reduceNeg, Int.reduceMul, Nat.reduceSub, Nat.reduceEqDiff, Nat.reduceAdd, Nat.reduceMul, Nat.reduceLeDiff, ↓reduceIte, reduceCtorEq, Int.reduceToNat, Int.reduceLT, Int.reduceLE, Int.reduceEq, g28]
        · simp only [go_sem, i64_wrap_id, Int.reduceAdd, Int.reduceSub, Int.reduceNeg, Int.reduceMul, Nat.reduceSub, Nat.reduceEqDiff, Nat.reduceAdd, Nat.reduceMul, Nat.reduceLeDiff, ↓reduceIte, reduceCtorEq, Int.reduceToNat, Int.reduceLT, Int.reduceLE, Int.reduceEq]
        · rw [St.blk_set, if_neg (by omega)]; exact hz5
        · rw [St.blk_set, if_pos rfl, hpl1]
        · rw [St.blk_set, if_neg (by omega)]; exact hp5
        · rw [hpl1]
          exact hI5.keeps hL5 ((Keeps.refl S5 fun q => q ≠ S1.next).set (fun q _ hq => hq) _) (by omega) fun d hd => by have := hxd d (hd5 d hd); omega
        · exact hk5.set (fun q hq _ => by omega) _
end Go.Proofs.Ytbgnaeagdneikaa
