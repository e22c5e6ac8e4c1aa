/- The document's answer for the scroll, and what a program that does nothing answers wrongly. -/
import Derived.Test.YtbgnaeagdneikaaS3
namespace Go.Proofs.Ytbgnaeagdneikaa
open Go Go.Proofs.Ytbgnaeagdneikaa.Abs
set_option linter.unusedSimpArgs false
set_option linter.unusedVariables false

theorem awake05 (S : St) : ACalls Try.prog 24 [] S fun r S' => r = .bool true ∧ KeepsAll S S' := by
  refine ACalls.run hmix Try.func24 cF24 kF24 rfl fun hL Q hQ => ?_
  simp only [go_sem, i64_wrap_id, Int.reduceAdd, Int.reduceSub, Int.reduceNeg, Int.reduceMul, Nat.reduceSub, Nat.reduceEqDiff, Nat.reduceAdd, Nat.reduceMul, Nat.reduceLeDiff, ↓reduceIte, reduceCtorEq, Int.reduceToNat, Int.reduceLT, Int.reduceLE, Int.reduceEq, aF24]
  have hk0 := Keeps.of_new S ⟨false, [.slice none 0 0]⟩ fun _ => True
  refine cK_of (outFour S.next (.slice none 0 0) [] 258 _ ⟨by simp [St.blk_new], .inl ⟨rfl, rfl, rfl⟩, by simp [Value.blkOf]⟩ (by omega) (by omega) (by simp)) ?_
  rintro r1 S1 hS1 hL1 ⟨rfl, d1, o1, s1⟩
  have hk1 : KeepsAll S S1 := hk0.trans s1.keep (fun i hi _ => ⟨by omega, by simp [Value.blkOf]⟩)
  simp only [go_sem, i64_wrap_id, Int.reduceAdd, Int.reduceSub, Int.reduceNeg, Int.reduceMul, Nat.reduceSub, Nat.reduceEqDiff, Nat.reduceAdd, Nat.reduceMul, Nat.reduceLeDiff, ↓reduceIte, reduceCtorEq, Int.reduceToNat, Int.reduceLT, Int.reduceLE, Int.reduceEq]
  refine cK_of (outBytes S.next d1 _ S1 o1 (by simp [be])) ?_
  rintro r2 S2 hS2 hL2 ⟨o2, k2, f2⟩
  have hk2 : KeepsAll S S2 := hk1.trans k2 (fun i hi _ => trivial)
  simp only [go_sem, i64_wrap_id, Int.reduceAdd, Int.reduceSub, Int.reduceNeg, Int.reduceMul, Nat.reduceSub, Nat.reduceEqDiff, Nat.reduceAdd, Nat.reduceMul, Nat.reduceLeDiff, ↓reduceIte, reduceCtorEq, Int.reduceToNat, Int.reduceLT, Int.reduceLE, Int.reduceEq]
  refine cK_of (newIn r2 _ S2 o2.sl (by simp [be, Byt]) (by simp [be])) ?_
  rintro r3 S3 hS3 hL3 ⟨i, x, rfl, hi, k3, hi3, f3⟩
  have hk3 : KeepsAll S S3 := hk2.trans k3 (fun i hi _ => trivial)
  simp only [go_sem, i64_wrap_id, Int.reduceAdd, Int.reduceSub, Int.reduceNeg, Int.reduceMul, Nat.reduceSub, Nat.reduceEqDiff, Nat.reduceAdd, Nat.reduceMul, Nat.reduceLeDiff, ↓reduceIte, reduceCtorEq, Int.reduceToNat, Int.reduceLT, Int.reduceLE, Int.reduceEq]
  refine cK_of (inFour i x _ _ S3 hi) ?_
  rintro r4 S4 hS4 hL4 ⟨rfl, x4, h4, s4⟩
  have hk4 : KeepsAll S S4 := hk3.trans s4.keep (fun j hj _ e => by have := hk2.1; omega)
  have ht : takeN 4 (List.append [] (be 258 4)) false = (258, [], false) := by decide
  simp only [List.nil_append] at h4
  have ht : takeN 4 (be 258 4) false = (258, [], false) := by decide
  rw [ht] at h4
  simp only [go_sem, i64_wrap_id, Int.reduceAdd, Int.reduceSub, Int.reduceNeg, Int.reduceMul, Nat.reduceSub, Nat.reduceEqDiff, Nat.reduceAdd, Nat.reduceMul, Nat.reduceLeDiff, ↓reduceIte, reduceCtorEq, Int.reduceToNat, Int.reduceLT, Int.reduceLE, Int.reduceEq, ht]
  refine cK_of (inDone i x4 [] false S4 h4) ?_
  rintro r5 S5 hS5 hL5 ⟨rfl, rfl⟩
  simp only [go_sem, i64_wrap_id, Int.reduceAdd, Int.reduceSub, Int.reduceNeg, Int.reduceMul, Nat.reduceSub, Nat.reduceEqDiff, Nat.reduceAdd, Nat.reduceMul, Nat.reduceLeDiff, ↓reduceIte, reduceCtorEq, Int.reduceToNat, Int.reduceLT, Int.reduceLE, Int.reduceEq]
  refine hQ _ _ _ ?_; (first | rw [k_body_ret] | rw [k_body_normal]); simp only [resVals, resVal, ev, Env.get_put, ↓reduceIte, Nat.reduceEqDiff, Option.bind_some, Option.map_some, reduceCtorEq, ldv_true, ldv_false, lloadV_agg, partL, List.toList_toArray, cellsOf_set, cellsOf_new, rd_set, rd_new, List.length_cons, List.length_nil, Nat.reduceAdd, Nat.reduceLeDiff, Nat.le_refl, List.take_succ_cons, List.take_zero, List.drop_zero, Nat.add_eq_left, Nat.left_eq_add, List.getElem?_cons_zero, List.getElem?_cons_succ, aF24]; rw [retQ_some]; simp only [oneOr]
  exact ⟨by simp, hk4⟩

def TakePost (S : St) (x : Value) (t : Int × List Int × Bool) (r : Value) (S' : St) : Prop :=
  ∃ x', r = .tuple #[.int .u64 t.1, .agg #[x', .bool t.2.2]] ∧ Bs S' x' t.2.1 ∧ KeepsAll S S' ∧ ∀ d, Value.blkOf x' = some d → Value.blkOf x = some d

theorem refTake (x : Value) (xs : List Int) (bad : Bool) (n : Nat) (S : St) (h : Bs S x xs) (hx : Byt xs) (hn1 : 1 ≤ n) (hn : n ≤ 8) :
    ACalls Try.prog 35 [.agg #[x, .bool bad], .int .i64 n] S (TakePost S x (takeN n xs bad)) := by
  refine ACalls.run hmix Try.func35 cF35 kF35 rfl fun hL Q hQ => ?_
  obtain ⟨a, e, hxv⟩ := h.slice
  by_cases hb : bad = true ∨ xs.length < n
  · have ht : takeN n xs bad = (0, [], true) := by simp [takeN, hb]
    rw [ht] at hQ
    cases bad with
    | true =>
      simp only [go_sem, i64_wrap_id, Int.reduceAdd, Int.reduceSub, Int.reduceNeg, Int.reduceMul, Nat.reduceSub, Nat.reduceEqDiff, Nat.reduceAdd, Nat.reduceMul, Nat.reduceLeDiff, ↓reduceIte, reduceCtorEq, Int.reduceToNat, Int.reduceLT, Int.reduceLE, Int.reduceEq, aF35, hxv]
      refine hQ _ _ _ ?_; (first | rw [k_body_ret] | rw [k_body_normal]); simp only [resVals, resVal, ev, Env.get_put, ↓reduceIte, Nat.reduceEqDiff, Option.bind_some, Option.map_some, reduceCtorEq, ldv_true, ldv_false, lloadV_agg, partL, List.toList_toArray, cellsOf_set, cellsOf_new, rd_set, rd_new, List.length_cons, List.length_nil, Nat.reduceAdd, Nat.reduceLeDiff, Nat.le_refl, List.take_succ_cons, List.take_zero, List.drop_zero, Nat.add_eq_left, Nat.left_eq_add, List.getElem?_cons_zero, List.getElem?_cons_succ, aF35]; rw [retQ_some]; simp only [oneOr]
      exact ⟨_, rfl, .inl ⟨rfl, rfl, rfl⟩, ((Keeps.of_new _ _ _).new _).set (fun j hj _ => by omega) _, fun d hd => by simp [Value.blkOf] at hd⟩
    | false =>
      have hl : (xs.length : Int) < n := by rcases hb with hb | hb; cases hb; omega
      simp only [go_sem, i64_wrap_id, Int.reduceAdd, Int.reduceSub, Int.reduceNeg, Int.reduceMul, Nat.reduceSub, Nat.reduceEqDiff, Nat.reduceAdd, Nat.reduceMul, Nat.reduceLeDiff, ↓reduceIte, reduceCtorEq, Int.reduceToNat, Int.reduceLT, Int.reduceLE, Int.reduceEq, aF35, hxv, hl]
      refine hQ _ _ _ ?_; (first | rw [k_body_ret] | rw [k_body_normal]); simp only [resVals, resVal, ev, Env.get_put, ↓reduceIte, Nat.reduceEqDiff, Option.bind_some, Option.map_some, reduceCtorEq, ldv_true, ldv_false, lloadV_agg, partL, List.toList_toArray, cellsOf_set, cellsOf_new, rd_set, rd_new, List.length_cons, List.length_nil, Nat.reduceAdd, Nat.reduceLeDiff, Nat.le_refl, List.take_succ_cons, List.take_zero, List.drop_zero, Nat.add_eq_left, Nat.left_eq_add, List.getElem?_cons_zero, List.getElem?_cons_succ, aF35]; rw [retQ_some]; simp only [oneOr]
      exact ⟨_, rfl, .inl ⟨rfl, rfl, rfl⟩, ((Keeps.of_new _ _ _).new _).set (fun j hj _ => by omega) _, fun d hd => by simp [Value.blkOf] at hd⟩
  · have ht : takeN n xs bad = (num (xs.take n), xs.drop n, false) := by simp only [takeN, if_neg hb]
    rw [ht] at hQ
    simp only [not_or, Bool.not_eq_true, Nat.not_lt] at hb
    obtain ⟨rfl, hl⟩ := hb
    have hl' : ¬ ((xs.length : Int) < n) := by omega
    rcases h with ⟨rfl, h0, hcs⟩ | ⟨d, o, e, rfl, he, hc⟩
    · omega
    · have hd : d < S.next := by
        obtain ⟨b, hb, _⟩ := cellsOf_some hc
        exact hL _ _ hb
      simp only [go_sem, i64_wrap_id, Int.reduceAdd, Int.reduceSub, Int.reduceNeg, Int.reduceMul, Nat.reduceSub, Nat.reduceEqDiff, Nat.reduceAdd, Nat.reduceMul, Nat.reduceLeDiff, ↓reduceIte, reduceCtorEq, Int.reduceToNat, Int.reduceLT, Int.reduceLE, Int.reduceEq, aF35, hl']
      refine lK_of (fun t' S' => S' = (S.new ⟨false, [.slice (some ⟨d, o, none⟩) xs.length e, .bool false]⟩).new ⟨false, [.slice none 0 0, .bool false]⟩ ∧ ∃ k : Nat, k ≤ n ∧ t' 1 = .int .i64 n ∧ t' 2 = ptr S.next ∧ t' 5 = ptr (S.next + 1) ∧ t' 18 = .int .i64 n ∧ t' 19 = .int .i64 k ∧ t' 6 = .int .u64 (num (xs.take k)))
        (fun t' _ => (n - RowKit.intOf (t' 19)).toNat) ?_ ?_
      · refine ⟨rfl, 0, ?_, ?_, ?_, ?_, ?_, ?_, ?_⟩
        · omega
        · simp only [go_sem, i64_wrap_id, Int.reduceAdd, Int.reduceSub, Int.reduceNeg, Int.reduceMul, Nat.reduceSub, Nat.reduceEqDiff, Nat.reduceAdd, Nat.reduceMul, Nat.reduceLeDiff, ↓reduceIte, reduceCtorEq, Int.reduceToNat, Int.reduceLT, Int.reduceLE, Int.reduceEq]
        · simp only [go_sem, i64_wrap_id, Int.reduceAdd, Int.reduceSub, Int.reduceNeg, Int.reduceMul, Nat.reduceSub, Nat.reduceEqDiff, Nat.reduceAdd, Nat.reduceMul, Nat.reduceLeDiff, ↓reduceIte, reduceCtorEq, Int.reduceToNat, Int.reduceLT, Int.reduceLE, Int.reduceEq]
        · simp only [go_sem, i64_wrap_id, Int.reduceAdd, Int.reduceSub, Int.reduceNeg, Int.reduceMul, Nat.reduceSub, Nat.reduceEqDiff, Nat.reduceAdd, Nat.reduceMul, Nat.reduceLeDiff, ↓reduceIte, reduceCtorEq, Int.reduceToNat, Int.reduceLT, Int.reduceLE, Int.reduceEq]
        · simp only [go_sem, i64_wrap_id, Int.reduceAdd, Int.reduceSub, Int.reduceNeg, Int.reduceMul, Nat.reduceSub, Nat.reduceEqDiff, Nat.reduceAdd, Nat.reduceMul, Nat.reduceLeDiff, ↓reduceIte, reduceCtorEq, Int.reduceToNat, Int.reduceLT, Int.reduceLE, Int.reduceEq]
        · simp only [go_sem, i64_wrap_id, Int.reduceAdd, Int.reduceSub, Int.reduceNeg, Int.reduceMul, Nat.reduceSub, Nat.reduceEqDiff, Nat.reduceAdd, Nat.reduceMul, Nat.reduceLeDiff, ↓reduceIte, reduceCtorEq, Int.reduceToNat, Int.reduceLT, Int.reduceLE, Int.reduceEq]; rfl
        · simp only [go_sem, i64_wrap_id, Int.reduceAdd, Int.reduceSub, Int.reduceNeg, Int.reduceMul, Nat.reduceSub, Nat.reduceEqDiff, Nat.reduceAdd, Nat.reduceMul, Nat.reduceLeDiff, ↓reduceIte, reduceCtorEq, Int.reduceToNat, Int.reduceLT, Int.reduceLE, Int.reduceEq]; simp [num]
      · rintro t1 S1 Q1 ⟨rfl, k, hk, h1, h2, h5, h18, h19, h6⟩ hL1 hN hE
        by_cases hkn : k = n
        · subst hkn
          have : ¬ ((k : Int) < k) := by omega
          simp only [go_sem, i64_wrap_id, Int.reduceAdd, Int.reduceSub, Int.reduceNeg, Int.reduceMul, Nat.reduceSub, Nat.reduceEqDiff, Nat.reduceAdd, Nat.reduceMul, Nat.reduceLeDiff, ↓reduceIte, reduceCtorEq, Int.reduceToNat, Int.reduceLT, Int.reduceLE, Int.reduceEq, h19, h18, this]
          refine hE _ _ _ (by simp) ?_
          have hbd : (0 : Int) ≤ k := by omega
          simp only [go_sem, i64_wrap_id, Int.reduceAdd, Int.reduceSub, Int.reduceNeg, Int.reduceMul, Nat.reduceSub, Nat.reduceEqDiff, Nat.reduceAdd, Nat.reduceMul, Nat.reduceLeDiff, ↓reduceIte, reduceCtorEq, Int.reduceToNat, Int.reduceLT, Int.reduceLE, Int.reduceEq, h6, h1, h2, h5, hbd, Int.toNat_natCast, hl, he, Nat.mul_one]
          refine hQ _ _ _ ?_; (first | rw [k_body_ret] | rw [k_body_normal]); simp only [resVals, resVal, ev, Env.get_put, ↓reduceIte, Nat.reduceEqDiff, Option.bind_some, Option.map_some, reduceCtorEq, ldv_true, ldv_false, lloadV_agg, partL, List.toList_toArray, cellsOf_set, cellsOf_new, rd_set, rd_new, List.length_cons, List.length_nil, Nat.reduceAdd, Nat.reduceLeDiff, Nat.le_refl, List.take_succ_cons, List.take_zero, List.drop_zero, Nat.add_eq_left, Nat.left_eq_add, List.getElem?_cons_zero, List.getElem?_cons_succ, aF35, h5]; rw [retQ_some]; simp only [oneOr]
          refine ⟨_, rfl, .inr ⟨d, o + k, e, by simp, he, ?_⟩, ((Keeps.of_new _ _ _).new _).set (fun j hj _ => by omega) _, fun d hd => by simpa [Value.blkOf] using hd⟩
          rw [cellsOf_set, if_neg (by omega), cellsOf_new, if_neg (by simp [St.next_new]; omega), cellsOf_new, if_neg (by omega), List.length_drop]
          have := cellsOf_of_cells hc (j := k) (n := xs.length - k) (by omega)
          simp only [Nat.mul_one]
          rw [this]
          simp [bytesV]
          rw [List.take_of_length_le (by simp)]
        · have hlt : ((k : Int) < n) := by omega
          have hcell : rd S d (o + k) = some (.int .u8 xs[k]) := by
            rw [rd_of_cells hc (by omega), bytesV_get, List.getElem?_eq_getElem (by omega)]
            rfl
          have hxk := hx xs[k] (List.getElem_mem _)
          have hnk := num_bound xs hx k (by omega)
          have h7 := num_lt7 xs hx k (by omega) (by omega)
          have hk0 : (0 : Int) ≤ k := by omega
          have hk1 : IntKind.i64.wrap ((k : Int) + 1) = k + 1 := wrap64_id (by omega) (by omega)
          have hkl : (k : Int) < xs.length := by omega
          have hw1 : IntKind.u64.wrap (num (xs.take k) * 256) = num (xs.take k) * 256 := by rw [wrap64u]; omega
          have hw2 : IntKind.u64.wrap (num (xs.take k) * 256 + xs[k]) = num (xs.take k) * 256 + xs[k] := by rw [wrap64u]; omega
          simp only [go_sem, i64_wrap_id, Int.reduceAdd, Int.reduceSub, Int.reduceNeg, Int.reduceMul, Nat.reduceSub, Nat.reduceEqDiff, Nat.reduceAdd, Nat.reduceMul, Nat.reduceLeDiff, ↓reduceIte, reduceCtorEq, Int.reduceToNat, Int.reduceLT, Int.reduceLE, Int.reduceEq, h1, h2, h5, h18, h19, h6, hlt, hkl, hk0, Int.toNat_natCast, Nat.mul_one, hcell, conv64 hxk.1 hxk.2, hk1, hw1, hw2, show d ≠ S.next by omega, show d ≠ S.next + 1 by omega]
          refine hN _ _ ⟨rfl, k + 1, ?_, ?_, ?_, ?_, ?_, ?_, ?_⟩ ?_
          · omega
          · simp only [go_sem, i64_wrap_id, Int.reduceAdd, Int.reduceSub, Int.reduceNeg, Int.reduceMul, Nat.reduceSub, Nat.reduceEqDiff, Nat.reduceAdd, Nat.reduceMul, Nat.reduceLeDiff, ↓reduceIte, reduceCtorEq, Int.reduceToNat, Int.reduceLT, Int.reduceLE, Int.reduceEq, h1]
          · simp only [go_sem, i64_wrap_id, Int.reduceAdd, Int.reduceSub, Int.reduceNeg, Int.reduceMul, Nat.reduceSub, Nat.reduceEqDiff, Nat.reduceAdd, Nat.reduceMul, Nat.reduceLeDiff, ↓reduceIte, reduceCtorEq, Int.reduceToNat, Int.reduceLT, Int.reduceLE, Int.reduceEq, h2]
          · simp only [go_sem, i64_wrap_id, Int.reduceAdd, Int.reduceSub, Int.reduceNeg, Int.reduceMul, Nat.reduceSub, Nat.reduceEqDiff, Nat.reduceAdd, Nat.reduceMul, Nat.reduceLeDiff, ↓reduceIte, reduceCtorEq, Int.reduceToNat, Int.reduceLT, Int.reduceLE, Int.reduceEq, h5]
          · simp only [go_sem, i64_wrap_id, Int.reduceAdd, Int.reduceSub, Int.reduceNeg, Int.reduceMul, Nat.reduceSub, Nat.reduceEqDiff, Nat.reduceAdd, Nat.reduceMul, Nat.reduceLeDiff, ↓reduceIte, reduceCtorEq, Int.reduceToNat, Int.reduceLT, Int.reduceLE, Int.reduceEq, h18]
          · simp only [go_sem, i64_wrap_id, Int.reduceAdd, Int.reduceSub, Int.reduceNeg, Int.reduceMul, Nat.reduceSub, Nat.reduceEqDiff, Nat.reduceAdd, Nat.reduceMul, Nat.reduceLeDiff, ↓reduceIte, reduceCtorEq, Int.reduceToNat, Int.reduceLT, Int.reduceLE, Int.reduceEq]; congr 1
          · simp only [go_sem, i64_wrap_id, Int.reduceAdd, Int.reduceSub, Int.reduceNeg, Int.reduceMul, Nat.reduceSub, Nat.reduceEqDiff, Nat.reduceAdd, Nat.reduceMul, Nat.reduceLeDiff, ↓reduceIte, reduceCtorEq, Int.reduceToNat, Int.reduceLT, Int.reduceLE, Int.reduceEq]; rw [num_take_succ xs k (by omega)]
          · simp only [go_sem, i64_wrap_id, Int.reduceAdd, Int.reduceSub, Int.reduceNeg, Int.reduceMul, Nat.reduceSub, Nat.reduceEqDiff, Nat.reduceAdd, Nat.reduceMul, Nat.reduceLeDiff, ↓reduceIte, reduceCtorEq, Int.reduceToNat, Int.reduceLT, Int.reduceLE, Int.reduceEq, h19, RowKit.intOf]
            omega

theorem refEight (x : Value) (xs : List Int) (bad : Bool) (S : St) (h : Bs S x xs) (hx : Byt xs) :
    ACalls Try.prog 74 [.agg #[x, .bool bad]] S fun r S' => ∃ x', r = .tuple #[.int .i64 (s64 (takeN 8 xs bad).1), .agg #[x', .bool (takeN 8 xs bad).2.2]] ∧ Bs S' x' (takeN 8 xs bad).2.1 ∧ KeepsAll S S' ∧ ∀ d, Value.blkOf x' = some d → Value.blkOf x = some d := by
  refine ACalls.run hmix Try.func74 cF74 kF74 rfl fun hL Q hQ => ?_
  obtain ⟨a, e, hxv⟩ := h.slice
  have hk0 : KeepsAll S ((S.new ⟨false, [x, .bool bad]⟩).new ⟨false, [.slice none 0 0, .bool false]⟩) := (Keeps.of_new _ _ _).new _
  have hS0 : Bs ((S.new ⟨false, [x, .bool bad]⟩).new ⟨false, [.slice none 0 0, .bool false]⟩) x xs := Sl.keeps hL h hk0 fun _ _ => trivial
  simp only [go_sem, i64_wrap_id, Int.reduceAdd, Int.reduceSub, Int.reduceNeg, Int.reduceMul, Nat.reduceSub, Nat.reduceEqDiff, Nat.reduceAdd, Nat.reduceMul, Nat.reduceLeDiff, ↓reduceIte, reduceCtorEq, Int.reduceToNat, Int.reduceLT, Int.reduceLE, Int.reduceEq, aF74]
  refine cK_of (refTake x xs bad 8 _ hS0 hx (by omega) (by omega)) ?_
  rintro r S' hS hL' ⟨x', rfl, h2, h3, h4⟩
  have hb1 : S'.blk (S.next + 1) = some ⟨false, [.slice none 0 0, .bool false]⟩ := by rw [h3.2 _ (by simp [St.next_new]) trivial]; simp [St.blk_new, St.next_new]
  have hS' : S.next + 1 < S'.next := hL' _ _ hb1
  simp only [go_sem, i64_wrap_id, Int.reduceAdd, Int.reduceSub, Int.reduceNeg, Int.reduceMul, Nat.reduceSub, Nat.reduceEqDiff, Nat.reduceAdd, Nat.reduceMul, Nat.reduceLeDiff, ↓reduceIte, reduceCtorEq, Int.reduceToNat, Int.reduceLT, Int.reduceLE, Int.reduceEq, hb1, List.getElem?_toArray, Nat.ne_of_lt hS']
  refine hQ _ _ _ ?_; (first | rw [k_body_ret] | rw [k_body_normal]); simp only [resVals, resVal, ev, Env.get_put, ↓reduceIte, Nat.reduceEqDiff, Option.bind_some, Option.map_some, reduceCtorEq, ldv_true, ldv_false, lloadV_agg, partL, List.toList_toArray, cellsOf_set, cellsOf_new, rd_set, rd_new, List.length_cons, List.length_nil, Nat.reduceAdd, Nat.reduceLeDiff, Nat.le_refl, List.take_succ_cons, List.take_zero, List.drop_zero, Nat.add_eq_left, Nat.left_eq_add, List.getElem?_cons_zero, List.getElem?_cons_succ, aF74, hb1, Nat.ne_of_lt hS']; rw [retQ_some]; simp only [oneOr]
  refine ⟨x', rfl, Sl.keep h2 fun d hd => ?_, ?_, h4⟩
  · have hd' := h.lt hL (h4 d hd)
    have e1 : d ≠ S.next + 1 := by omega
    have e2 : d ≠ S'.next := by omega
    simp [St.blk_set, St.blk_new, e1, e2]
  · refine (((hk0.trans h3 (fun _ _ _ => trivial)).new _).set (fun j hj _ => by omega) _).set (fun j hj _ => by omega) _

def pieceBytes (kind n : Int) : List Int := if kind = 0 then [n % 256] else if kind = 1 then be (n % 4294967296) 4 else be (n % 18446744073709551616) 8

theorem refPiece (kind n : Int) (S : St) : ACalls Try.prog 28 [.agg #[.int .u8 kind, .int .i64 n]] S fun r S' => OwnBs S' r (pieceBytes kind n) ∧ KeepsAll S S' ∧ Fresh S r := by
  refine ACalls.run hmix Try.func28 cF28 kF28 rfl fun hL Q hQ => ?_
  have hk0 : KeepsAll S (S.new ⟨false, [.int .u8 kind, .int .i64 n]⟩) := Keeps.of_new _ _ _
  by_cases h0 : kind = 0
  · subst h0
    simp only [go_sem, i64_wrap_id, Int.reduceAdd, Int.reduceSub, Int.reduceNeg, Int.reduceMul, Nat.reduceSub, Nat.reduceEqDiff, Nat.reduceAdd, Nat.reduceMul, Nat.reduceLeDiff, ↓reduceIte, reduceCtorEq, Int.reduceToNat, Int.reduceLT, Int.reduceLE, Int.reduceEq, aF28, wrap8]
    refine hQ _ _ _ ?_; (first | rw [k_body_ret] | rw [k_body_normal]); simp only [resVals, resVal, ev, Env.get_put, ↓reduceIte, Nat.reduceEqDiff, Option.bind_some, Option.map_some, reduceCtorEq, ldv_true, ldv_false, lloadV_agg, partL, List.toList_toArray, cellsOf_set, cellsOf_new, rd_set, rd_new, List.length_cons, List.length_nil, Nat.reduceAdd, Nat.reduceLeDiff, Nat.le_refl, List.take_succ_cons, List.take_zero, List.drop_zero, Nat.add_eq_left, Nat.left_eq_add, List.getElem?_cons_zero, List.getElem?_cons_succ, aF28]; rw [retQ_some]; simp only [oneOr]
    refine ⟨.inr ⟨_, rfl, by simp [St.blk_new, St.next_new, bytesV, pieceBytes], by simp [bytesV, pieceBytes]⟩, hk0.new _, fun d hd => ?_⟩
    simp [Value.blkOf] at hd
    omega
  · by_cases h1 : kind = 1
    · subst h1
      simp only [go_sem, i64_wrap_id, Int.reduceAdd, Int.reduceSub, Int.reduceNeg, Int.reduceMul, Nat.reduceSub, Nat.reduceEqDiff, Nat.reduceAdd, Nat.reduceMul, Nat.reduceLeDiff, ↓reduceIte, reduceCtorEq, Int.reduceToNat, Int.reduceLT, Int.reduceLE, Int.reduceEq, aF28, wrap32u, Int.reduceBEq]
      rw [show IntKind.u64.wrap (n % 4294967296) = n % 4294967296 by rw [wrap64u]; omega]
      refine cK_of (number 4 _ _ (by omega) (by omega) (by omega)) ?_
      rintro r S' hS hL' ⟨h2, h3, h4⟩
      simp only [go_sem, i64_wrap_id, Int.reduceAdd, Int.reduceSub, Int.reduceNeg, Int.reduceMul, Nat.reduceSub, Nat.reduceEqDiff, Nat.reduceAdd, Nat.reduceMul, Nat.reduceLeDiff, ↓reduceIte, reduceCtorEq, Int.reduceToNat, Int.reduceLT, Int.reduceLE, Int.reduceEq]
      refine hQ _ _ _ ?_; (first | rw [k_body_ret] | rw [k_body_normal]); simp only [resVals, resVal, ev, Env.get_put, ↓reduceIte, Nat.reduceEqDiff, Option.bind_some, Option.map_some, reduceCtorEq, ldv_true, ldv_false, lloadV_agg, partL, List.toList_toArray, cellsOf_set, cellsOf_new, rd_set, rd_new, List.length_cons, List.length_nil, Nat.reduceAdd, Nat.reduceLeDiff, Nat.le_refl, List.take_succ_cons, List.take_zero, List.drop_zero, Nat.add_eq_left, Nat.left_eq_add, List.getElem?_cons_zero, List.getElem?_cons_succ, aF28]; rw [retQ_some]; simp only [oneOr]
      exact ⟨by simpa [pieceBytes] using h2, hk0.trans h3 (fun _ _ _ => trivial), fun d hd => by have := h4 d hd; simp [St.next_new] at this; omega⟩
    · simp only [go_sem, i64_wrap_id, Int.reduceAdd, Int.reduceSub, Int.reduceNeg, Int.reduceMul, Nat.reduceSub, Nat.reduceEqDiff, Nat.reduceAdd, Nat.reduceMul, Nat.reduceLeDiff, ↓reduceIte, reduceCtorEq, Int.reduceToNat, Int.reduceLT, Int.reduceLE, Int.reduceEq, aF28, wrap64u, show (kind == 0) = false by simpa using h0, show (kind == 1) = false by simpa using h1]
      refine cK_of (number 8 _ _ (by omega) (by omega) (by omega)) ?_
      rintro r S' hS hL' ⟨h2, h3, h4⟩
      simp only [go_sem, i64_wrap_id, Int.reduceAdd, Int.reduceSub, Int.reduceNeg, Int.reduceMul, Nat.reduceSub, Nat.reduceEqDiff, Nat.reduceAdd, Nat.reduceMul, Nat.reduceLeDiff, ↓reduceIte, reduceCtorEq, Int.reduceToNat, Int.reduceLT, Int.reduceLE, Int.reduceEq]
      refine hQ _ _ _ ?_; (first | rw [k_body_ret] | rw [k_body_normal]); simp only [resVals, resVal, ev, Env.get_put, ↓reduceIte, Nat.reduceEqDiff, Option.bind_some, Option.map_some, reduceCtorEq, ldv_true, ldv_false, lloadV_agg, partL, List.toList_toArray, cellsOf_set, cellsOf_new, rd_set, rd_new, List.length_cons, List.length_nil, Nat.reduceAdd, Nat.reduceLeDiff, Nat.le_refl, List.take_succ_cons, List.take_zero, List.drop_zero, Nat.add_eq_left, Nat.left_eq_add, List.getElem?_cons_zero, List.getElem?_cons_succ, aF28]; rw [retQ_some]; simp only [oneOr]
      exact ⟨by simpa [h0, h1, pieceBytes] using h2, hk0.trans h3 (fun _ _ _ => trivial), fun d hd => by have := h4 d hd; simp [St.next_new] at this; omega⟩

/-- Nil ones take nothing. -/
theorem scrollNil (n : Int) (S : St) : ACalls Try.prog 7 [.int .i64 n] S fun r S' => r = .bool true := by
  refine ACalls.run hmix Try.func7 cF7 kF7 rfl fun hL Q hQ => ?_
  simp only [go_sem, i64_wrap_id, Int.reduceAdd, Int.reduceSub, Int.reduceNeg, Int.reduceMul, Nat.reduceSub, Nat.reduceEqDiff, Nat.reduceAdd, Nat.reduceMul, Nat.reduceLeDiff, ↓reduceIte, reduceCtorEq, Int.reduceToNat, Int.reduceLT, Int.reduceLE, Int.reduceEq, aF7]
  refine cK_of (outEight_nil n S) ?_
  rintro r1 S1 hS1 hL1 ⟨rfl, rfl⟩
  simp only [go_sem, i64_wrap_id, Int.reduceAdd, Int.reduceSub, Int.reduceNeg, Int.reduceMul, Nat.reduceSub, Nat.reduceEqDiff, Nat.reduceAdd, Nat.reduceMul, Nat.reduceLeDiff, ↓reduceIte, reduceCtorEq, Int.reduceToNat, Int.reduceLT, Int.reduceLE, Int.reduceEq]
  refine cK_of (fail_nil S1) ?_
  rintro r2 S2 hS2 hL2 ⟨rfl, rfl⟩
  simp only [go_sem, i64_wrap_id, Int.reduceAdd, Int.reduceSub, Int.reduceNeg, Int.reduceMul, Nat.reduceSub, Nat.reduceEqDiff, Nat.reduceAdd, Nat.reduceMul, Nat.reduceLeDiff, ↓reduceIte, reduceCtorEq, Int.reduceToNat, Int.reduceLT, Int.reduceLE, Int.reduceEq]
  refine cK_of (awake05 S2) ?_
  rintro r3 S3 hS3 hL3 ⟨rfl, hk⟩
  simp only [go_sem, i64_wrap_id, Int.reduceAdd, Int.reduceSub, Int.reduceNeg, Int.reduceMul, Nat.reduceSub, Nat.reduceEqDiff, Nat.reduceAdd, Nat.reduceMul, Nat.reduceLeDiff, ↓reduceIte, reduceCtorEq, Int.reduceToNat, Int.reduceLT, Int.reduceLE, Int.reduceEq]
  refine cK_of (outBytes_nil S3) ?_
  rintro r4 S4 hS4 hL4 ⟨rfl, rfl⟩
  simp only [go_sem, i64_wrap_id, Int.reduceAdd, Int.reduceSub, Int.reduceNeg, Int.reduceMul, Nat.reduceSub, Nat.reduceEqDiff, Nat.reduceAdd, Nat.reduceMul, Nat.reduceLeDiff, ↓reduceIte, reduceCtorEq, Int.reduceToNat, Int.reduceLT, Int.reduceLE, Int.reduceEq]
  refine cK_of (inEight_nil S4) ?_
  rintro r5 S5 hS5 hL5 ⟨rfl, rfl⟩
  simp only [go_sem, i64_wrap_id, Int.reduceAdd, Int.reduceSub, Int.reduceNeg, Int.reduceMul, Nat.reduceSub, Nat.reduceEqDiff, Nat.reduceAdd, Nat.reduceMul, Nat.reduceLeDiff, ↓reduceIte, reduceCtorEq, Int.reduceToNat, Int.reduceLT, Int.reduceLE, Int.reduceEq]
  refine cK_of (inByte_nil S5) ?_
  rintro r6 S6 hS6 hL6 ⟨rfl, rfl⟩
  simp only [go_sem, i64_wrap_id, Int.reduceAdd, Int.reduceSub, Int.reduceNeg, Int.reduceMul, Nat.reduceSub, Nat.reduceEqDiff, Nat.reduceAdd, Nat.reduceMul, Nat.reduceLeDiff, ↓reduceIte, reduceCtorEq, Int.reduceToNat, Int.reduceLT, Int.reduceLE, Int.reduceEq]
  refine cK_of (inBad_nil S6) ?_
  rintro r7 S7 hS7 hL7 ⟨rfl, rfl⟩
  simp only [go_sem, i64_wrap_id, Int.reduceAdd, Int.reduceSub, Int.reduceNeg, Int.reduceMul, Nat.reduceSub, Nat.reduceEqDiff, Nat.reduceAdd, Nat.reduceMul, Nat.reduceLeDiff, ↓reduceIte, reduceCtorEq, Int.reduceToNat, Int.reduceLT, Int.reduceLE, Int.reduceEq]
  refine cK_of (inDone_nil S7) ?_
  rintro r8 S8 hS8 hL8 ⟨rfl, rfl⟩
  simp only [go_sem, i64_wrap_id, Int.reduceAdd, Int.reduceSub, Int.reduceNeg, Int.reduceMul, Nat.reduceSub, Nat.reduceEqDiff, Nat.reduceAdd, Nat.reduceMul, Nat.reduceLeDiff, ↓reduceIte, reduceCtorEq, Int.reduceToNat, Int.reduceLT, Int.reduceLE, Int.reduceEq]
  refine cK_of (inLeft_nil S8) ?_
  rintro r9 S9 hS9 hL9 ⟨rfl, rfl⟩
  simp only [go_sem, i64_wrap_id, Int.reduceAdd, Int.reduceSub, Int.reduceNeg, Int.reduceMul, Nat.reduceSub, Nat.reduceEqDiff, Nat.reduceAdd, Nat.reduceMul, Nat.reduceLeDiff, ↓reduceIte, reduceCtorEq, Int.reduceToNat, Int.reduceLT, Int.reduceLE, Int.reduceEq]
  refine hQ _ _ _ ?_; (first | rw [k_body_ret] | rw [k_body_normal]); simp only [resVals, resVal, ev, Env.get_put, ↓reduceIte, Nat.reduceEqDiff, Option.bind_some, Option.map_some, reduceCtorEq, ldv_true, ldv_false, lloadV_agg, partL, List.toList_toArray, cellsOf_set, cellsOf_new, rd_set, rd_new, List.length_cons, List.length_nil, Nat.reduceAdd, Nat.reduceLeDiff, Nat.le_refl, List.take_succ_cons, List.take_zero, List.drop_zero, Nat.add_eq_left, Nat.left_eq_add, List.getElem?_cons_zero, List.getElem?_cons_succ, aF7]; rw [retQ_some]; simp only [oneOr]

end Go.Proofs.Ytbgnaeagdneikaa
