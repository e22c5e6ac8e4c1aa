/- The statement ScrollTakes, over the abstract memory. -/
import Derived.Test.YtbgnaeagdneikaaS6
namespace Go.Proofs.Ytbgnaeagdneikaa
open Go Go.Proofs.Ytbgnaeagdneikaa.Abs
set_option linter.unusedSimpArgs false
set_option linter.unusedVariables false

structure TakeInv (S1 : St) (i w : Nat) (S' : St) (xi xw : Value) (ys : List Int) (bad : Bool) : Prop where
  isIn : IsIn S' i xi ys bad
  ref : S'.blk w = some ⟨false, [xw, .bool bad]⟩
  data : Bs S' xw ys
  inw : ∀ d, Value.blkOf xi = some d → d ≠ w
  old : ∀ d, Value.blkOf xw = some d → d < S1.next
  keep : KeepsAll S1 S'
  hi : S1.next ≤ i
  hw : S1.next ≤ w
  ne : i ≠ w

theorem TakeInv.step {S1 S2 S3 S4 : St} {i w : Nat} {xi xw xi3 xw4 : Value} {ys ys' : List Int} {bad bad' : Bool} (h : TakeInv S1 i w S2 xi xw ys bad) (hL2 : Live S2) (hL3 : Live S3)
    (hI3 : IsIn S3 i xi3 ys' bad') (hs3 : InStep S2 i xi S3 xi3) (hD4 : Bs S4 xw4 ys') (hK4 : KeepsAll S3 S4) (hx4 : ∀ d, Value.blkOf xw4 = some d → Value.blkOf xw = some d) :
    TakeInv S1 i w (S4.set w ⟨false, [xw4, .bool bad']⟩) xi3 xw4 ys' bad' := by
  have hi3 := hL3 _ _ hI3.blk
  refine ⟨⟨?_, ?_, hI3.ne, hI3.byt, hI3.nil⟩, by simp [St.blk_set], ?_, fun d hd => h.inw d (hs3.data d hd), fun d hd => h.old d (hx4 d hd), ?_, h.hi, h.hw, h.ne⟩
  · rw [St.blk_set, if_neg h.ne, hK4.2 i hi3 trivial]; exact hI3.blk
  · refine (Sl.keeps hL3 hI3.data hK4 fun _ _ => trivial).keep fun d hd => ?_
    rw [St.blk_set, if_neg (h.inw d (hs3.data d hd))]
  · refine Sl.keep hD4 fun d hd => ?_
    have h1 := h.old d (hx4 d hd)
    have h2 := h.hw
    rw [St.blk_set, if_neg (by omega)]
  · refine ((hs3.old h.keep h.hi).trans hK4 fun _ _ _ => trivial).set (fun j hj _ => ?_) _
    have := h.hw
    omega

def byteSh : List Cel := [.int .u8]
theorem bytes_ok (n : Nat) (cs : List Value) (h : RowsOk byteSh n cs) : ∃ xs : List Int, xs.length = n ∧ cs = bytesV xs ∧ Byt xs := by
  have hl : cs.length = n := by simpa [byteSh] using h.1
  have key : ∀ k, k ≤ n → ∃ xs : List Int, xs.length = k ∧ cs.take k = bytesV xs ∧ Byt xs := by
    intro k
    induction k with
    | zero => intro _; exact ⟨[], rfl, by simp [bytesV], by simp [Byt]⟩
    | succ k ih =>
      intro hk
      obtain ⟨xs, h1, h2, h3⟩ := ih (by omega)
      have := h.2 k (by omega)
      have hc : ((cs.drop (k * byteSh.length)).take byteSh.length) = [cs[k]'(by omega)] := by
        simp only [byteSh, List.length_cons, List.length_nil, Nat.zero_add, Nat.mul_one]
        rw [List.drop_eq_getElem_cons (by omega)]
        rfl
      rw [hc] at this
      obtain ⟨⟨x, hx, hw⟩, _⟩ := this
      refine ⟨xs ++ [x], by simp [h1], ?_, h3.append fun c hc => ?_⟩
      · rw [List.take_succ_eq_append_getElem (by omega), h2, hx, bytesV_append]
        rfl
      · simp at hc
        subst hc
        exact wf8 hw
  obtain ⟨xs, h1, h2, h3⟩ := key n (Nat.le_refl _)
  rw [List.take_of_length_le (by omega)] at h2
  exact ⟨xs, h1, h2, h3⟩

theorem Bs.of_rows {S : St} {x : Value} {n : Nat} {cs : List Value} (hx : Sl S 1 x n cs) (hr : RowsOk byteSh n cs) : ∃ xs : List Int, xs.length = n ∧ Bs S x xs ∧ Byt xs := by
  obtain ⟨xs, h1, rfl, h3⟩ := bytes_ok n cs hr
  subst h1
  exact ⟨xs, rfl, hx, h3⟩

theorem scrollTakes (x : Value) (n : Nat) (cs : List Value) (y : Value) (m : Nat) (ds : List Value) (S : St) (hx : Sl S 1 x n cs) (hr : RowsOk byteSh n cs) (hy : Sl S 1 y m ds) (hs : RowsOk byteSh m ds) :
    ACalls Try.prog 6 [x, y] S fun r S' => r = .bool true := by
  obtain ⟨xs, rfl, hX, hxb⟩ := Bs.of_rows hx hr
  obtain ⟨ls, rfl, hY, hlb⟩ := Bs.of_rows hy hs
  refine ACalls.run hmix Try.func6 cF6 kF6 rfl fun hL Q hQ => ?_
  obtain ⟨ax, ex, hxv⟩ := hX.slice
  obtain ⟨ay, ey, hyv⟩ := hY.slice
  simp only [go_sem, i64_wrap_id, Int.reduceAdd, Int.reduceSub, Int.reduceNeg, Int.reduceMul, Nat.reduceSub, Nat.reduceEqDiff, Nat.reduceAdd, Nat.reduceMul, Nat.reduceLeDiff, ↓reduceIte, reduceCtorEq, Int.reduceToNat, Int.reduceLT, Int.reduceLE, Int.reduceEq, aF6]
  refine cK_of (awake05 S) ?_
  rintro r1 S1 hS1 hL1 ⟨rfl, hk1⟩
  by_cases hn : xs.length ≤ 500 ∧ ls.length ≤ 60
  · obtain ⟨hn, hm⟩ := hn
    have hgt : ¬ ((xs.length : Int) > 500) := by omega
    have hgt' : ¬ ((ls.length : Int) > 60) := by omega
    have hX1 : Bs S1 x xs := Sl.keeps hL hX hk1 fun _ _ => trivial
    have hY1 : Bs S1 y ls := Sl.keeps hL hY hk1 fun _ _ => trivial
    simp only [go_sem, i64_wrap_id, Int.reduceAdd, Int.reduceSub, Int.reduceNeg, Int.reduceMul, Nat.reduceSub, Nat.reduceEqDiff, Nat.reduceAdd, Nat.reduceMul, Nat.reduceLeDiff, ↓reduceIte, reduceCtorEq, Int.reduceToNat, Int.reduceLT, Int.reduceLE, Int.reduceEq, hxv, hyv, hgt, hgt']
    rw [← hxv, ← hyv]
    refine cK_of (newIn x xs S1 hX1 hxb (by omega)) ?_
    rintro r2 S2 hS2 hL2 ⟨i, xi, rfl, hI, hK2, hi2, hF2⟩
    have hiS := hL2 _ _ hI.blk
    simp only [go_sem, i64_wrap_id, Int.reduceAdd, Int.reduceSub, Int.reduceNeg, Int.reduceMul, Nat.reduceSub, Nat.reduceEqDiff, Nat.reduceAdd, Nat.reduceMul, Nat.reduceLeDiff, ↓reduceIte, reduceCtorEq, Int.reduceToNat, Int.reduceLT, Int.reduceLE, Int.reduceEq, hxv, hyv]
    rw [← hxv, ← hyv]
    refine lK_of (fun t' S' => ∃ (k : Nat) (xi xw : Value) (ys : List Int) (bad : Bool), k ≤ ls.length ∧ t' 1 = y ∧ t' 5 = ptr i ∧ t' 6 = ptr S2.next ∧ t' 28 = .int .i64 ls.length ∧ t' 29 = .int .i64 k ∧ TakeInv S1 i S2.next S' xi xw ys bad) (fun t' _ => (ls.length - RowKit.intOf (t' 29)).toNat) ?_ ?_
    · refine ⟨0, xi, x, xs, false, by omega, ?_, ?_, ?_, ?_, ?_, ⟨⟨?_, ?_, hI.ne, hI.byt, hI.nil⟩, ?_, ?_, ?_, ?_, ?_, hi2, by omega, by omega⟩⟩
      · simp only [go_sem, i64_wrap_id, Int.reduceAdd, Int.reduceSub, Int.reduceNeg, Int.reduceMul, Nat.reduceSub, Nat.reduceEqDiff, Nat.reduceAdd, Nat.reduceMul, Nat.reduceLeDiff, ↓reduceIte, reduceCtorEq, Int.reduceToNat, Int.reduceLT, Int.reduceLE, Int.reduceEq, hyv]
      · simp only [go_sem, i64_wrap_id, Int.reduceAdd, Int.reduceSub, Int.reduceNeg, Int.reduceMul, Nat.reduceSub, Nat.reduceEqDiff, Nat.reduceAdd, Nat.reduceMul, Nat.reduceLeDiff, ↓reduceIte, reduceCtorEq, Int.reduceToNat, Int.reduceLT, Int.reduceLE, Int.reduceEq]
      · simp only [go_sem, i64_wrap_id, Int.reduceAdd, Int.reduceSub, Int.reduceNeg, Int.reduceMul, Nat.reduceSub, Nat.reduceEqDiff, Nat.reduceAdd, Nat.reduceMul, Nat.reduceLeDiff, ↓reduceIte, reduceCtorEq, Int.reduceToNat, Int.reduceLT, Int.reduceLE, Int.reduceEq]
      · simp only [go_sem, i64_wrap_id, Int.reduceAdd, Int.reduceSub, Int.reduceNeg, Int.reduceMul, Nat.reduceSub, Nat.reduceEqDiff, Nat.reduceAdd, Nat.reduceMul, Nat.reduceLeDiff, ↓reduceIte, reduceCtorEq, Int.reduceToNat, Int.reduceLT, Int.reduceLE, Int.reduceEq]
      · simp only [go_sem, i64_wrap_id, Int.reduceAdd, Int.reduceSub, Int.reduceNeg, Int.reduceMul, Nat.reduceSub, Nat.reduceEqDiff, Nat.reduceAdd, Nat.reduceMul, Nat.reduceLeDiff, ↓reduceIte, reduceCtorEq, Int.reduceToNat, Int.reduceLT, Int.reduceLE, Int.reduceEq]; rfl
      · simp [St.blk_set, St.blk_new, Nat.ne_of_lt hiS]; exact hI.blk
      · exact Sl.keep hI.data fun d hd => by
          have := hI.data.lt hL2 hd
          simp [St.blk_set, St.blk_new, Nat.ne_of_lt this]
      · simp [St.blk_set, hxv]
      · refine Sl.keep hX1 fun d hd => ?_
        have h1 := hX1.lt hL1 hd
        have h2 : d < S2.next := by omega
        simp [St.blk_set, St.blk_new, Nat.ne_of_lt h2]
        exact hK2.2 d h1 trivial
      · intro d hd
        have := hI.data.lt hL2 hd
        omega
      · intro d hd
        exact hX1.lt hL1 hd
      · exact (hK2.new _).set (fun j hj _ => by omega) _
    · clear hI hF2
      generalize S2.next = w
      rintro t1 S2 Q1 ⟨k, xi, xw, ys, bad, hk, h1, h5, h6, h28, h29, hT⟩ hL2 hN hE
      by_cases hkn : k = ls.length
      · have : ¬ ((k : Int) < ls.length) := by omega
        simp only [go_sem, i64_wrap_id, Int.reduceAdd, Int.reduceSub, Int.reduceNeg, Int.reduceMul, Nat.reduceSub, Nat.reduceEqDiff, Nat.reduceAdd, Nat.reduceMul, Nat.reduceLeDiff, ↓reduceIte, reduceCtorEq, Int.reduceToNat, Int.reduceLT, Int.reduceLE, Int.reduceEq, h28, h29, this]
        refine hE _ _ _ (by simp) ?_
        simp only [go_sem, i64_wrap_id, Int.reduceAdd, Int.reduceSub, Int.reduceNeg, Int.reduceMul, Nat.reduceSub, Nat.reduceEqDiff, Nat.reduceAdd, Nat.reduceMul, Nat.reduceLeDiff, ↓reduceIte, reduceCtorEq, Int.reduceToNat, Int.reduceLT, Int.reduceLE, Int.reduceEq]
        refine hQ _ _ _ ?_; (first | rw [k_body_ret] | rw [k_body_normal]); simp only [resVals, resVal, ev, Env.get_put, ↓reduceIte, Nat.reduceEqDiff, Option.bind_some, Option.map_some, reduceCtorEq, ldv_true, ldv_false, lloadV_agg, partL, List.toList_toArray, cellsOf_set, cellsOf_new, rd_set, rd_new, List.length_cons, List.length_nil, Nat.reduceAdd, Nat.reduceLeDiff, Nat.le_refl, List.take_succ_cons, List.take_zero, List.drop_zero, Nat.add_eq_left, Nat.left_eq_add, List.getElem?_cons_zero, List.getElem?_cons_succ, aF6]; rw [retQ_some]; simp only [oneOr]
      · have hY2 : Bs S2 y ls := Sl.keeps hL1 hY1 hT.keep fun _ _ => trivial
        obtain ⟨dx, ox, ex', hye, _, hc⟩ := hY2.ne (by omega)
        have hlt : ((k : Int) < ls.length) := by omega
        have hk0 : (0 : Int) ≤ k := by omega
        have hk1 : IntKind.i64.wrap ((k : Int) + 1) = k + 1 := wrap64_id (by omega) (by omega)
        have hdx : dx < S1.next := Sl.lt hL1 hY1 (by rw [hye]; rfl)
        have hcell : rd S2 dx (ox + k) = some (.int .u8 (ls[k]'(by omega))) := by
          rw [rd_of_cells hc (by omega), bytesV_get, List.getElem?_eq_getElem (by omega)]
          rfl
        have hb := hlb (ls[k]'(by omega)) (List.getElem_mem _)
        have hmod : (ls[k]'(by omega)).tmod 4 = ls[k]'(by omega) % 4 := Int.tmod_eq_emod_of_nonneg hb.1
        obtain ⟨hI, hw, hD, hiw', hxw, hK, hi, hwS, hiw⟩ := id hT
        simp only [go_sem, i64_wrap_id, Int.reduceAdd, Int.reduceSub, Int.reduceNeg, Int.reduceMul, Nat.reduceSub, Nat.reduceEqDiff, Nat.reduceAdd, Nat.reduceMul, Nat.reduceLeDiff, ↓reduceIte, reduceCtorEq, Int.reduceToNat, Int.reduceLT, Int.reduceLE, Int.reduceEq, h1, h5, h6, h28, h29, hlt, hye, hk0, Int.toNat_natCast, Nat.mul_one, hcell, hmod, show ¬ ((4 : Int) = 0) by omega]
        refine iK_cut (fun t2 S3 => ∃ ys' bad' xi' xw' v, Live S3 ∧ TakeInv S1 i w S3 xi' xw' ys' bad' ∧ t2 1 = y ∧ t2 5 = ptr i ∧ t2 6 = ptr w ∧ t2 28 = .int .i64 ls.length ∧ t2 29 = .int .i64 k ∧ t2 8 = .int .u64 v ∧ t2 9 = .int .u64 v) ?_ ?_
        · intro Q2 hN2 hE2
          refine iK_split (fun hz => ?_) (fun hz => ?_)
          · simp only [go_sem, i64_wrap_id, Int.reduceAdd, Int.reduceSub, Int.reduceNeg, Int.reduceMul, Nat.reduceSub, Nat.reduceEqDiff, Nat.reduceAdd, Nat.reduceMul, Nat.reduceLeDiff, ↓reduceIte, reduceCtorEq, Int.reduceToNat, Int.reduceLT, Int.reduceLE, Int.reduceEq, h1, h5, h6]
            have hbd := takeN_bound (n := 1) (bad := bad) hI.byt

            refine cK_of (inByte i xi _ _ S2 hI) ?_
            rintro r3 S3 hS3 hL3 ⟨rfl, xi3, hI3, hs3⟩
            have hw3 : S3.blk w = some ⟨false, [xw, .bool bad]⟩ := by rw [hs3.keep.2 w (hL2 _ _ hw) (fun e => hiw e.symm)]; exact hw
            have hD3 : Bs S3 xw ys := Sl.keeps hL2 hD hs3.keep fun d hd e => by have := hxw d hd; omega
            have hc3 : cellsOf S3 w 0 2 = some [xw, .bool bad] := by rw [cellsOf_of_blk hw3]; rfl
            simp only [go_sem, i64_wrap_id, Int.reduceAdd, Int.reduceSub, Int.reduceNeg, Int.reduceMul, Nat.reduceSub, Nat.reduceEqDiff, Nat.reduceAdd, Nat.reduceMul, Nat.reduceLeDiff, ↓reduceIte, reduceCtorEq, Int.reduceToNat, Int.reduceLT, Int.reduceLE, Int.reduceEq, h1, h5, h6, hc3, show IntKind.u64.wrap (takeN 1 ys bad).1 = (takeN 1 ys bad).1 by rw [wrap64u]; omega]
            refine cK_of (refTake xw ys bad 1 S3 hD3 hI.byt (by omega) (by omega)) ?_
            rintro r4 S4 hS4 hL4 ⟨xw4, rfl, hD4, hK4, hx4⟩
            have hw4 : S4.blk w = some ⟨false, [xw, .bool bad]⟩ := by rw [hK4.2 w (hL3 _ _ hw3) trivial]; exact hw3
            simp only [go_sem, i64_wrap_id, Int.reduceAdd, Int.reduceSub, Int.reduceNeg, Int.reduceMul, Nat.reduceSub, Nat.reduceEqDiff, Nat.reduceAdd, Nat.reduceMul, Nat.reduceLeDiff, ↓reduceIte, reduceCtorEq, Int.reduceToNat, Int.reduceLT, Int.reduceLE, Int.reduceEq, h1, h5, h6, hw4, List.getElem?_toArray]
            refine hN2 _ _ ⟨(takeN 1 ys bad).2.1, (takeN 1 ys bad).2.2, xi3, xw4, (takeN 1 ys bad).1, ?_, ?_, ?_, ?_, ?_, ?_, ?_, ?_, ?_⟩
            · exact hL4.set _ _ (hL4 _ _ hw4)
            · exact hT.step hL2 hL3 hI3 hs3 hD4 hK4 hx4
            · simp only [go_sem, i64_wrap_id, Int.reduceAdd, Int.reduceSub, Int.reduceNeg, Int.reduceMul, Nat.reduceSub, Nat.reduceEqDiff, Nat.reduceAdd, Nat.reduceMul, Nat.reduceLeDiff, ↓reduceIte, reduceCtorEq, Int.reduceToNat, Int.reduceLT, Int.reduceLE, Int.reduceEq, h1]
            · simp only [go_sem, i64_wrap_id, Int.reduceAdd, Int.reduceSub, Int.reduceNeg, Int.reduceMul, Nat.reduceSub, Nat.reduceEqDiff, Nat.reduceAdd, Nat.reduceMul, Nat.reduceLeDiff, ↓reduceIte, reduceCtorEq, Int.reduceToNat, Int.reduceLT, Int.reduceLE, Int.reduceEq, h5]
            · simp only [go_sem, i64_wrap_id, Int.reduceAdd, Int.reduceSub, Int.reduceNeg, Int.reduceMul, Nat.reduceSub, Nat.reduceEqDiff, Nat.reduceAdd, Nat.reduceMul, Nat.reduceLeDiff, ↓reduceIte, reduceCtorEq, Int.reduceToNat, Int.reduceLT, Int.reduceLE, Int.reduceEq, h6]
            · simp only [go_sem, i64_wrap_id, Int.reduceAdd, Int.reduceSub, Int.reduceNeg, Int.reduceMul, Nat.reduceSub, Nat.reduceEqDiff, Nat.reduceAdd, Nat.reduceMul, Nat.reduceLeDiff, ↓reduceIte, reduceCtorEq, Int.reduceToNat, Int.reduceLT, Int.reduceLE, Int.reduceEq, h28]
            · simp only [go_sem, i64_wrap_id, Int.reduceAdd, Int.reduceSub, Int.reduceNeg, Int.reduceMul, Nat.reduceSub, Nat.reduceEqDiff, Nat.reduceAdd, Nat.reduceMul, Nat.reduceLeDiff, ↓reduceIte, reduceCtorEq, Int.reduceToNat, Int.reduceLT, Int.reduceLE, Int.reduceEq, h29]
            · simp only [go_sem, i64_wrap_id, Int.reduceAdd, Int.reduceSub, Int.reduceNeg, Int.reduceMul, Nat.reduceSub, Nat.reduceEqDiff, Nat.reduceAdd, Nat.reduceMul, Nat.reduceLeDiff, ↓reduceIte, reduceCtorEq, Int.reduceToNat, Int.reduceLT, Int.reduceLE, Int.reduceEq]
            · simp only [go_sem, i64_wrap_id, Int.reduceAdd, Int.reduceSub, Int.reduceNeg, Int.reduceMul, Nat.reduceSub, Nat.reduceEqDiff, Nat.reduceAdd, Nat.reduceMul, Nat.reduceLeDiff, ↓reduceIte, reduceCtorEq, Int.reduceToNat, Int.reduceLT, Int.reduceLE, Int.reduceEq]

          · simp only [go_sem, i64_wrap_id, Int.reduceAdd, Int.reduceSub, Int.reduceNeg, Int.reduceMul, Nat.reduceSub, Nat.reduceEqDiff, Nat.reduceAdd, Nat.reduceMul, Nat.reduceLeDiff, ↓reduceIte, reduceCtorEq, Int.reduceToNat, Int.reduceLT, Int.reduceLE, Int.reduceEq]
            refine iK_split (fun hz => ?_) (fun hz => ?_)
            simp only [go_sem, i64_wrap_id, Int.reduceAdd, Int.reduceSub, Int.reduceNeg, Int.reduceMul, Nat.reduceSub, Nat.reduceEqDiff, Nat.reduceAdd, Nat.reduceMul, Nat.reduceLeDiff, ↓reduceIte, reduceCtorEq, Int.reduceToNat, Int.reduceLT, Int.reduceLE, Int.reduceEq, h1, h5, h6]
            have hbd := takeN_bound (n := 4) (bad := bad) hI.byt

            refine cK_of (inFour i xi _ _ S2 hI) ?_
            rintro r3 S3 hS3 hL3 ⟨rfl, xi3, hI3, hs3⟩
            have hw3 : S3.blk w = some ⟨false, [xw, .bool bad]⟩ := by rw [hs3.keep.2 w (hL2 _ _ hw) (fun e => hiw e.symm)]; exact hw
            have hD3 : Bs S3 xw ys := Sl.keeps hL2 hD hs3.keep fun d hd e => by have := hxw d hd; omega
            have hc3 : cellsOf S3 w 0 2 = some [xw, .bool bad] := by rw [cellsOf_of_blk hw3]; rfl
            simp only [go_sem, i64_wrap_id, Int.reduceAdd, Int.reduceSub, Int.reduceNeg, Int.reduceMul, Nat.reduceSub, Nat.reduceEqDiff, Nat.reduceAdd, Nat.reduceMul, Nat.reduceLeDiff, ↓reduceIte, reduceCtorEq, Int.reduceToNat, Int.reduceLT, Int.reduceLE, Int.reduceEq, h1, h5, h6, hc3, show IntKind.u64.wrap (takeN 4 ys bad).1 = (takeN 4 ys bad).1 by rw [wrap64u]; omega]
            refine cK_of (refTake xw ys bad 4 S3 hD3 hI.byt (by omega) (by omega)) ?_
            rintro r4 S4 hS4 hL4 ⟨xw4, rfl, hD4, hK4, hx4⟩
            have hw4 : S4.blk w = some ⟨false, [xw, .bool bad]⟩ := by rw [hK4.2 w (hL3 _ _ hw3) trivial]; exact hw3
            simp only [go_sem, i64_wrap_id, Int.reduceAdd, Int.reduceSub, Int.reduceNeg, Int.reduceMul, Nat.reduceSub, Nat.reduceEqDiff, Nat.reduceAdd, Nat.reduceMul, Nat.reduceLeDiff, ↓reduceIte, reduceCtorEq, Int.reduceToNat, Int.reduceLT, Int.reduceLE, Int.reduceEq, h1, h5, h6, hw4, List.getElem?_toArray]
            refine hN2 _ _ ⟨(takeN 4 ys bad).2.1, (takeN 4 ys bad).2.2, xi3, xw4, (takeN 4 ys bad).1, ?_, ?_, ?_, ?_, ?_, ?_, ?_, ?_, ?_⟩
            · exact hL4.set _ _ (hL4 _ _ hw4)
            · exact hT.step hL2 hL3 hI3 hs3 hD4 hK4 hx4
            · simp only [go_sem, i64_wrap_id, Int.reduceAdd, Int.reduceSub, Int.reduceNeg, Int.reduceMul, Nat.reduceSub, Nat.reduceEqDiff, Nat.reduceAdd, Nat.reduceMul, Nat.reduceLeDiff, ↓reduceIte, reduceCtorEq, Int.reduceToNat, Int.reduceLT, Int.reduceLE, Int.reduceEq, h1]
            · simp only [go_sem, i64_wrap_id, Int.reduceAdd, Int.reduceSub, Int.reduceNeg, Int.reduceMul, Nat.reduceSub, Nat.reduceEqDiff, Nat.reduceAdd, Nat.reduceMul, Nat.reduceLeDiff, ↓reduceIte, reduceCtorEq, Int.reduceToNat, Int.reduceLT, Int.reduceLE, Int.reduceEq, h5]
            · simp only [go_sem, i64_wrap_id, Int.reduceAdd, Int.reduceSub, Int.reduceNeg, Int.reduceMul, Nat.reduceSub, Nat.reduceEqDiff, Nat.reduceAdd, Nat.reduceMul, Nat.reduceLeDiff, ↓reduceIte, reduceCtorEq, Int.reduceToNat, Int.reduceLT, Int.reduceLE, Int.reduceEq, h6]
            · simp only [go_sem, i64_wrap_id, Int.reduceAdd, Int.reduceSub, Int.reduceNeg, Int.reduceMul, Nat.reduceSub, Nat.reduceEqDiff, Nat.reduceAdd, Nat.reduceMul, Nat.reduceLeDiff, ↓reduceIte, reduceCtorEq, Int.reduceToNat, Int.reduceLT, Int.reduceLE, Int.reduceEq, h28]
            · simp only [go_sem, i64_wrap_id, Int.reduceAdd, Int.reduceSub, Int.reduceNeg, Int.reduceMul, Nat.reduceSub, Nat.reduceEqDiff, Nat.reduceAdd, Nat.reduceMul, Nat.reduceLeDiff, ↓reduceIte, reduceCtorEq, Int.reduceToNat, Int.reduceLT, Int.reduceLE, Int.reduceEq, h29]
            · simp only [go_sem, i64_wrap_id, Int.reduceAdd, Int.reduceSub, Int.reduceNeg, Int.reduceMul, Nat.reduceSub, Nat.reduceEqDiff, Nat.reduceAdd, Nat.reduceMul, Nat.reduceLeDiff, ↓reduceIte, reduceCtorEq, Int.reduceToNat, Int.reduceLT, Int.reduceLE, Int.reduceEq]
            · simp only [go_sem, i64_wrap_id, Int.reduceAdd, Int.reduceSub, Int.reduceNeg, Int.reduceMul, Nat.reduceSub, Nat.reduceEqDiff, Nat.reduceAdd, Nat.reduceMul, Nat.reduceLeDiff, ↓reduceIte, reduceCtorEq, Int.reduceToNat, Int.reduceLT, Int.reduceLE, Int.reduceEq]

            simp only [go_sem, i64_wrap_id, Int.reduceAdd, Int.reduceSub, Int.reduceNeg, Int.reduceMul, Nat.reduceSub, Nat.reduceEqDiff, Nat.reduceAdd, Nat.reduceMul, Nat.reduceLeDiff, ↓reduceIte, reduceCtorEq, Int.reduceToNat, Int.reduceLT, Int.reduceLE, Int.reduceEq]
            refine iK_split (fun hz => ?_) (fun hz => ?_)
            simp only [go_sem, i64_wrap_id, Int.reduceAdd, Int.reduceSub, Int.reduceNeg, Int.reduceMul, Nat.reduceSub, Nat.reduceEqDiff, Nat.reduceAdd, Nat.reduceMul, Nat.reduceLeDiff, ↓reduceIte, reduceCtorEq, Int.reduceToNat, Int.reduceLT, Int.reduceLE, Int.reduceEq, h1, h5, h6]
            have hbd := takeN_bound (n := 8) (bad := bad) hI.byt

            refine cK_of (inEight i xi _ _ S2 hI) ?_
            rintro r3 S3 hS3 hL3 ⟨rfl, xi3, hI3, hs3⟩
            have hw3 : S3.blk w = some ⟨false, [xw, .bool bad]⟩ := by rw [hs3.keep.2 w (hL2 _ _ hw) (fun e => hiw e.symm)]; exact hw
            have hD3 : Bs S3 xw ys := Sl.keeps hL2 hD hs3.keep fun d hd e => by have := hxw d hd; omega
            have hc3 : cellsOf S3 w 0 2 = some [xw, .bool bad] := by rw [cellsOf_of_blk hw3]; rfl
            simp only [go_sem, i64_wrap_id, Int.reduceAdd, Int.reduceSub, Int.reduceNeg, Int.reduceMul, Nat.reduceSub, Nat.reduceEqDiff, Nat.reduceAdd, Nat.reduceMul, Nat.reduceLeDiff, ↓reduceIte, reduceCtorEq, Int.reduceToNat, Int.reduceLT, Int.reduceLE, Int.reduceEq, h1, h5, h6, hc3, show IntKind.u64.wrap (s64 (takeN 8 ys bad).1) = (takeN 8 ys bad).1 by rw [wrap64u, s64, IntKind.wrap_i64]; omega]
            refine cK_of (refTake xw ys bad 8 S3 hD3 hI.byt (by omega) (by omega)) ?_
            rintro r4 S4 hS4 hL4 ⟨xw4, rfl, hD4, hK4, hx4⟩
            have hw4 : S4.blk w = some ⟨false, [xw, .bool bad]⟩ := by rw [hK4.2 w (hL3 _ _ hw3) trivial]; exact hw3
            simp only [go_sem, i64_wrap_id, Int.reduceAdd, Int.reduceSub, Int.reduceNeg, Int.reduceMul, Nat.reduceSub, Nat.reduceEqDiff, Nat.reduceAdd, Nat.reduceMul, Nat.reduceLeDiff, ↓reduceIte, reduceCtorEq, Int.reduceToNat, Int.reduceLT, Int.reduceLE, Int.reduceEq, h1, h5, h6, hw4, List.getElem?_toArray]
            refine hN2 _ _ ⟨(takeN 8 ys bad).2.1, (takeN 8 ys bad).2.2, xi3, xw4, (takeN 8 ys bad).1, ?_, ?_, ?_, ?_, ?_, ?_, ?_, ?_, ?_⟩
            · exact hL4.set _ _ (hL4 _ _ hw4)
            · exact hT.step hL2 hL3 hI3 hs3 hD4 hK4 hx4
            · simp only [go_sem, i64_wrap_id, Int.reduceAdd, Int.reduceSub, Int.reduceNeg, Int.reduceMul, Nat.reduceSub, Nat.reduceEqDiff, Nat.reduceAdd, Nat.reduceMul, Nat.reduceLeDiff, ↓reduceIte, reduceCtorEq, Int.reduceToNat, Int.reduceLT, Int.reduceLE, Int.reduceEq, h1]
            · simp only [go_sem, i64_wrap_id, Int.reduceAdd, Int.reduceSub, Int.reduceNeg, Int.reduceMul, Nat.reduceSub, Nat.reduceEqDiff, Nat.reduceAdd, Nat.reduceMul, Nat.reduceLeDiff, ↓reduceIte, reduceCtorEq, Int.reduceToNat, Int.reduceLT, Int.reduceLE, Int.reduceEq, h5]
            · simp only [go_sem, i64_wrap_id, Int.reduceAdd, Int.reduceSub, Int.reduceNeg, Int.reduceMul, Nat.reduceSub, Nat.reduceEqDiff, Nat.reduceAdd, Nat.reduceMul, Nat.reduceLeDiff, ↓reduceIte, reduceCtorEq, Int.reduceToNat, Int.reduceLT, Int.reduceLE, Int.reduceEq, h6]
            · simp only [go_sem, i64_wrap_id, Int.reduceAdd, Int.reduceSub, Int.reduceNeg, Int.reduceMul, Nat.reduceSub, Nat.reduceEqDiff, Nat.reduceAdd, Nat.reduceMul, Nat.reduceLeDiff, ↓reduceIte, reduceCtorEq, Int.reduceToNat, Int.reduceLT, Int.reduceLE, Int.reduceEq, h28]
            · simp only [go_sem, i64_wrap_id, Int.reduceAdd, Int.reduceSub, Int.reduceNeg, Int.reduceMul, Nat.reduceSub, Nat.reduceEqDiff, Nat.reduceAdd, Nat.reduceMul, Nat.reduceLeDiff, ↓reduceIte, reduceCtorEq, Int.reduceToNat, Int.reduceLT, Int.reduceLE, Int.reduceEq, h29]
            · simp only [go_sem, i64_wrap_id, Int.reduceAdd, Int.reduceSub, Int.reduceNeg, Int.reduceMul, Nat.reduceSub, Nat.reduceEqDiff, Nat.reduceAdd, Nat.reduceMul, Nat.reduceLeDiff, ↓reduceIte, reduceCtorEq, Int.reduceToNat, Int.reduceLT, Int.reduceLE, Int.reduceEq]
            · simp only [go_sem, i64_wrap_id, Int.reduceAdd, Int.reduceSub, Int.reduceNeg, Int.reduceMul, Nat.reduceSub, Nat.reduceEqDiff, Nat.reduceAdd, Nat.reduceMul, Nat.reduceLeDiff, ↓reduceIte, reduceCtorEq, Int.reduceToNat, Int.reduceLT, Int.reduceLE, Int.reduceEq]

            simp only [go_sem, i64_wrap_id, Int.reduceAdd, Int.reduceSub, Int.reduceNeg, Int.reduceMul, Nat.reduceSub, Nat.reduceEqDiff, Nat.reduceAdd, Nat.reduceMul, Nat.reduceLeDiff, ↓reduceIte, reduceCtorEq, Int.reduceToNat, Int.reduceLT, Int.reduceLE, Int.reduceEq, h1, h5, h6, hye, hlt, hk0, Int.toNat_natCast, Nat.mul_one, hcell]
            refine iK_split (fun hz => ?_) (fun hz => ?_)
            · simp only [go_sem, i64_wrap_id, Int.reduceAdd, Int.reduceSub, Int.reduceNeg, Int.reduceMul, Nat.reduceSub, Nat.reduceEqDiff, Nat.reduceAdd, Nat.reduceMul, Nat.reduceLeDiff, ↓reduceIte, reduceCtorEq, Int.reduceToNat, Int.reduceLT, Int.reduceLE, Int.reduceEq, h1, h5, h6]
              refine cK_of (fail_any i xi ys bad S2 hI) ?_
              rintro r3 S3 hS3 hL3 ⟨rfl, hI3, hs3⟩
              have hw3 : S3.blk w = some ⟨false, [xw, .bool bad]⟩ := by rw [hs3.keep.2 w (hL2 _ _ hw) (fun e => hiw e.symm)]; exact hw
              simp only [go_sem, i64_wrap_id, Int.reduceAdd, Int.reduceSub, Int.reduceNeg, Int.reduceMul, Nat.reduceSub, Nat.reduceEqDiff, Nat.reduceAdd, Nat.reduceMul, Nat.reduceLeDiff, ↓reduceIte, reduceCtorEq, Int.reduceToNat, Int.reduceLT, Int.reduceLE, Int.reduceEq, h1, h5, h6, hw3]
              refine hN2 _ _ ⟨[], true, .slice none 0 0, .slice none 0 0, 0, hL3.set _ _ (hL3 _ _ hw3), ?_, ?_, ?_, ?_, ?_, ?_, ?_, ?_⟩
              · exact hT.step hL2 hL3 hI3 hs3 (.inl ⟨rfl, rfl, rfl⟩) (Keeps.refl _ _) (fun d hd => by simp [Value.blkOf] at hd)
              · simp only [go_sem, i64_wrap_id, Int.reduceAdd, Int.reduceSub, Int.reduceNeg, Int.reduceMul, Nat.reduceSub, Nat.reduceEqDiff, Nat.reduceAdd, Nat.reduceMul, Nat.reduceLeDiff, ↓reduceIte, reduceCtorEq, Int.reduceToNat, Int.reduceLT, Int.reduceLE, Int.reduceEq, h1]
              · simp only [go_sem, i64_wrap_id, Int.reduceAdd, Int.reduceSub, Int.reduceNeg, Int.reduceMul, Nat.reduceSub, Nat.reduceEqDiff, Nat.reduceAdd, Nat.reduceMul, Nat.reduceLeDiff, ↓reduceIte, reduceCtorEq, Int.reduceToNat, Int.reduceLT, Int.reduceLE, Int.reduceEq, h5]
              · simp only [go_sem, i64_wrap_id, Int.reduceAdd, Int.reduceSub, Int.reduceNeg, Int.reduceMul, Nat.reduceSub, Nat.reduceEqDiff, Nat.reduceAdd, Nat.reduceMul, Nat.reduceLeDiff, ↓reduceIte, reduceCtorEq, Int.reduceToNat, Int.reduceLT, Int.reduceLE, Int.reduceEq, h6]
              · simp only [go_sem, i64_wrap_id, Int.reduceAdd, Int.reduceSub, Int.reduceNeg, Int.reduceMul, Nat.reduceSub, Nat.reduceEqDiff, Nat.reduceAdd, Nat.reduceMul, Nat.reduceLeDiff, ↓reduceIte, reduceCtorEq, Int.reduceToNat, Int.reduceLT, Int.reduceLE, Int.reduceEq, h28]
              · simp only [go_sem, i64_wrap_id, Int.reduceAdd, Int.reduceSub, Int.reduceNeg, Int.reduceMul, Nat.reduceSub, Nat.reduceEqDiff, Nat.reduceAdd, Nat.reduceMul, Nat.reduceLeDiff, ↓reduceIte, reduceCtorEq, Int.reduceToNat, Int.reduceLT, Int.reduceLE, Int.reduceEq, h29]
              · simp only [go_sem, i64_wrap_id, Int.reduceAdd, Int.reduceSub, Int.reduceNeg, Int.reduceMul, Nat.reduceSub, Nat.reduceEqDiff, Nat.reduceAdd, Nat.reduceMul, Nat.reduceLeDiff, ↓reduceIte, reduceCtorEq, Int.reduceToNat, Int.reduceLT, Int.reduceLE, Int.reduceEq]
              · simp only [go_sem, i64_wrap_id, Int.reduceAdd, Int.reduceSub, Int.reduceNeg, Int.reduceMul, Nat.reduceSub, Nat.reduceEqDiff, Nat.reduceAdd, Nat.reduceMul, Nat.reduceLeDiff, ↓reduceIte, reduceCtorEq, Int.reduceToNat, Int.reduceLT, Int.reduceLE, Int.reduceEq]
            · simp only [go_sem, i64_wrap_id, Int.reduceAdd, Int.reduceSub, Int.reduceNeg, Int.reduceMul, Nat.reduceSub, Nat.reduceEqDiff, Nat.reduceAdd, Nat.reduceMul, Nat.reduceLeDiff, ↓reduceIte, reduceCtorEq, Int.reduceToNat, Int.reduceLT, Int.reduceLE, Int.reduceEq, h1, h5, h6]
              refine hN2 _ _ ⟨ys, bad, xi, xw, 0, hL2, hT, ?_, ?_, ?_, ?_, ?_, ?_, ?_⟩
              · simp only [go_sem, i64_wrap_id, Int.reduceAdd, Int.reduceSub, Int.reduceNeg, Int.reduceMul, Nat.reduceSub, Nat.reduceEqDiff, Nat.reduceAdd, Nat.reduceMul, Nat.reduceLeDiff, ↓reduceIte, reduceCtorEq, Int.reduceToNat, Int.reduceLT, Int.reduceLE, Int.reduceEq, h1]
              · simp only [go_sem, i64_wrap_id, Int.reduceAdd, Int.reduceSub, Int.reduceNeg, Int.reduceMul, Nat.reduceSub, Nat.reduceEqDiff, Nat.reduceAdd, Nat.reduceMul, Nat.reduceLeDiff, ↓reduceIte, reduceCtorEq, Int.reduceToNat, Int.reduceLT, Int.reduceLE, Int.reduceEq, h5]
              · simp only [go_sem, i64_wrap_id, Int.reduceAdd, Int.reduceSub, Int.reduceNeg, Int.reduceMul, Nat.reduceSub, Nat.reduceEqDiff, Nat.reduceAdd, Nat.reduceMul, Nat.reduceLeDiff, ↓reduceIte, reduceCtorEq, Int.reduceToNat, Int.reduceLT, Int.reduceLE, Int.reduceEq, h6]
              · simp only [go_sem, i64_wrap_id, Int.reduceAdd, Int.reduceSub, Int.reduceNeg, Int.reduceMul, Nat.reduceSub, Nat.reduceEqDiff, Nat.reduceAdd, Nat.reduceMul, Nat.reduceLeDiff, ↓reduceIte, reduceCtorEq, Int.reduceToNat, Int.reduceLT, Int.reduceLE, Int.reduceEq, h28]
              · simp only [go_sem, i64_wrap_id, Int.reduceAdd, Int.reduceSub, Int.reduceNeg, Int.reduceMul, Nat.reduceSub, Nat.reduceEqDiff, Nat.reduceAdd, Nat.reduceMul, Nat.reduceLeDiff, ↓reduceIte, reduceCtorEq, Int.reduceToNat, Int.reduceLT, Int.reduceLE, Int.reduceEq, h29]
              · simp only [go_sem, i64_wrap_id, Int.reduceAdd, Int.reduceSub, Int.reduceNeg, Int.reduceMul, Nat.reduceSub, Nat.reduceEqDiff, Nat.reduceAdd, Nat.reduceMul, Nat.reduceLeDiff, ↓reduceIte, reduceCtorEq, Int.reduceToNat, Int.reduceLT, Int.reduceLE, Int.reduceEq]
              · simp only [go_sem, i64_wrap_id, Int.reduceAdd, Int.reduceSub, Int.reduceNeg, Int.reduceMul, Nat.reduceSub, Nat.reduceEqDiff, Nat.reduceAdd, Nat.reduceMul, Nat.reduceLeDiff, ↓reduceIte, reduceCtorEq, Int.reduceToNat, Int.reduceLT, Int.reduceLE, Int.reduceEq]
        · rintro t2 S3 ⟨ys', bad', xi', xw', v, hL3, hT3, g1, g5, g6, g28, g29, g8, g9⟩
          obtain ⟨aw, ew, hxw'⟩ := hT3.data.slice
          have hr0 : rd S3 w 0 = some xw' := by rw [rd_of_blk hT3.ref]; rfl
          have hr1 : rd S3 w 1 = some (.bool bad') := by rw [rd_of_blk hT3.ref]; rfl
          simp only [go_sem, i64_wrap_id, Int.reduceAdd, Int.reduceSub, Int.reduceNeg, Int.reduceMul, Nat.reduceSub, Nat.reduceEqDiff, Nat.reduceAdd, Nat.reduceMul, Nat.reduceLeDiff, ↓reduceIte, reduceCtorEq, Int.reduceToNat, Int.reduceLT, Int.reduceLE, Int.reduceEq, g1, g5, g6, g8, g9, hr1]
          have c1 := inBad i xi' ys' bad' S3 hT3.isIn
          have c2 := inLeft i xi' ys' bad' S3 hT3.isIn
          have c3 := inDone i xi' ys' bad' S3 hT3.isIn
          refine ⟨?_, ?_⟩ <;>
          · refine cK_of c1 ?_
            rintro r4 S4 hS4 hL4 ⟨rfl, rfl⟩
            simp only [go_sem, i64_wrap_id, Int.reduceAdd, Int.reduceSub, Int.reduceNeg, Int.reduceMul, Nat.reduceSub, Nat.reduceEqDiff, Nat.reduceAdd, Nat.reduceMul, Nat.reduceLeDiff, ↓reduceIte, reduceCtorEq, Int.reduceToNat, Int.reduceLT, Int.reduceLE, Int.reduceEq, g1, g5, g6, g8, g9, hr0, hr1, hxw']
            refine ⟨?_, ?_⟩ <;>
            · refine cK_of c2 ?_
              rintro r5 S5 hS5 hL5 ⟨rfl, rfl⟩
              cases bad'
              · simp only [go_sem, i64_wrap_id, Int.reduceAdd, Int.reduceSub, Int.reduceNeg, Int.reduceMul, Nat.reduceSub, Nat.reduceEqDiff, Nat.reduceAdd, Nat.reduceMul, Nat.reduceLeDiff, ↓reduceIte, reduceCtorEq, Int.reduceToNat, Int.reduceLT, Int.reduceLE, Int.reduceEq, g1, g5, g6, g8, g9, hr0, hr1, hxw']
                refine ⟨?_, ?_⟩ <;>
                · refine cK_of c3 ?_
                  rintro r6 S6 hS6 hL6 ⟨rfl, rfl⟩
                  simp only [go_sem, i64_wrap_id, Int.reduceAdd, Int.reduceSub, Int.reduceNeg, Int.reduceMul, Nat.reduceSub, Nat.reduceEqDiff, Nat.reduceAdd, Nat.reduceMul, Nat.reduceLeDiff, ↓reduceIte, reduceCtorEq, Int.reduceToNat, Int.reduceLT, Int.reduceLE, Int.reduceEq, g1, g5, g6, g8, g9, g29, hr0, hr1, hxw', hk1]
                  refine hN _ _ ⟨k + 1, xi', xw', ys', _, by omega, ?_, ?_, ?_, ?_, ?_, hT3⟩ ?_
                  · simp only [go_sem, i64_wrap_id, Int.reduceAdd, Int.reduceSub, Int.reduceNeg, Int.reduceMul, Nat.reduceSub, Nat.reduceEqDiff, Nat.reduceAdd, Nat.reduceMul, Nat.reduceLeDiff, ↓reduceIte, reduceCtorEq, Int.reduceToNat, Int.reduceLT, Int.reduceLE, Int.reduceEq, g1]
                  · simp only [go_sem, i64_wrap_id, Int.reduceAdd, Int.reduceSub, Int.reduceNeg, Int.reduceMul, Nat.reduceSub, Nat.reduceEqDiff, Nat.reduceAdd, Nat.reduceMul, Nat.reduceLeDiff, ↓reduceIte, reduceCtorEq, Int.reduceToNat, Int.reduceLT, Int.reduceLE, Int.reduceEq, g5]
                  · simp only [go_sem, i64_wrap_id, Int.reduceAdd, Int.reduceSub, Int.reduceNeg, Int.reduceMul, Nat.reduceSub, Nat.reduceEqDiff, Nat.reduceAdd, Nat.reduceMul, Nat.reduceLeDiff, ↓reduceIte, reduceCtorEq, Int.reduceToNat, Int.reduceLT, Int.reduceLE, Int.reduceEq, g6]
                  · simp only [go_sem, i64_wrap_id, Int.reduceAdd, Int.reduceSub, Int.reduceNeg, Int.reduceMul, Nat.reduceSub, Nat.reduceEqDiff, Nat.reduceAdd, Nat.reduceMul, Nat.reduceLeDiff, ↓reduceIte, reduceCtorEq, Int.reduceToNat, Int.reduceLT, Int.reduceLE, Int.reduceEq, g28]
                  · simp only [go_sem, i64_wrap_id, Int.reduceAdd, Int.reduceSub, Int.reduceNeg, Int.reduceMul, Nat.reduceSub, Nat.reduceEqDiff, Nat.reduceAdd, Nat.reduceMul, Nat.reduceLeDiff, ↓reduceIte, reduceCtorEq, Int.reduceToNat, Int.reduceLT, Int.reduceLE, Int.reduceEq]; congr 1
                  · simp only [go_sem, i64_wrap_id, Int.reduceAdd, Int.reduceSub, Int.reduceNeg, Int.reduceMul, Nat.reduceSub, Nat.reduceEqDiff, Nat.reduceAdd, Nat.reduceMul, Nat.reduceLeDiff, ↓reduceIte, reduceCtorEq, Int.reduceToNat, Int.reduceLT, Int.reduceLE, Int.reduceEq, h29, RowKit.intOf]
                    omega
              · simp only [go_sem, i64_wrap_id, Int.reduceAdd, Int.reduceSub, Int.reduceNeg, Int.reduceMul, Nat.reduceSub, Nat.reduceEqDiff, Nat.reduceAdd, Nat.reduceMul, Nat.reduceLeDiff, ↓reduceIte, reduceCtorEq, Int.reduceToNat, Int.reduceLT, Int.reduceLE, Int.reduceEq, g1, g5, g6, g8, g9, hr0, hr1, hxw']
                refine ⟨?_, ?_⟩ <;>
                · refine cK_of c3 ?_
                  rintro r6 S6 hS6 hL6 ⟨rfl, rfl⟩
                  simp only [go_sem, i64_wrap_id, Int.reduceAdd, Int.reduceSub, Int.reduceNeg, Int.reduceMul, Nat.reduceSub, Nat.reduceEqDiff, Nat.reduceAdd, Nat.reduceMul, Nat.reduceLeDiff, ↓reduceIte, reduceCtorEq, Int.reduceToNat, Int.reduceLT, Int.reduceLE, Int.reduceEq, g1, g5, g6, g8, g9, g29, hr0, hr1, hxw', hk1]
                  refine hN _ _ ⟨k + 1, xi', xw', ys', _, by omega, ?_, ?_, ?_, ?_, ?_, hT3⟩ ?_
                  · simp only [go_sem, i64_wrap_id, Int.reduceAdd, Int.reduceSub, Int.reduceNeg, Int.reduceMul, Nat.reduceSub, Nat.reduceEqDiff, Nat.reduceAdd, Nat.reduceMul, Nat.reduceLeDiff, ↓reduceIte, reduceCtorEq, Int.reduceToNat, Int.reduceLT, Int.reduceLE, Int.reduceEq, g1]
                  · simp only [go_sem, i64_wrap_id, Int.reduceAdd, Int.reduceSub, Int.reduceNeg, Int.reduceMul, Nat.reduceSub, Nat.reduceEqDiff, Nat.reduceAdd, Nat.reduceMul, Nat.reduceLeDiff, ↓reduceIte, reduceCtorEq, Int.reduceToNat, Int.reduceLT, Int.reduceLE, Int.reduceEq, g5]
                  · simp only [go_sem, i64_wrap_id, Int.reduceAdd, Int.reduceSub, Int.reduceNeg, Int.reduceMul, Nat.reduceSub, Nat.reduceEqDiff, Nat.reduceAdd, Nat.reduceMul, Nat.reduceLeDiff, ↓reduceIte, reduceCtorEq, Int.reduceToNat, Int.reduceLT, Int.reduceLE, Int.reduceEq, g6]
                  · simp only [go_sem, i64_wrap_id, Int.reduceAdd, Int.reduceSub, Int.reduceNeg, Int.reduceMul, Nat.reduceSub, Nat.reduceEqDiff, Nat.reduceAdd, Nat.reduceMul, Nat.reduceLeDiff, ↓reduceIte, reduceCtorEq, Int.reduceToNat, Int.reduceLT, Int.reduceLE, Int.reduceEq, g28]
                  · simp only [go_sem, i64_wrap_id, Int.reduceAdd, Int.reduceSub, Int.reduceNeg, Int.reduceMul, Nat.reduceSub, Nat.reduceEqDiff, Nat.reduceAdd, Nat.reduceMul, Nat.reduceLeDiff, ↓reduceIte, reduceCtorEq, Int.reduceToNat, Int.reduceLT, Int.reduceLE, Int.reduceEq]; congr 1
                  · simp only [go_sem, i64_wrap_id, Int.reduceAdd, Int.reduceSub, Int.reduceNeg, Int.reduceMul, Nat.reduceSub, Nat.reduceEqDiff, Nat.reduceAdd, Nat.reduceMul, Nat.reduceLeDiff, ↓reduceIte, reduceCtorEq, Int.reduceToNat, Int.reduceLT, Int.reduceLE, Int.reduceEq, h29, RowKit.intOf]
                    omega
  · by_cases h1 : xs.length ≤ 500
    · have hgt : ¬ ((xs.length : Int) > 500) := by omega
      have hgt' : ((ls.length : Int) > 60) := by omega
      simp only [go_sem, i64_wrap_id, Int.reduceAdd, Int.reduceSub, Int.reduceNeg, Int.reduceMul, Nat.reduceSub, Nat.reduceEqDiff, Nat.reduceAdd, Nat.reduceMul, Nat.reduceLeDiff, ↓reduceIte, reduceCtorEq, Int.reduceToNat, Int.reduceLT, Int.reduceLE, Int.reduceEq, hxv, hyv, hgt, hgt']
      refine cK_of (awake05 S1) ?_
      rintro r1 S1 hS1 hL1 ⟨rfl, hk1⟩
      simp only [go_sem, i64_wrap_id, Int.reduceAdd, Int.reduceSub, Int.reduceNeg, Int.reduceMul, Nat.reduceSub, Nat.reduceEqDiff, Nat.reduceAdd, Nat.reduceMul, Nat.reduceLeDiff, ↓reduceIte, reduceCtorEq, Int.reduceToNat, Int.reduceLT, Int.reduceLE, Int.reduceEq]
      refine hQ _ _ _ ?_; (first | rw [k_body_ret] | rw [k_body_normal]); simp only [resVals, resVal, ev, Env.get_put, ↓reduceIte, Nat.reduceEqDiff, Option.bind_some, Option.map_some, reduceCtorEq, ldv_true, ldv_false, lloadV_agg, partL, List.toList_toArray, cellsOf_set, cellsOf_new, rd_set, rd_new, List.length_cons, List.length_nil, Nat.reduceAdd, Nat.reduceLeDiff, Nat.le_refl, List.take_succ_cons, List.take_zero, List.drop_zero, Nat.add_eq_left, Nat.left_eq_add, List.getElem?_cons_zero, List.getElem?_cons_succ, aF6]; rw [retQ_some]; simp only [oneOr]
    · have hgt : ((xs.length : Int) > 500) := by omega
      simp only [go_sem, i64_wrap_id, Int.reduceAdd, Int.reduceSub, Int.reduceNeg, Int.reduceMul, Nat.reduceSub, Nat.reduceEqDiff, Nat.reduceAdd, Nat.reduceMul, Nat.reduceLeDiff, ↓reduceIte, reduceCtorEq, Int.reduceToNat, Int.reduceLT, Int.reduceLE, Int.reduceEq, hxv, hyv, hgt]
      refine cK_of (awake05 S1) ?_
      rintro r1 S1 hS1 hL1 ⟨rfl, hk1⟩
      simp only [go_sem, i64_wrap_id, Int.reduceAdd, Int.reduceSub, Int.reduceNeg, Int.reduceMul, Nat.reduceSub, Nat.reduceEqDiff, Nat.reduceAdd, Nat.reduceMul, Nat.reduceLeDiff, ↓reduceIte, reduceCtorEq, Int.reduceToNat, Int.reduceLT, Int.reduceLE, Int.reduceEq]
      refine hQ _ _ _ ?_; (first | rw [k_body_ret] | rw [k_body_normal]); simp only [resVals, resVal, ev, Env.get_put, ↓reduceIte, Nat.reduceEqDiff, Option.bind_some, Option.map_some, reduceCtorEq, ldv_true, ldv_false, lloadV_agg, partL, List.toList_toArray, cellsOf_set, cellsOf_new, rd_set, rd_new, List.length_cons, List.length_nil, Nat.reduceAdd, Nat.reduceLeDiff, Nat.le_refl, List.take_succ_cons, List.take_zero, List.drop_zero, Nat.add_eq_left, Nat.left_eq_add, List.getElem?_cons_zero, List.getElem?_cons_succ, aF6]; rw [retQ_some]; simp only [oneOr]
end Go.Proofs.Ytbgnaeagdneikaa
