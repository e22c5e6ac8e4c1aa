/- Taking bytes (scroll), over the abstract memory. -/
import Derived.Test.YtbgnaeagdneikaaS0
namespace Go.Proofs.Ytbgnaeagdneikaa
open Go Go.Proofs.Ytbgnaeagdneikaa.Abs
set_option linter.unusedSimpArgs false
set_option linter.unusedVariables false

/-- The number that bytes are. -/
def num (xs : List Int) : Int := xs.foldl (fun v c => v * 256 + c) 0
def Byt (xs : List Int) : Prop := ∀ c ∈ xs, 0 ≤ c ∧ c < 256

theorem num_snoc (xs : List Int) (c : Int) : num (xs ++ [c]) = num xs * 256 + c := by simp [num]
theorem num_take_succ (xs : List Int) (k : Nat) (h : k < xs.length) : num (xs.take (k + 1)) = num (xs.take k) * 256 + xs[k] := by
  rw [List.take_succ_eq_append_getElem h, num_snoc]
theorem num_bound (xs : List Int) (h : Byt xs) : ∀ k, k ≤ xs.length → 0 ≤ num (xs.take k) ∧ num (xs.take k) < 256 ^ k := by
  intro k
  induction k with
  | zero => intro _; simp [num]
  | succ k ih =>
    intro hk
    have hc := h xs[k] (List.getElem_mem _)
    have hi := ih (by omega)
    rw [num_take_succ xs k (by omega), Int.pow_succ]
    omega
theorem num_lt (xs : List Int) (h : Byt xs) (k : Nat) (hk : k ≤ xs.length) (h8 : k ≤ 8) : num (xs.take k) < 18446744073709551616 := by
  have h1 := (num_bound xs h k hk).2
  have h2 := (by decide : ∀ k : Fin 9, (256 : Int) ^ k.1 ≤ 18446744073709551616) ⟨k, by omega⟩
  simp only at h2
  omega
theorem num_lt7 (xs : List Int) (h : Byt xs) (k : Nat) (hk : k ≤ xs.length) (h8 : k ≤ 7) : num (xs.take k) < 72057594037927936 := by
  have h1 := (num_bound xs h k hk).2
  have h2 := (by decide : ∀ k : Fin 8, (256 : Int) ^ k.1 ≤ 72057594037927936) ⟨k, by omega⟩
  simp only at h2
  omega

theorem shl8 {v : Int} (h0 : 0 ≤ v) (h1 : v < 72057594037927936) : IntKind.u64.wrap (v * 2 ^ (min 8 64)) = v * 256 := by
  rw [wrap64u]
  have : (2 : Int) ^ (min 8 64) = 256 := by rfl
  rw [this]
  omega
theorem conv64 {c : Int} (h0 : 0 ≤ c) (h1 : c < 256) : IntKind.u64.wrap c = c := by rw [wrap64u]; omega
theorem or8 {v c : Int} (h0 : 0 ≤ v) (h1 : v < 72057594037927936) (h2 : 0 ≤ c) (h3 : c < 256) :
    IntKind.u64.wrap ((BitVec.ofInt 64 (v * 256) ||| BitVec.ofInt 64 c).toNat : Int) = v * 256 + c := by
  obtain ⟨a, rfl⟩ := Int.eq_ofNat_of_zero_le h0
  obtain ⟨b, rfl⟩ := Int.eq_ofNat_of_zero_le h2
  rw [wrap64u]
  have e1 : BitVec.ofInt 64 ((a : Int) * 256) = BitVec.ofNat 64 (a * 256) := by
    rw [show ((a : Int) * 256) = ((a * 256 : Nat) : Int) by omega]; rfl
  have e2 : BitVec.ofInt 64 (b : Int) = BitVec.ofNat 64 b := rfl
  show (((BitVec.ofInt 64 ((a : Int) * 256) ||| BitVec.ofInt 64 (b : Int)).toNat : Nat) : Int) % 18446744073709551616 = _
  rw [e1, e2, BitVec.toNat_or, BitVec.toNat_ofNat, BitVec.toNat_ofNat, Nat.mod_eq_of_lt (by omega), Nat.mod_eq_of_lt (by omega)]
  have e3 : a * 256 ||| b = a * 256 + b := by
    rw [Nat.mul_comm, show (256 : Nat) = 2 ^ 8 from rfl]
    exact (Nat.two_pow_add_eq_or_of_lt (by omega) a).symm
  rw [e3]
  omega

structure IsIn (S : St) (i : Nat) (x : Value) (xs : List Int) (bad : Bool) : Prop where
  blk : S.blk i = some ⟨false, [x, .bool bad]⟩
  data : Bs S x xs
  ne : Value.blkOf x ≠ some i
  byt : Byt xs
  nil : bad = true → xs = []

structure InStep (S : St) (i : Nat) (x : Value) (S' : St) (x' : Value) : Prop where
  keep : Keeps S S' fun j => j ≠ i
  data : ∀ d, Value.blkOf x' = some d → Value.blkOf x = some d

theorem InStep.refl (S : St) (i : Nat) (x : Value) : InStep S i x S x := ⟨Keeps.refl _ _, fun _ h => h⟩
theorem InStep.trans {S S' S'' : St} {i : Nat} {x x' x'' : Value} (h : InStep S i x S' x') (k : InStep S' i x' S'' x'') : InStep S i x S'' x'' :=
  ⟨h.keep.trans k.keep (fun _ _ hp => hp), fun d hd => h.data d (k.data d hd)⟩

theorem clone_nilbytes : bytesV [] = [] := rfl

theorem fail_any (i : Nat) (x : Value) (xs : List Int) (bad : Bool) (S : St) (h : IsIn S i x xs bad) :
    ACalls Try.prog 37 [.pointer (some ⟨i, 0, none⟩)] S fun r S' => r = .tuple #[] ∧ IsIn S' i (.slice none 0 0) [] true ∧ InStep S i x S' (.slice none 0 0) := by
  refine ACalls.run hmix Try.func37 cF37 kF37 rfl fun hL Q hQ => ?_
  have hb := h.blk
  simp only [go_sem, i64_wrap_id, Int.reduceAdd, Int.reduceSub, Int.reduceNeg, Int.reduceMul, Nat.reduceSub, Nat.reduceEqDiff, Nat.reduceAdd, Nat.reduceMul, Nat.reduceLeDiff, ↓reduceIte, reduceCtorEq, Int.reduceToNat, Int.reduceLT, Int.reduceLE, Int.reduceEq, aF37, hb]
  refine hQ _ _ _ ?_; (first | rw [k_body_ret] | rw [k_body_normal]); simp only [resVals, resVal, ev, Env.get_put, ↓reduceIte, Nat.reduceEqDiff, Option.bind_some, Option.map_some, reduceCtorEq, ldv_true, ldv_false, lloadV_agg, partL, List.toList_toArray, cellsOf_set, cellsOf_new, rd_set, rd_new, List.length_cons, List.length_nil, Nat.reduceAdd, Nat.reduceLeDiff, Nat.le_refl, List.take_succ_cons, List.take_zero, List.drop_zero, Nat.add_eq_left, Nat.left_eq_add, List.getElem?_cons_zero, List.getElem?_cons_succ, aF37]; rw [retQ_some]; simp only [oneOr]
  refine ⟨trivial, ⟨by simp [St.blk_set], .inl ⟨rfl, rfl, rfl⟩, by simp [Value.blkOf], by simp [Byt], fun _ => rfl⟩, ⟨(Keeps.refl _ _).set (fun j _ hj => hj) _ |>.set (fun j _ hj => hj) _, fun d hd => by simp [Value.blkOf] at hd⟩⟩

theorem fail_nil (S : St) : ACalls Try.prog 37 [.pointer none] S fun r S' => r = .tuple #[] ∧ S' = S := by
  refine ACalls.run hmix Try.func37 cF37 kF37 rfl fun hL Q hQ => ?_
  simp only [go_sem, i64_wrap_id, Int.reduceAdd, Int.reduceSub, Int.reduceNeg, Int.reduceMul, Nat.reduceSub, Nat.reduceEqDiff, Nat.reduceAdd, Nat.reduceMul, Nat.reduceLeDiff, ↓reduceIte, reduceCtorEq, Int.reduceToNat, Int.reduceLT, Int.reduceLE, Int.reduceEq, aF37]
  refine hQ _ _ _ ?_; (first | rw [k_body_ret] | rw [k_body_normal]); simp only [resVals, resVal, ev, Env.get_put, ↓reduceIte, Nat.reduceEqDiff, Option.bind_some, Option.map_some, reduceCtorEq, ldv_true, ldv_false, lloadV_agg, partL, List.toList_toArray, cellsOf_set, cellsOf_new, rd_set, rd_new, List.length_cons, List.length_nil, Nat.reduceAdd, Nat.reduceLeDiff, Nat.le_refl, List.take_succ_cons, List.take_zero, List.drop_zero, Nat.add_eq_left, Nat.left_eq_add, List.getElem?_cons_zero, List.getElem?_cons_succ, aF37]; rw [retQ_some]; simp only [oneOr]
  simp

def takeN (n : Nat) (xs : List Int) (bad : Bool) : Int × List Int × Bool := if bad = true ∨ xs.length < n then (0, [], true) else (num (xs.take n), xs.drop n, false)

theorem win_nil (n : Int) (S : St) : ACalls Try.prog 70 [.pointer none, .int .i64 n] S fun r S' => r = .int .u64 0 ∧ S' = S := by
  refine ACalls.run hmix Try.func70 cF70 kF70 rfl fun hL Q hQ => ?_
  simp only [go_sem, i64_wrap_id, Int.reduceAdd, Int.reduceSub, Int.reduceNeg, Int.reduceMul, Nat.reduceSub, Nat.reduceEqDiff, Nat.reduceAdd, Nat.reduceMul, Nat.reduceLeDiff, ↓reduceIte, reduceCtorEq, Int.reduceToNat, Int.reduceLT, Int.reduceLE, Int.reduceEq, aF70]
  refine hQ _ _ _ ?_; (first | rw [k_body_ret] | rw [k_body_normal]); simp only [resVals, resVal, ev, Env.get_put, ↓reduceIte, Nat.reduceEqDiff, Option.bind_some, Option.map_some, reduceCtorEq, ldv_true, ldv_false, lloadV_agg, partL, List.toList_toArray, cellsOf_set, cellsOf_new, rd_set, rd_new, List.length_cons, List.length_nil, Nat.reduceAdd, Nat.reduceLeDiff, Nat.le_refl, List.take_succ_cons, List.take_zero, List.drop_zero, Nat.add_eq_left, Nat.left_eq_add, List.getElem?_cons_zero, List.getElem?_cons_succ, aF70]; rw [retQ_some]; simp only [oneOr]
  simp

theorem win_any (i : Nat) (x : Value) (xs : List Int) (bad : Bool) (n : Nat) (S : St) (h : IsIn S i x xs bad) (hn1 : 1 ≤ n) (hn : n ≤ 8) :
    ACalls Try.prog 70 [.pointer (some ⟨i, 0, none⟩), .int .i64 n] S fun r S' => r = .int .u64 (takeN n xs bad).1 ∧ ∃ x', IsIn S' i x' (takeN n xs bad).2.1 (takeN n xs bad).2.2 ∧ InStep S i x S' x' := by
  refine ACalls.run hmix Try.func70 cF70 kF70 rfl fun hL Q hQ => ?_
  have hb := h.blk
  have hr0 : rd S i 0 = some x := by rw [rd_of_blk hb]; rfl
  have hr1 : rd S i 1 = some (.bool bad) := by rw [rd_of_blk hb]; rfl
  cases bad with
  | true =>
    have := h.nil rfl
    subst this
    simp only [go_sem, i64_wrap_id, Int.reduceAdd, Int.reduceSub, Int.reduceNeg, Int.reduceMul, Nat.reduceSub, Nat.reduceEqDiff, Nat.reduceAdd, Nat.reduceMul, Nat.reduceLeDiff, ↓reduceIte, reduceCtorEq, Int.reduceToNat, Int.reduceLT, Int.reduceLE, Int.reduceEq, aF70, hr1]
    refine hQ _ _ _ ?_; (first | rw [k_body_ret] | rw [k_body_normal]); simp only [resVals, resVal, ev, Env.get_put, ↓reduceIte, Nat.reduceEqDiff, Option.bind_some, Option.map_some, reduceCtorEq, ldv_true, ldv_false, lloadV_agg, partL, List.toList_toArray, cellsOf_set, cellsOf_new, rd_set, rd_new, List.length_cons, List.length_nil, Nat.reduceAdd, Nat.reduceLeDiff, Nat.le_refl, List.take_succ_cons, List.take_zero, List.drop_zero, Nat.add_eq_left, Nat.left_eq_add, List.getElem?_cons_zero, List.getElem?_cons_succ, aF70]; rw [retQ_some]; simp only [oneOr]
    exact ⟨by simp [takeN], x, by simpa [takeN] using h, .refl _ _ _⟩
  | false =>
    obtain ⟨a, e, hx⟩ := h.data.slice
    by_cases hl : xs.length < n
    · have hl' : ((xs.length : Int) < n) := by omega
      simp only [go_sem, i64_wrap_id, Int.reduceAdd, Int.reduceSub, Int.reduceNeg, Int.reduceMul, Nat.reduceSub, Nat.reduceEqDiff, Nat.reduceAdd, Nat.reduceMul, Nat.reduceLeDiff, ↓reduceIte, reduceCtorEq, Int.reduceToNat, Int.reduceLT, Int.reduceLE, Int.reduceEq, aF70, hr1, hr0, hx, hl']
      refine cK_of (fail_any i x xs false S h) ?_
      rintro v S' hS hL' ⟨rfl, h1, h2⟩
      simp only [go_sem, i64_wrap_id, Int.reduceAdd, Int.reduceSub, Int.reduceNeg, Int.reduceMul, Nat.reduceSub, Nat.reduceEqDiff, Nat.reduceAdd, Nat.reduceMul, Nat.reduceLeDiff, ↓reduceIte, reduceCtorEq, Int.reduceToNat, Int.reduceLT, Int.reduceLE, Int.reduceEq]
      refine hQ _ _ _ ?_; (first | rw [k_body_ret] | rw [k_body_normal]); simp only [resVals, resVal, ev, Env.get_put, ↓reduceIte, Nat.reduceEqDiff, Option.bind_some, Option.map_some, reduceCtorEq, ldv_true, ldv_false, lloadV_agg, partL, List.toList_toArray, cellsOf_set, cellsOf_new, rd_set, rd_new, List.length_cons, List.length_nil, Nat.reduceAdd, Nat.reduceLeDiff, Nat.le_refl, List.take_succ_cons, List.take_zero, List.drop_zero, Nat.add_eq_left, Nat.left_eq_add, List.getElem?_cons_zero, List.getElem?_cons_succ, aF70]; rw [retQ_some]; simp only [oneOr]
      exact ⟨by simp [takeN, hl], _, by simpa [takeN, hl] using h1, h2⟩
    · have hl' : ¬ ((xs.length : Int) < n) := by omega
      rcases h.data with ⟨rfl, h0, hcs⟩ | ⟨d, o, e, rfl, he, hc⟩
      · omega
      · have hbd : (0 : Int) ≤ n := by omega
        have hbn : n ≤ xs.length := by omega
        simp only [go_sem, i64_wrap_id, Int.reduceAdd, Int.reduceSub, Int.reduceNeg, Int.reduceMul, Nat.reduceSub, Nat.reduceEqDiff, Nat.reduceAdd, Nat.reduceMul, Nat.reduceLeDiff, ↓reduceIte, reduceCtorEq, Int.reduceToNat, Int.reduceLT, Int.reduceLE, Int.reduceEq, aF70, hr1, hr0, hl', hbd, Int.toNat_natCast, Nat.zero_le, hbn, he, Nat.zero_mul, Nat.sub_zero]
        refine lK_of (fun t' S' => S' = S ∧ ∃ k : Nat, k ≤ n ∧ t' 0 = .pointer (some ⟨i, 0, none⟩) ∧ t' 1 = .int .i64 n ∧ t' 30 = .slice (some ⟨d, o, none⟩) n e ∧ t' 31 = .int .i64 n ∧ t' 32 = .int .i64 k ∧ t' 5 = .int .u64 (num (xs.take k)))
          (fun t' _ => (n - RowKit.intOf (t' 32)).toNat) ?_ ?_
        · refine ⟨rfl, 0, ?_, ?_, ?_, ?_, ?_, ?_, ?_⟩
          · omega
          · simp only [go_sem, i64_wrap_id, Int.reduceAdd, Int.reduceSub, Int.reduceNeg, Int.reduceMul, Nat.reduceSub, Nat.reduceEqDiff, Nat.reduceAdd, Nat.reduceMul, Nat.reduceLeDiff, ↓reduceIte, reduceCtorEq, Int.reduceToNat, Int.reduceLT, Int.reduceLE, Int.reduceEq]
          · simp only [go_sem, i64_wrap_id, Int.reduceAdd, Int.reduceSub, Int.reduceNeg, Int.reduceMul, Nat.reduceSub, Nat.reduceEqDiff, Nat.reduceAdd, Nat.reduceMul, Nat.reduceLeDiff, ↓reduceIte, reduceCtorEq, Int.reduceToNat, Int.reduceLT, Int.reduceLE, Int.reduceEq]
          · simp only [go_sem, i64_wrap_id, Int.reduceAdd, Int.reduceSub, Int.reduceNeg, Int.reduceMul, Nat.reduceSub, Nat.reduceEqDiff, Nat.reduceAdd, Nat.reduceMul, Nat.reduceLeDiff, ↓reduceIte, reduceCtorEq, Int.reduceToNat, Int.reduceLT, Int.reduceLE, Int.reduceEq]
          · simp only [go_sem, i64_wrap_id, Int.reduceAdd, Int.reduceSub, Int.reduceNeg, Int.reduceMul, Nat.reduceSub, Nat.reduceEqDiff, Nat.reduceAdd, Nat.reduceMul, Nat.reduceLeDiff, ↓reduceIte, reduceCtorEq, Int.reduceToNat, Int.reduceLT, Int.reduceLE, Int.reduceEq]
          · simp only [go_sem, i64_wrap_id, Int.reduceAdd, Int.reduceSub, Int.reduceNeg, Int.reduceMul, Nat.reduceSub, Nat.reduceEqDiff, Nat.reduceAdd, Nat.reduceMul, Nat.reduceLeDiff, ↓reduceIte, reduceCtorEq, Int.reduceToNat, Int.reduceLT, Int.reduceLE, Int.reduceEq]; rfl
          · simp only [go_sem, i64_wrap_id, Int.reduceAdd, Int.reduceSub, Int.reduceNeg, Int.reduceMul, Nat.reduceSub, Nat.reduceEqDiff, Nat.reduceAdd, Nat.reduceMul, Nat.reduceLeDiff, ↓reduceIte, reduceCtorEq, Int.reduceToNat, Int.reduceLT, Int.reduceLE, Int.reduceEq]; simp [num]
        · rintro t1 S1 Q1 ⟨rfl, k, hk, h0, h1, h30, h31, h32, h5⟩ hL1 hN hE
          by_cases hkn : k = n
          · subst hkn
            have : ¬ ((k : Int) < k) := by omega
            simp only [go_sem, i64_wrap_id, Int.reduceAdd, Int.reduceSub, Int.reduceNeg, Int.reduceMul, Nat.reduceSub, Nat.reduceEqDiff, Nat.reduceAdd, Nat.reduceMul, Nat.reduceLeDiff, ↓reduceIte, reduceCtorEq, Int.reduceToNat, Int.reduceLT, Int.reduceLE, Int.reduceEq, h0, h1, h30, h31, h32, this]
            refine hE _ _ _ (by simp) ?_
            simp only [go_sem, i64_wrap_id, Int.reduceAdd, Int.reduceSub, Int.reduceNeg, Int.reduceMul, Nat.reduceSub, Nat.reduceEqDiff, Nat.reduceAdd, Nat.reduceMul, Nat.reduceLeDiff, ↓reduceIte, reduceCtorEq, Int.reduceToNat, Int.reduceLT, Int.reduceLE, Int.reduceEq, h0, h1, h5, hr0, hbd, Int.toNat_natCast, hbn, he, hb, Nat.mul_one]
            refine hQ _ _ _ ?_; (first | rw [k_body_ret] | rw [k_body_normal]); simp only [resVals, resVal, ev, Env.get_put, ↓reduceIte, Nat.reduceEqDiff, Option.bind_some, Option.map_some, reduceCtorEq, ldv_true, ldv_false, lloadV_agg, partL, List.toList_toArray, cellsOf_set, cellsOf_new, rd_set, rd_new, List.length_cons, List.length_nil, Nat.reduceAdd, Nat.reduceLeDiff, Nat.le_refl, List.take_succ_cons, List.take_zero, List.drop_zero, Nat.add_eq_left, Nat.left_eq_add, List.getElem?_cons_zero, List.getElem?_cons_succ, aF70]; rw [retQ_some]; simp only [oneOr]
            have ht : takeN k xs false = (num (xs.take k), xs.drop k, false) := by simp [takeN, hl]
            rw [ht]
            refine ⟨rfl, .slice (some ⟨d, o + k, none⟩) (xs.length - k) e, ⟨by simp [St.blk_set], ?_, h.ne, fun c hc => h.byt c (List.mem_of_mem_drop hc), by simp⟩, (Keeps.refl _ _).set (fun j _ hj => hj) _, fun d hd => hd⟩
            have hdi : d ≠ i := fun e => h.ne (by simp [Value.blkOf, e])
            refine .inr ⟨d, o + k, e, by simp, he, ?_⟩
            rw [cellsOf_set, if_neg hdi, List.length_drop]
            have := cellsOf_of_cells hc (j := k) (n := xs.length - k) (by omega)
            simp only [Nat.mul_one]
            rw [this]
            simp [bytesV]
            rw [List.take_of_length_le (by simp)]
          · have hlt : ((k : Int) < n) := by omega
            have hcell : rd S1 d (o + k) = some (.int .u8 xs[k]) := by
              rw [rd_of_cells hc (by omega), bytesV_get, List.getElem?_eq_getElem (by omega)]
              rfl
            have hxk := h.byt xs[k] (List.getElem_mem _)
            have hnk := num_bound xs h.byt k (by omega)
            have h7 := num_lt7 xs h.byt k (by omega) (by omega)
            have hk0 : (0 : Int) ≤ k := by omega
            have hk1 : IntKind.i64.wrap ((k : Int) + 1) = k + 1 := wrap64_id (by omega) (by omega)
            simp only [go_sem, i64_wrap_id, Int.reduceAdd, Int.reduceSub, Int.reduceNeg, Int.reduceMul, Nat.reduceSub, Nat.reduceEqDiff, Nat.reduceAdd, Nat.reduceMul, Nat.reduceLeDiff, ↓reduceIte, reduceCtorEq, Int.reduceToNat, Int.reduceLT, Int.reduceLE, Int.reduceEq, h0, h1, h30, h31, h32, h5, hlt, hk0, Int.toNat_natCast, Nat.mul_one, hcell, shl8 hnk.1 h7, conv64 hxk.1 hxk.2, or8 hnk.1 h7 hxk.1 hxk.2, hk1, show ¬ ((8 : Int) < 0) by omega]
            refine hN _ _ ⟨rfl, k + 1, ?_, ?_, ?_, ?_, ?_, ?_, ?_⟩ ?_
            · omega
            · simp only [go_sem, i64_wrap_id, Int.reduceAdd, Int.reduceSub, Int.reduceNeg, Int.reduceMul, Nat.reduceSub, Nat.reduceEqDiff, Nat.reduceAdd, Nat.reduceMul, Nat.reduceLeDiff, ↓reduceIte, reduceCtorEq, Int.reduceToNat, Int.reduceLT, Int.reduceLE, Int.reduceEq, h0]
            · simp only [go_sem, i64_wrap_id, Int.reduceAdd, Int.reduceSub, Int.reduceNeg, Int.reduceMul, Nat.reduceSub, Nat.reduceEqDiff, Nat.reduceAdd, Nat.reduceMul, Nat.reduceLeDiff, ↓reduceIte, reduceCtorEq, Int.reduceToNat, Int.reduceLT, Int.reduceLE, Int.reduceEq, h1]
            · simp only [go_sem, i64_wrap_id, Int.reduceAdd, Int.reduceSub, Int.reduceNeg, Int.reduceMul, Nat.reduceSub, Nat.reduceEqDiff, Nat.reduceAdd, Nat.reduceMul, Nat.reduceLeDiff, ↓reduceIte, reduceCtorEq, Int.reduceToNat, Int.reduceLT, Int.reduceLE, Int.reduceEq, h30]
            · simp only [go_sem, i64_wrap_id, Int.reduceAdd, Int.reduceSub, Int.reduceNeg, Int.reduceMul, Nat.reduceSub, Nat.reduceEqDiff, Nat.reduceAdd, Nat.reduceMul, Nat.reduceLeDiff, ↓reduceIte, reduceCtorEq, Int.reduceToNat, Int.reduceLT, Int.reduceLE, Int.reduceEq, h31]
            · simp only [go_sem, i64_wrap_id, Int.reduceAdd, Int.reduceSub, Int.reduceNeg, Int.reduceMul, Nat.reduceSub, Nat.reduceEqDiff, Nat.reduceAdd, Nat.reduceMul, Nat.reduceLeDiff, ↓reduceIte, reduceCtorEq, Int.reduceToNat, Int.reduceLT, Int.reduceLE, Int.reduceEq]; congr 1
            · simp only [go_sem, i64_wrap_id, Int.reduceAdd, Int.reduceSub, Int.reduceNeg, Int.reduceMul, Nat.reduceSub, Nat.reduceEqDiff, Nat.reduceAdd, Nat.reduceMul, Nat.reduceLeDiff, ↓reduceIte, reduceCtorEq, Int.reduceToNat, Int.reduceLT, Int.reduceLE, Int.reduceEq]
              rw [num_take_succ xs k (by omega)]
              exact congrArg (Value.int .u64) (or8 hnk.1 h7 hxk.1 hxk.2)
            · simp only [go_sem, i64_wrap_id, Int.reduceAdd, Int.reduceSub, Int.reduceNeg, Int.reduceMul, Nat.reduceSub, Nat.reduceEqDiff, Nat.reduceAdd, Nat.reduceMul, Nat.reduceLeDiff, ↓reduceIte, reduceCtorEq, Int.reduceToNat, Int.reduceLT, Int.reduceLE, Int.reduceEq, h32, RowKit.intOf]
              omega
end Go.Proofs.Ytbgnaeagdneikaa
