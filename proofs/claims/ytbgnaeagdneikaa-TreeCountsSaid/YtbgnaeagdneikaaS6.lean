/- The statement ScrollBack, over the abstract memory. -/
import Derived.Test.YtbgnaeagdneikaaS5
namespace Go.Proofs.Ytbgnaeagdneikaa
open Go Go.Proofs.Ytbgnaeagdneikaa.Abs
set_option linter.unusedSimpArgs false
set_option linter.unusedVariables false

def backs (ps : List (Int × Int)) : List Int := ps.flatMap fun p => be (p.2 % 18446744073709551616) 8 ++ [p.1]
theorem backs_take (ps : List (Int × Int)) (k : Nat) (h : k < ps.length) : backs (ps.take (k + 1)) = (backs (ps.take k) ++ be (ps[k].2 % 18446744073709551616) 8) ++ [ps[k].1] := by
  rw [List.take_succ_eq_append_getElem h]
  unfold backs
  rw [List.flatMap_append]
  simp only [List.flatMap_cons, List.flatMap_nil, List.append_nil, List.append_assoc]
theorem backs_drop (ps : List (Int × Int)) (k : Nat) (h : k < ps.length) : backs (ps.drop k) = be (ps[k].2 % 18446744073709551616) 8 ++ ([ps[k].1] ++ backs (ps.drop (k + 1))) := by
  rw [List.drop_eq_getElem_cons h]
  unfold backs
  rw [List.flatMap_cons, List.append_assoc]
theorem backs_length (ps : List (Int × Int)) : (backs ps).length = ps.length * 9 := by
  induction ps with
  | nil => simp [backs]
  | cons p ps ih =>
    simp [backs, be_length] at ih ⊢
    omega
theorem be_byt (v : Int) (n : Nat) : Byt (be v n) := by
  induction n with
  | zero => simp [be, Byt]
  | succ n ih =>
    intro c hc
    simp only [be, List.mem_cons] at hc
    rcases hc with rfl | hc
    · omega
    · exact ih c hc
theorem Byt.append {xs ys : List Int} (h : Byt xs) (k : Byt ys) : Byt (xs ++ ys) := fun c hc => (List.mem_append.1 hc).elim (h c) (k c)
theorem backs_byt (ps : List (Int × Int)) (h : ∀ p ∈ ps, InU8 p.1) : Byt (backs ps) := by
  induction ps with
  | nil => simp [backs, Byt]
  | cons p ps ih =>
    unfold backs
    rw [List.flatMap_cons]
    refine ((be_byt _ _).append fun c hc => ?_).append (ih fun q hq => h q (by simp [hq]))
    simp at hc
    subst hc
    exact h p (by simp)
theorem num_be (n : Nat) : ∀ v : Int, 0 ≤ v → v < 256 ^ n → num (be v n) = v := by
  induction n with
  | zero => intro v h0 h1; simp at h1; simp [be, num]; omega
  | succ n ih =>
    intro v h0 h1
    rw [Int.pow_succ] at h1
    rw [be_low, num_snoc, ih (v / 256) (by omega) (by omega)]
    omega
theorem takeN_be (n : Nat) (v : Int) (r : List Int) (h0 : 0 ≤ v) (h1 : v < 256 ^ n) : takeN n (be v n ++ r) false = (v, r, false) := by
  have hl := be_length v n
  unfold takeN
  rw [if_neg (by simp [hl]), List.take_left' hl, List.drop_left' hl, num_be n v h0 h1]
theorem takeN_one (v : Int) (r : List Int) : takeN 1 ([v] ++ r) false = (v, r, false) := by
  simp [takeN, num]
theorem s64_mod {v : Int} (h : InI64 v) : s64 (v % 18446744073709551616) = v := by
  unfold s64
  rw [IntKind.wrap_i64]
  unfold InI64 at h
  omega

theorem InStep.old {S0 S S' : St} {i : Nat} {x x' : Value} (h : InStep S i x S' x') (hk : KeepsAll S0 S) (hi : S0.next ≤ i) : KeepsAll S0 S' :=
  hk.trans h.keep (fun j hj _ => by omega)

theorem scrollBack (x : Value) (n : Nat) (cs : List Value) (S : St) (hx : Sl S 2 x n cs) (hr : RowsOk pieceSh n cs) : ACalls Try.prog 5 [x] S fun r S' => r = .bool true := by
  obtain ⟨ps, hpl, rfl, hps⟩ := pieces_ok n cs hr
  refine ACalls.run hmix Try.func5 cF5 kF5 rfl fun hL Q hQ => ?_
  obtain ⟨ax, ex, hxv⟩ := hx.slice
  simp only [go_sem, i64_wrap_id, Int.reduceAdd, Int.reduceSub, Int.reduceNeg, Int.reduceMul, Nat.reduceSub, Nat.reduceEqDiff, Nat.reduceAdd, Nat.reduceMul, Nat.reduceLeDiff, ↓reduceIte, reduceCtorEq, Int.reduceToNat, Int.reduceLT, Int.reduceLE, Int.reduceEq, aF5]
  refine cK_of (awake05 S) ?_
  rintro r1 S1 hS1 hL1 ⟨rfl, hk1⟩
  by_cases hn : n ≤ 100
  · have hgt : ¬ ((n : Int) > 100) := by omega
    simp only [go_sem, i64_wrap_id, Int.reduceAdd, Int.reduceSub, Int.reduceNeg, Int.reduceMul, Nat.reduceSub, Nat.reduceEqDiff, Nat.reduceAdd, Nat.reduceMul, Nat.reduceLeDiff, ↓reduceIte, reduceCtorEq, Int.reduceToNat, Int.reduceLT, Int.reduceLE, Int.reduceEq, hxv, hgt]
    rw [← hxv]
    have hx1 : Sl S1 2 x n (pieceCells ps) := Sl.keeps hL hx hk1 fun _ _ => trivial
    have hkn0 := Keeps.of_new S1 ⟨false, [.slice none 0 0]⟩ fun _ => True
    refine lK_of (fun t' S' => ∃ k d, k ≤ n ∧ t' 0 = x ∧ t' 3 = ptr S1.next ∧ t' 16 = .int .i64 n ∧ t' 17 = .int .i64 k ∧ IsOut S' S1.next d (backs (ps.take k)) ∧ KeepsAll S1 S' ∧ Fresh S1 d) (fun t' _ => (n - RowKit.intOf (t' 17)).toNat) ?_ ?_
    · refine ⟨0, .slice none 0 0, by omega, ?_, ?_, ?_, ?_, ⟨by simp [St.blk_new], .inl ⟨rfl, rfl, rfl⟩, by simp [Value.blkOf]⟩, hkn0, fun d hd => by simp [Value.blkOf] at hd⟩
      · simp only [go_sem, i64_wrap_id, Int.reduceAdd, Int.reduceSub, Int.reduceNeg, Int.reduceMul, Nat.reduceSub, Nat.reduceEqDiff, Nat.reduceAdd, Nat.reduceMul, Nat.reduceLeDiff, ↓reduceIte, reduceCtorEq, Int.reduceToNat, Int.reduceLT, Int.reduceLE, Int.reduceEq]
      · simp only [go_sem, i64_wrap_id, Int.reduceAdd, Int.reduceSub, Int.reduceNeg, Int.reduceMul, Nat.reduceSub, Nat.reduceEqDiff, Nat.reduceAdd, Nat.reduceMul, Nat.reduceLeDiff, ↓reduceIte, reduceCtorEq, Int.reduceToNat, Int.reduceLT, Int.reduceLE, Int.reduceEq]
      · simp only [go_sem, i64_wrap_id, Int.reduceAdd, Int.reduceSub, Int.reduceNeg, Int.reduceMul, Nat.reduceSub, Nat.reduceEqDiff, Nat.reduceAdd, Nat.reduceMul, Nat.reduceLeDiff, ↓reduceIte, reduceCtorEq, Int.reduceToNat, Int.reduceLT, Int.reduceLE, Int.reduceEq]
      · simp only [go_sem, i64_wrap_id, Int.reduceAdd, Int.reduceSub, Int.reduceNeg, Int.reduceMul, Nat.reduceSub, Nat.reduceEqDiff, Nat.reduceAdd, Nat.reduceMul, Nat.reduceLeDiff, ↓reduceIte, reduceCtorEq, Int.reduceToNat, Int.reduceLT, Int.reduceLE, Int.reduceEq]; rfl
    · rintro t1 S2 Q1 ⟨k, d, hk, h0, h3, h16, h17, hO, hK, hfd⟩ hL2 hN hE
      have hxS : Sl S2 2 x n (pieceCells ps) := Sl.keeps hL1 hx1 hK fun _ _ => trivial
      have hwl := backs_length (ps.take k)
      have hwl' : (ps.take k).length ≤ 100 := by simp; omega
      by_cases hkn : k = n
      · subst hkn
        have : ¬ ((k : Int) < k) := by omega
        simp only [go_sem, i64_wrap_id, Int.reduceAdd, Int.reduceSub, Int.reduceNeg, Int.reduceMul, Nat.reduceSub, Nat.reduceEqDiff, Nat.reduceAdd, Nat.reduceMul, Nat.reduceLeDiff, ↓reduceIte, reduceCtorEq, Int.reduceToNat, Int.reduceLT, Int.reduceLE, Int.reduceEq, h16, h17, this]
        refine hE _ _ _ (by simp) ?_
        rw [List.take_of_length_le (by omega)] at hO hwl hwl'
        simp only [go_sem, i64_wrap_id, Int.reduceAdd, Int.reduceSub, Int.reduceNeg, Int.reduceMul, Nat.reduceSub, Nat.reduceEqDiff, Nat.reduceAdd, Nat.reduceMul, Nat.reduceLeDiff, ↓reduceIte, reduceCtorEq, Int.reduceToNat, Int.reduceLT, Int.reduceLE, Int.reduceEq, h3]
        refine cK_of (outBytes _ d _ S2 hO (by omega)) ?_
        rintro b S3 hS3 hL3 ⟨hB, hK3, hF3⟩
        simp only [go_sem, i64_wrap_id, Int.reduceAdd, Int.reduceSub, Int.reduceNeg, Int.reduceMul, Nat.reduceSub, Nat.reduceEqDiff, Nat.reduceAdd, Nat.reduceMul, Nat.reduceLeDiff, ↓reduceIte, reduceCtorEq, Int.reduceToNat, Int.reduceLT, Int.reduceLE, Int.reduceEq]
        refine cK_of (newIn b _ S3 hB.sl (backs_byt ps fun p hp => (hps p hp).1) (by omega)) ?_
        rintro r4 S4 hS4 hL4 ⟨i, xi, rfl, hI, hK4, hi4, hF4⟩
        have hK14 : KeepsAll S1 S4 := (hK.trans hK3 fun _ _ _ => trivial).trans hK4 fun _ _ _ => trivial
        have hxlen : ∃ a e, x = .slice a k e := ⟨_, _, hxv⟩
        simp only [go_sem, i64_wrap_id, Int.reduceAdd, Int.reduceSub, Int.reduceNeg, Int.reduceMul, Nat.reduceSub, Nat.reduceEqDiff, Nat.reduceAdd, Nat.reduceMul, Nat.reduceLeDiff, ↓reduceIte, reduceCtorEq, Int.reduceToNat, Int.reduceLT, Int.reduceLE, Int.reduceEq, h0, hxv]
        rw [← hxv]
        refine lK_of (fun t' S' => ∃ k' xi, k' ≤ k ∧ t' 0 = x ∧ t' 5 = ptr i ∧ t' 36 = .int .i64 k ∧ t' 37 = .int .i64 k' ∧ IsIn S' i xi (backs (ps.drop k')) false ∧ KeepsAll S1 S') (fun t' _ => (k - RowKit.intOf (t' 37)).toNat) ?_ ?_
        · refine ⟨0, xi, by omega, ?_, ?_, ?_, ?_, by simpa using hI, hK14⟩
          · simp only [go_sem, i64_wrap_id, Int.reduceAdd, Int.reduceSub, Int.reduceNeg, Int.reduceMul, Nat.reduceSub, Nat.reduceEqDiff, Nat.reduceAdd, Nat.reduceMul, Nat.reduceLeDiff, ↓reduceIte, reduceCtorEq, Int.reduceToNat, Int.reduceLT, Int.reduceLE, Int.reduceEq, h0]
          · simp only [go_sem, i64_wrap_id, Int.reduceAdd, Int.reduceSub, Int.reduceNeg, Int.reduceMul, Nat.reduceSub, Nat.reduceEqDiff, Nat.reduceAdd, Nat.reduceMul, Nat.reduceLeDiff, ↓reduceIte, reduceCtorEq, Int.reduceToNat, Int.reduceLT, Int.reduceLE, Int.reduceEq]
          · simp only [go_sem, i64_wrap_id, Int.reduceAdd, Int.reduceSub, Int.reduceNeg, Int.reduceMul, Nat.reduceSub, Nat.reduceEqDiff, Nat.reduceAdd, Nat.reduceMul, Nat.reduceLeDiff, ↓reduceIte, reduceCtorEq, Int.reduceToNat, Int.reduceLT, Int.reduceLE, Int.reduceEq]
          · simp only [go_sem, i64_wrap_id, Int.reduceAdd, Int.reduceSub, Int.reduceNeg, Int.reduceMul, Nat.reduceSub, Nat.reduceEqDiff, Nat.reduceAdd, Nat.reduceMul, Nat.reduceLeDiff, ↓reduceIte, reduceCtorEq, Int.reduceToNat, Int.reduceLT, Int.reduceLE, Int.reduceEq]; rfl
        · rintro t3 S5 Q3 ⟨k', xi5, hk', g0, g5, g36, g37, hI5, hK5⟩ hL5 hN5 hE5
          have hx5 : Sl S5 2 x k (pieceCells ps) := Sl.keeps hL1 hx1 hK5 fun _ _ => trivial
          by_cases hkn : k' = k
          · subst hkn
            have : ¬ ((k' : Int) < k') := by omega
            simp only [go_sem, i64_wrap_id, Int.reduceAdd, Int.reduceSub, Int.reduceNeg, Int.reduceMul, Nat.reduceSub, Nat.reduceEqDiff, Nat.reduceAdd, Nat.reduceMul, Nat.reduceLeDiff, ↓reduceIte, reduceCtorEq, Int.reduceToNat, Int.reduceLT, Int.reduceLE, Int.reduceEq, g36, g37, this]
            refine hE5 _ _ _ (by simp) ?_
            rw [List.drop_eq_nil_of_le (by omega)] at hI5
            simp only [go_sem, i64_wrap_id, Int.reduceAdd, Int.reduceSub, Int.reduceNeg, Int.reduceMul, Nat.reduceSub, Nat.reduceEqDiff, Nat.reduceAdd, Nat.reduceMul, Nat.reduceLeDiff, ↓reduceIte, reduceCtorEq, Int.reduceToNat, Int.reduceLT, Int.reduceLE, Int.reduceEq, g5]
            refine cK_of (inDone i xi5 _ _ S5 hI5) ?_
            rintro r6 S6 hS6 hL6 ⟨rfl, rfl⟩
            rw [show (!false && (((backs []).length : Int) == 0)) = true from rfl]
            simp only [go_sem, i64_wrap_id, Int.reduceAdd, Int.reduceSub, Int.reduceNeg, Int.reduceMul, Nat.reduceSub, Nat.reduceEqDiff, Nat.reduceAdd, Nat.reduceMul, Nat.reduceLeDiff, ↓reduceIte, reduceCtorEq, Int.reduceToNat, Int.reduceLT, Int.reduceLE, Int.reduceEq, g5]
            refine cK_of (inBad i xi5 _ _ S6 hI5) ?_
            rintro r7 S7 hS7 hL7 ⟨rfl, rfl⟩
            simp only [go_sem, i64_wrap_id, Int.reduceAdd, Int.reduceSub, Int.reduceNeg, Int.reduceMul, Nat.reduceSub, Nat.reduceEqDiff, Nat.reduceAdd, Nat.reduceMul, Nat.reduceLeDiff, ↓reduceIte, reduceCtorEq, Int.reduceToNat, Int.reduceLT, Int.reduceLE, Int.reduceEq]
            refine hQ _ _ _ ?_; (first | rw [k_body_ret] | rw [k_body_normal]); simp only [resVals, resVal, ev, Env.get_put, ↓reduceIte, Nat.reduceEqDiff, Option.bind_some, Option.map_some, reduceCtorEq, ldv_true, ldv_false, lloadV_agg, partL, List.toList_toArray, cellsOf_set, cellsOf_new, rd_set, rd_new, List.length_cons, List.length_nil, Nat.reduceAdd, Nat.reduceLeDiff, Nat.le_refl, List.take_succ_cons, List.take_zero, List.drop_zero, Nat.add_eq_left, Nat.left_eq_add, List.getElem?_cons_zero, List.getElem?_cons_succ, aF5]; rw [retQ_some]; simp only [oneOr]
          · obtain ⟨dx, ox, ex, hxe, _, hc⟩ := hx5.ne (by omega)
            have hdx : dx < S1.next := Sl.lt hL1 hx1 (by rw [hxe]; rfl)
            have hlt : ((k' : Int) < k) := by omega
            have hk0 : (0 : Int) ≤ k' := by omega
            have hk1 : IntKind.i64.wrap ((k' : Int) + 1) = k' + 1 := wrap64_id (by omega) (by omega)
            obtain ⟨e0, e1, e2⟩ := piece_rd hc hpl k' (by omega)
            have hp := hps (ps[k']'(by omega)) (List.getElem_mem _)
            have hI5' := hI5
            rw [backs_drop ps k' (by omega)] at hI5'
            have htk := takeN_be 8 ((ps[k']'(by omega)).2 % 18446744073709551616) ([(ps[k']'(by omega)).1] ++ backs (ps.drop (k' + 1))) (by omega) (by omega)
            have hs64 := s64_mod hp.2
            have hiS : S1.next ≤ i := by have := hK.1; have := hK3.1; omega
            simp only [go_sem, i64_wrap_id, Int.reduceAdd, Int.reduceSub, Int.reduceNeg, Int.reduceMul, Nat.reduceSub, Nat.reduceEqDiff, Nat.reduceAdd, Nat.reduceMul, Nat.reduceLeDiff, ↓reduceIte, reduceCtorEq, Int.reduceToNat, Int.reduceLT, Int.reduceLE, Int.reduceEq, g0, g5, g36, g37, hlt, hxe, hk0, Int.toNat_natCast, e1]
            refine ⟨?_, ?_⟩ <;>
            · refine cK_of (inEight i xi5 _ _ S5 hI5') ?_
              rintro r6 S6 hS6 hL6 ⟨rfl, xi6, hI6, hs6⟩
              rw [htk] at hI6
              have hK6 := hs6.old hK5 hiS
              have e0' : rd S6 dx (ox + k' * 2) = some (.int .u8 (ps[k']'(by omega)).1) := by rw [rd_congr (S := S5) (by rw [hK6.2 dx hdx trivial, hK5.2 dx hdx trivial])]; exact e0
              have e1' : rd S6 dx (ox + k' * 2 + 1) = some (.int .i64 (ps[k']'(by omega)).2) := by rw [rd_congr (S := S5) (by rw [hK6.2 dx hdx trivial, hK5.2 dx hdx trivial])]; exact e1
              simp only [htk, hs64]
              simp only [go_sem, i64_wrap_id, Int.reduceAdd, Int.reduceSub, Int.reduceNeg, Int.reduceMul, Nat.reduceSub, Nat.reduceEqDiff, Nat.reduceAdd, Nat.reduceMul, Nat.reduceLeDiff, ↓reduceIte, reduceCtorEq, Int.reduceToNat, Int.reduceLT, Int.reduceLE, Int.reduceEq, g0, g5, e1', hxe, hlt, hk0, Int.toNat_natCast, e0']
              refine ⟨?_, ?_⟩ <;>
              · refine cK_of (inByte i xi6 _ _ S6 hI6) ?_
                rintro r7 S7 hS7 hL7 ⟨rfl, xi7, hI7, hs7⟩
                rw [takeN_one] at hI7
                have hK7 := hs7.old hK6 hiS
                have e0'' : rd S7 dx (ox + k' * 2) = some (.int .u8 (ps[k']'(by omega)).1) := by rw [rd_congr (S := S5) (by rw [hK7.2 dx hdx trivial, hK5.2 dx hdx trivial])]; exact e0
                simp only [takeN_one]
                simp only [go_sem, i64_wrap_id, Int.reduceAdd, Int.reduceSub, Int.reduceNeg, Int.reduceMul, Nat.reduceSub, Nat.reduceEqDiff, Nat.reduceAdd, Nat.reduceMul, Nat.reduceLeDiff, ↓reduceIte, reduceCtorEq, Int.reduceToNat, Int.reduceLT, Int.reduceLE, Int.reduceEq, e0'', g37, hk1]
                refine hN5 _ _ ⟨k' + 1, xi7, by omega, ?_, ?_, ?_, ?_, hI7, hK7⟩ ?_
                · simp only [go_sem, i64_wrap_id, Int.reduceAdd, Int.reduceSub, Int.reduceNeg, Int.reduceMul, Nat.reduceSub, Nat.reduceEqDiff, Nat.reduceAdd, Nat.reduceMul, Nat.reduceLeDiff, ↓reduceIte, reduceCtorEq, Int.reduceToNat, Int.reduceLT, Int.reduceLE, Int.reduceEq, g0]
                · simp only [go_sem, i64_wrap_id, Int.reduceAdd, Int.reduceSub, Int.reduceNeg, Int.reduceMul, Nat.reduceSub, Nat.reduceEqDiff, Nat.reduceAdd, Nat.reduceMul, Nat.reduceLeDiff, ↓reduceIte, reduceCtorEq, Int.reduceToNat, Int.reduceLT, Int.reduceLE, Int.reduceEq, g5]
                · simp only [go_sem, i64_wrap_id, Int.reduceAdd, Int.reduceSub, Int.reduceNeg, Int.reduceMul, Nat.reduceSub, Nat.reduceEqDiff, Nat.reduceAdd, Nat.reduceMul, Nat.reduceLeDiff, ↓reduceIte, reduceCtorEq, Int.reduceToNat, Int.reduceLT, Int.reduceLE, Int.reduceEq, g36]
                · simp only [go_sem, i64_wrap_id, Int.reduceAdd, Int.reduceSub, Int.reduceNeg, Int.reduceMul, Nat.reduceSub, Nat.reduceEqDiff, Nat.reduceAdd, Nat.reduceMul, Nat.reduceLeDiff, ↓reduceIte, reduceCtorEq, Int.reduceToNat, Int.reduceLT, Int.reduceLE, Int.reduceEq]; congr 1
                · simp only [go_sem, i64_wrap_id, Int.reduceAdd, Int.reduceSub, Int.reduceNeg, Int.reduceMul, Nat.reduceSub, Nat.reduceEqDiff, Nat.reduceAdd, Nat.reduceMul, Nat.reduceLeDiff, ↓reduceIte, reduceCtorEq, Int.reduceToNat, Int.reduceLT, Int.reduceLE, Int.reduceEq, g37, RowKit.intOf]
                  omega
      · obtain ⟨dx, ox, ex, hxe, _, hc⟩ := hxS.ne (by omega)
        have hdx : dx < S1.next := Sl.lt hL1 hx1 (by rw [hxe]; rfl)
        have hlt : ((k : Int) < n) := by omega
        have hk0 : (0 : Int) ≤ k := by omega
        have hk1 : IntKind.i64.wrap ((k : Int) + 1) = k + 1 := wrap64_id (by omega) (by omega)
        obtain ⟨e0, e1, e2⟩ := piece_rd hc hpl k (by omega)
        have hp := hps (ps[k]'(by omega)) (List.getElem_mem _)
        simp only [go_sem, i64_wrap_id, Int.reduceAdd, Int.reduceSub, Int.reduceNeg, Int.reduceMul, Nat.reduceSub, Nat.reduceEqDiff, Nat.reduceAdd, Nat.reduceMul, Nat.reduceLeDiff, ↓reduceIte, reduceCtorEq, Int.reduceToNat, Int.reduceLT, Int.reduceLE, Int.reduceEq, h0, h3, h16, h17, hlt, hxe, hk0, Int.toNat_natCast, e1]
        refine cK_of (outEight _ d _ _ S2 hO (by omega)) ?_
        rintro r3 S3 hS3 hL3 ⟨rfl, d3, hO3, hs3⟩
        obtain ⟨hK3, hfd3⟩ := hs3.old hK (Nat.le_refl _) hfd
        have e0' : rd S3 dx (ox + k * 2) = some (.int .u8 (ps[k]'(by omega)).1) := by rw [rd_congr (S := S2) (by rw [hK3.2 dx hdx trivial, hK.2 dx hdx trivial])]; exact e0
        simp only [go_sem, i64_wrap_id, Int.reduceAdd, Int.reduceSub, Int.reduceNeg, Int.reduceMul, Nat.reduceSub, Nat.reduceEqDiff, Nat.reduceAdd, Nat.reduceMul, Nat.reduceLeDiff, ↓reduceIte, reduceCtorEq, Int.reduceToNat, Int.reduceLT, Int.reduceLE, Int.reduceEq, h0, h3, h16, h17, hxe, hlt, hk0, Int.toNat_natCast, e0']
        refine cK_of (outByte _ d3 _ _ S3 hO3 hp.1.1 hp.1.2 (by simp [be_length]; omega)) ?_
        rintro r4 S4 hS4 hL4 ⟨rfl, d4, hO4, hs4⟩
        obtain ⟨hK4, hfd4⟩ := hs4.old hK3 (Nat.le_refl _) hfd3
        simp only [go_sem, i64_wrap_id, Int.reduceAdd, Int.reduceSub, Int.reduceNeg, Int.reduceMul, Nat.reduceSub, Nat.reduceEqDiff, Nat.reduceAdd, Nat.reduceMul, Nat.reduceLeDiff, ↓reduceIte, reduceCtorEq, Int.reduceToNat, Int.reduceLT, Int.reduceLE, Int.reduceEq, h17, hk1]
        refine hN _ _ ⟨k + 1, d4, by omega, ?_, ?_, ?_, ?_, by rw [backs_take ps k (by omega)]; exact hO4, hK4, hfd4⟩ ?_
        · simp only [go_sem, i64_wrap_id, Int.reduceAdd, Int.reduceSub, Int.reduceNeg, Int.reduceMul, Nat.reduceSub, Nat.reduceEqDiff, Nat.reduceAdd, Nat.reduceMul, Nat.reduceLeDiff, ↓reduceIte, reduceCtorEq, Int.reduceToNat, Int.reduceLT, Int.reduceLE, Int.reduceEq, h0]
        · simp only [go_sem, i64_wrap_id, Int.reduceAdd, Int.reduceSub, Int.reduceNeg, Int.reduceMul, Nat.reduceSub, Nat.reduceEqDiff, Nat.reduceAdd, Nat.reduceMul, Nat.reduceLeDiff, ↓reduceIte, reduceCtorEq, Int.reduceToNat, Int.reduceLT, Int.reduceLE, Int.reduceEq, h3]
        · simp only [go_sem, i64_wrap_id, Int.reduceAdd, Int.reduceSub, Int.reduceNeg, Int.reduceMul, Nat.reduceSub, Nat.reduceEqDiff, Nat.reduceAdd, Nat.reduceMul, Nat.reduceLeDiff, ↓reduceIte, reduceCtorEq, Int.reduceToNat, Int.reduceLT, Int.reduceLE, Int.reduceEq, h16]
        · simp only [go_sem, i64_wrap_id, Int.reduceAdd, Int.reduceSub, Int.reduceNeg, Int.reduceMul, Nat.reduceSub, Nat.reduceEqDiff, Nat.reduceAdd, Nat.reduceMul, Nat.reduceLeDiff, ↓reduceIte, reduceCtorEq, Int.reduceToNat, Int.reduceLT, Int.reduceLE, Int.reduceEq]; congr 1
        · simp only [go_sem, i64_wrap_id, Int.reduceAdd, Int.reduceSub, Int.reduceNeg, Int.reduceMul, Nat.reduceSub, Nat.reduceEqDiff, Nat.reduceAdd, Nat.reduceMul, Nat.reduceLeDiff, ↓reduceIte, reduceCtorEq, Int.reduceToNat, Int.reduceLT, Int.reduceLE, Int.reduceEq, h17, RowKit.intOf]
          omega
  · have hgt : ((n : Int) > 100) := by omega
    simp only [go_sem, i64_wrap_id, Int.reduceAdd, Int.reduceSub, Int.reduceNeg, Int.reduceMul, Nat.reduceSub, Nat.reduceEqDiff, Nat.reduceAdd, Nat.reduceMul, Nat.reduceLeDiff, ↓reduceIte, reduceCtorEq, Int.reduceToNat, Int.reduceLT, Int.reduceLE, Int.reduceEq, hxv, hgt]
    refine cK_of (awake05 S1) ?_
    rintro r1 S1 hS1 hL1 ⟨rfl, hk1⟩
    simp only [go_sem, i64_wrap_id, Int.reduceAdd, Int.reduceSub, Int.reduceNeg, Int.reduceMul, Nat.reduceSub, Nat.reduceEqDiff, Nat.reduceAdd, Nat.reduceMul, Nat.reduceLeDiff, ↓reduceIte, reduceCtorEq, Int.reduceToNat, Int.reduceLT, Int.reduceLE, Int.reduceEq]
    refine hQ _ _ _ ?_; (first | rw [k_body_ret] | rw [k_body_normal]); simp only [resVals, resVal, ev, Env.get_put, ↓reduceIte, Nat.reduceEqDiff, Option.bind_some, Option.map_some, reduceCtorEq, ldv_true, ldv_false, lloadV_agg, partL, List.toList_toArray, cellsOf_set, cellsOf_new, rd_set, rd_new, List.length_cons, List.length_nil, Nat.reduceAdd, Nat.reduceLeDiff, Nat.le_refl, List.take_succ_cons, List.take_zero, List.drop_zero, Nat.add_eq_left, Nat.left_eq_add, List.getElem?_cons_zero, List.getElem?_cons_succ, aF5]; rw [retQ_some]; simp only [oneOr]
end Go.Proofs.Ytbgnaeagdneikaa
