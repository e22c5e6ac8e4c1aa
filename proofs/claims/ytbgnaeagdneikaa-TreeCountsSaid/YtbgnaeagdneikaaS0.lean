/- The bytes that come to be and are taken (scroll), over the abstract memory. -/
import Derived.Test.YtbgnaeagdneikaaCoreAl
import Derived.Test.YtbgnaeagdneikaaSeatC0
import Derived.Test.YtbgnaeagdneikaaSeatC1
namespace Go.Proofs.Ytbgnaeagdneikaa
open Go Go.Proofs.Ytbgnaeagdneikaa.Abs
set_option linter.unusedSimpArgs false
set_option linter.unusedVariables false
theorem hmix : Try.prog.follows .mixedOrders = true := by kernel_rfl

theorem clone_any (v : Value) (xs : List Int) (S : St) (h : Bs S v xs) (hlen : xs.length ≤ 1000000000) : ACalls Try.prog 69 [v] S fun r S' => OwnBs S' r xs ∧ KeepsAll S S' ∧ ∀ d, Value.blkOf r = some d → S.next ≤ d := by
  refine ACalls.run hmix Try.func69 cF69 kF69 rfl fun hL Q hQ => ?_
  simp only [go_sem, i64_wrap_id, Int.reduceAdd, Int.reduceSub, Int.reduceNeg, Int.reduceMul, Nat.reduceSub, Nat.reduceEqDiff, Nat.reduceAdd, Nat.reduceMul, Nat.reduceLeDiff, ↓reduceIte, reduceCtorEq, Int.reduceToNat, Int.reduceLT, Int.reduceLE, Int.reduceEq, aF69]
  rcases h with ⟨rfl, h0, hcs⟩ | ⟨d, o, e, rfl, he, hc⟩
  · simp only [go_sem, i64_wrap_id, Int.reduceAdd, Int.reduceSub, Int.reduceNeg, Int.reduceMul, Nat.reduceSub, Nat.reduceEqDiff, Nat.reduceAdd, Nat.reduceMul, Nat.reduceLeDiff, ↓reduceIte, reduceCtorEq, Int.reduceToNat, Int.reduceLT, Int.reduceLE, Int.reduceEq]
    refine hQ _ _ _ ?_; (first | rw [k_body_ret] | rw [k_body_normal]); simp only [resVals, resVal, ev, Env.get_put, ↓reduceIte, Nat.reduceEqDiff, Option.bind_some, Option.map_some, reduceCtorEq, ldv_true, ldv_false, lloadV_agg, partL, List.toList_toArray, cellsOf_set, cellsOf_new, rd_set, rd_new, List.length_cons, List.length_nil, Nat.reduceAdd, Nat.reduceLeDiff, Nat.le_refl, List.take_succ_cons, List.take_zero, List.drop_zero, Nat.add_eq_left, Nat.left_eq_add, List.getElem?_cons_zero, List.getElem?_cons_succ, aF69]; rw [retQ_some]; simp only [oneOr]
    exact ⟨.inl ⟨rfl, h0, hcs⟩, Keeps.refl _ _, fun d hd => by simp [Value.blkOf] at hd⟩
  · have hd : d ≠ S.next := fun e' => by
      have := Sl.lt hL (v := .slice (some ⟨d, o, none⟩) xs.length e) (.inr ⟨d, o, e, rfl, he, hc⟩) (d := d) rfl
      omega
    simp only [go_sem, i64_wrap_id, Int.reduceAdd, Int.reduceSub, Int.reduceNeg, Int.reduceMul, Nat.reduceSub, Nat.reduceEqDiff, Nat.reduceAdd, Nat.reduceMul, Nat.reduceLeDiff, ↓reduceIte, reduceCtorEq, Int.reduceToNat, Int.reduceLT, Int.reduceLE, Int.reduceEq]
    refine hK_of (append_own (R := fun r S' => OwnBs S' r xs ∧ KeepsAll S S' ∧ ∀ d, Value.blkOf r = some d → S.next ≤ d) (cs := []) (ds := bytesV xs) (by omega) (.inr ⟨S.next, rfl, by simp [St.blk_new], rfl⟩) (.inr ⟨d, o, e, rfl, he, by rw [cellsOf_new, if_neg hd]; exact hc⟩) (by omega) fun v S' h1 h2 h3 => ?_) fun v S' hv => ?_
    · simp only [Nat.zero_add, List.nil_append] at h1
      refine ⟨h1, (Keeps.of_new S _ _).trans h2 (fun i hi _ => by simp [Value.blkOf]; omega), fun d hd => ?_⟩
      rcases h3 d hd with h | h
      · simp [Value.blkOf] at h; omega
      · simp [St.next_new] at h; omega
    · simp only [go_sem, i64_wrap_id, Int.reduceAdd, Int.reduceSub, Int.reduceNeg, Int.reduceMul, Nat.reduceSub, Nat.reduceEqDiff, Nat.reduceAdd, Nat.reduceMul, Nat.reduceLeDiff, ↓reduceIte, reduceCtorEq, Int.reduceToNat, Int.reduceLT, Int.reduceLE, Int.reduceEq]
      refine hQ _ _ _ ?_; (first | rw [k_body_ret] | rw [k_body_normal]); simp only [resVals, resVal, ev, Env.get_put, ↓reduceIte, Nat.reduceEqDiff, Option.bind_some, Option.map_some, reduceCtorEq, ldv_true, ldv_false, lloadV_agg, partL, List.toList_toArray, cellsOf_set, cellsOf_new, rd_set, rd_new, List.length_cons, List.length_nil, Nat.reduceAdd, Nat.reduceLeDiff, Nat.le_refl, List.take_succ_cons, List.take_zero, List.drop_zero, Nat.add_eq_left, Nat.left_eq_add, List.getElem?_cons_zero, List.getElem?_cons_succ, aF69]; rw [retQ_some]; simp only [oneOr]
      exact hv
/-! ### Out -/
/-- The bytes that were put, and the block that bears them. -/
def IsOut (S : St) (o : Nat) (v : Value) (bs : List Int) : Prop := S.blk o = some ⟨false, [v]⟩ ∧ OwnBs S v bs ∧ Value.blkOf v ≠ some o

/-- A step of an Out: what else there is stays; its bytes may lie in a new block. -/
structure OutStep (S : St) (o : Nat) (v : Value) (S' : St) (v' : Value) : Prop where
  keep : Keeps S S' fun i => i ≠ o ∧ Value.blkOf v ≠ some i
  data : ∀ i, Value.blkOf v' = some i → Value.blkOf v = some i ∨ S.next ≤ i

theorem OutStep.refl (S : St) (o : Nat) (v : Value) : OutStep S o v S v := ⟨Keeps.refl _ _, fun i h => .inl h⟩
theorem OutStep.trans {S S' S'' : St} {o : Nat} {v v' v'' : Value} (h : OutStep S o v S' v') (k : OutStep S' o v' S'' v'') : OutStep S o v S'' v'' := by
  refine ⟨h.keep.trans k.keep (fun i hi hp => ⟨hp.1, fun e => ?_⟩), fun i hi => ?_⟩
  · rcases h.data i e with h' | h'
    · exact hp.2 h'
    · omega
  · rcases k.data i hi with h' | h'
    · exact h.data i h'
    · exact .inr (Nat.le_trans h.keep.1 h')

/-- A number's bytes, the greatest first. -/
def be (v : Int) : Nat → List Int
  | 0 => []
  | n + 1 => (v / 2 ^ (8 * n)) % 256 :: be v n
theorem be_length (v : Int) (n : Nat) : (be v n).length = n := by induction n with | zero => rfl | succ n ih => simp [be, ih]

/-- The first k of n bytes. -/
def beTo (v : Int) (n : Nat) : Nat → List Int
  | 0 => []
  | k + 1 => beTo v n k ++ [(v / 2 ^ (8 * (n - 1 - k))) % 256]
theorem beTo_length (v : Int) (n k : Nat) : (beTo v n k).length = k := by induction k with | zero => rfl | succ k ih => simp [beTo, ih]
theorem beTo_all (v : Int) (n : Nat) : beTo v n n = be v n := by
  have key : ∀ k m, k + m = n → be v n = beTo v n k ++ be v m := by
    intro k
    induction k with
    | zero => intro m hm; simp at hm; subst hm; rfl
    | succ k ih =>
      intro m hm
      rw [ih (m + 1) (by omega), beTo, be, List.append_assoc]
      simp
      congr 3
      omega
  have := key n 0 (by omega)
  simp [be] at this
  exact this.symm

theorem wrap8 (n : Int) : IntKind.u8.wrap n = n % 256 := by simp [IntKind.wrap, IntKind.signed, IntKind.bits]
theorem wrap64u (n : Int) : IntKind.u64.wrap n = n % 18446744073709551616 := by simp [IntKind.wrap, IntKind.signed, IntKind.bits]
theorem wrap32u (n : Int) : IntKind.u32.wrap n = n % 4294967296 := by simp [IntKind.wrap, IntKind.signed, IntKind.bits]
theorem wrap64_id {n : Int} (h0 : -9223372036854775808 ≤ n) (h1 : n < 9223372036854775808) : IntKind.i64.wrap n = n := by
  rw [IntKind.wrap_i64]; omega

theorem fdiv_pow (v : Int) (k : Nat) : v.fdiv (2 ^ k) = v / 2 ^ k := by
  rw [Int.fdiv_eq_ediv_of_nonneg]
  exact Int.le_of_lt (Int.pow_pos (by omega))

theorem wide_any (o : Nat) (d : Value) (bs : List Int) (v : Int) (n : Nat) (S : St) (h : IsOut S o d bs) (hn : n ≤ 8) (hlen : bs.length ≤ 1000000000) :
    ACalls Try.prog 68 [.pointer (some ⟨o, 0, none⟩), .int .u64 v, .int .i64 n] S fun r S' => r = .tuple #[] ∧ ∃ d', IsOut S' o d' (bs ++ be v n) ∧ OutStep S o d S' d' := by
  refine ACalls.run hmix Try.func68 cF68 kF68 rfl fun hL Q hQ => ?_
  simp only [go_sem, i64_wrap_id, Int.reduceAdd, Int.reduceSub, Int.reduceNeg, Int.reduceMul, Nat.reduceSub, Nat.reduceEqDiff, Nat.reduceAdd, Nat.reduceMul, Nat.reduceLeDiff, ↓reduceIte, reduceCtorEq, Int.reduceToNat, Int.reduceLT, Int.reduceLE, Int.reduceEq, aF68]
  rw [wrap64_id (by omega) (by omega)]
  refine lK_of (fun t' S' => ∃ k d', k ≤ n ∧ t' 0 = .pointer (some ⟨o, 0, none⟩) ∧ t' 1 = .int .u64 v ∧ t' 6 = .int .i64 (n - 1 - k) ∧ IsOut S' o d' (bs ++ beTo v n k) ∧ OutStep S o d S' d')
    (fun t' _ => (RowKit.intOf (t' 6) + 1).toNat) ?_ ?_
  · exact ⟨0, d, by omega, by simp only [go_sem, i64_wrap_id, Int.reduceAdd, Int.reduceSub, Int.reduceNeg, Int.reduceMul, Nat.reduceSub, Nat.reduceEqDiff, Nat.reduceAdd, Nat.reduceMul, Nat.reduceLeDiff, ↓reduceIte, reduceCtorEq, Int.reduceToNat, Int.reduceLT, Int.reduceLE, Int.reduceEq], by simp only [go_sem, i64_wrap_id, Int.reduceAdd, Int.reduceSub, Int.reduceNeg, Int.reduceMul, Nat.reduceSub, Nat.reduceEqDiff, Nat.reduceAdd, Nat.reduceMul, Nat.reduceLeDiff, ↓reduceIte, reduceCtorEq, Int.reduceToNat, Int.reduceLT, Int.reduceLE, Int.reduceEq], by simp only [go_sem, i64_wrap_id, Int.reduceAdd, Int.reduceSub, Int.reduceNeg, Int.reduceMul, Nat.reduceSub, Nat.reduceEqDiff, Nat.reduceAdd, Nat.reduceMul, Nat.reduceLeDiff, ↓reduceIte, reduceCtorEq, Int.reduceToNat, Int.reduceLT, Int.reduceLE, Int.reduceEq]; simp, by simpa [beTo] using h, OutStep.refl _ _ _⟩
  · rintro t1 S1 Q1 ⟨k, d1, hk, h0, h1, h6, hO, hS⟩ hL1 hN hE
    by_cases hkn : k = n
    · subst hkn
      have : ¬ ((k : Int) - 1 - k ≥ 0) := by omega
      simp only [go_sem, i64_wrap_id, Int.reduceAdd, Int.reduceSub, Int.reduceNeg, Int.reduceMul, Nat.reduceSub, Nat.reduceEqDiff, Nat.reduceAdd, Nat.reduceMul, Nat.reduceLeDiff, ↓reduceIte, reduceCtorEq, Int.reduceToNat, Int.reduceLT, Int.reduceLE, Int.reduceEq, h0, h1, h6, this]
      refine hE _ _ _ (by simp) ?_
      simp only [go_sem, i64_wrap_id, Int.reduceAdd, Int.reduceSub, Int.reduceNeg, Int.reduceMul, Nat.reduceSub, Nat.reduceEqDiff, Nat.reduceAdd, Nat.reduceMul, Nat.reduceLeDiff, ↓reduceIte, reduceCtorEq, Int.reduceToNat, Int.reduceLT, Int.reduceLE, Int.reduceEq]
      refine hQ _ _ _ ?_; (first | rw [k_body_ret] | rw [k_body_normal]); simp only [resVals, resVal, ev, Env.get_put, ↓reduceIte, Nat.reduceEqDiff, Option.bind_some, Option.map_some, reduceCtorEq, ldv_true, ldv_false, lloadV_agg, partL, List.toList_toArray, cellsOf_set, cellsOf_new, rd_set, rd_new, List.length_cons, List.length_nil, Nat.reduceAdd, Nat.reduceLeDiff, Nat.le_refl, List.take_succ_cons, List.take_zero, List.drop_zero, Nat.add_eq_left, Nat.left_eq_add, List.getElem?_cons_zero, List.getElem?_cons_succ, aF68]; rw [retQ_some]; simp only [oneOr]
      exact ⟨trivial, d1, by rw [← beTo_all]; exact hO, hS⟩
    · have hge : ((n : Int) - 1 - k ≥ 0) := by omega
      obtain ⟨hb, hown, hne⟩ := hO
      have hmul : IntKind.i64.wrap (8 * ((n : Int) - 1 - k)) = 8 * ((n : Int) - 1 - k) := wrap64_id (by omega) (by omega)
      have hneg : ¬ (8 * ((n : Int) - 1 - k) < 0) := by omega
      have hr := rd_of_blk hb 0
      have ho : o < S1.next := hL1 _ _ hb
      have hon : o ≠ S1.next := by omega
      simp only [go_sem, i64_wrap_id, Int.reduceAdd, Int.reduceSub, Int.reduceNeg, Int.reduceMul, Nat.reduceSub, Nat.reduceEqDiff, Nat.reduceAdd, Nat.reduceMul, Nat.reduceLeDiff, ↓reduceIte, reduceCtorEq, Int.reduceToNat, Int.reduceLT, Int.reduceLE, Int.reduceEq, h0, h1, h6, hge, hmul, hneg, hr, hon]
      have hbyte : IntKind.u8.wrap (v.fdiv (2 ^ min (8 * ((n : Int) - 1 - k)).toNat 64)) = (v / 2 ^ (8 * (n - 1 - k))) % 256 := by
        rw [wrap8, fdiv_pow]
        congr 3
        omega
      rw [hbyte]
      refine ⟨?_, ?_⟩ <;>
      · refine hK_of (append_own (k := 1) (ds := bytesV [(v / 2 ^ (8 * (n - 1 - k))) % 256]) (by omega) (hown.keep (fun i hi => ?_)) (.inr ⟨S1.next, 0, 1, rfl, .inr rfl, by simp [cellsOf_new, bytesV]⟩) ?_ (R := fun v' S' => OwnBs S' v' (bs ++ beTo v n (k + 1)) ∧ Keeps S1 S' (fun i => Value.blkOf d1 ≠ some i) ∧ (∀ i, Value.blkOf v' = some i → Value.blkOf d1 = some i ∨ S1.next ≤ i)) ?_) ?_
        · rw [St.blk_new, if_neg (Nat.ne_of_lt (hown.sl.lt hL1 hi))]
        · simp [beTo_length]; omega
        · intro v' S' h1 h2 h3
          refine ⟨?_, (Keeps.of_new S1 _ _).trans h2 (fun i _ hp => hp), fun i hi => ?_⟩
          · unfold OwnBs
            rw [beTo, ← List.append_assoc, bytesV_append]
            simpa [Nat.add_assoc] using h1
          · rcases h3 i hi with h | h
            · exact .inl h
            · simp [St.next_new] at h; omega
        · intro v' S' ⟨h1', h2', h3'⟩
          obtain ⟨av, ev', rfl⟩ := h1'.sl.slice
          have hb' : S'.blk o = some ⟨false, [d1]⟩ := by rw [h2'.2 o ho hne]; exact hb
          have hw : IntKind.i64.wrap ((n : Int) - 1 - k - 1) = n - 1 - k - 1 := wrap64_id (by omega) (by omega)
          have hr' : rd S' o 0 = some d1 := by rw [rd_of_blk hb']; rfl
          simp only [go_sem, i64_wrap_id, Int.reduceAdd, Int.reduceSub, Int.reduceNeg, Int.reduceMul, Nat.reduceSub, Nat.reduceEqDiff, Nat.reduceAdd, Nat.reduceMul, Nat.reduceLeDiff, ↓reduceIte, reduceCtorEq, Int.reduceToNat, Int.reduceLT, Int.reduceLE, Int.reduceEq, h0, h1, h6, hb', hr', hw]
          refine hN _ _ ⟨k + 1, .slice av (bs ++ beTo v n (k + 1)).length ev', ?_, ?_, ?_, ?_, ⟨?_, ?_, ?_⟩, ⟨?_, ?_⟩⟩ ?_
          · omega
          · simp only [go_sem, i64_wrap_id, Int.reduceAdd, Int.reduceSub, Int.reduceNeg, Int.reduceMul, Nat.reduceSub, Nat.reduceEqDiff, Nat.reduceAdd, Nat.reduceMul, Nat.reduceLeDiff, ↓reduceIte, reduceCtorEq, Int.reduceToNat, Int.reduceLT, Int.reduceLE, Int.reduceEq, h0]
          · simp only [go_sem, i64_wrap_id, Int.reduceAdd, Int.reduceSub, Int.reduceNeg, Int.reduceMul, Nat.reduceSub, Nat.reduceEqDiff, Nat.reduceAdd, Nat.reduceMul, Nat.reduceLeDiff, ↓reduceIte, reduceCtorEq, Int.reduceToNat, Int.reduceLT, Int.reduceLE, Int.reduceEq, h1]
          · simp only [go_sem, i64_wrap_id, Int.reduceAdd, Int.reduceSub, Int.reduceNeg, Int.reduceMul, Nat.reduceSub, Nat.reduceEqDiff, Nat.reduceAdd, Nat.reduceMul, Nat.reduceLeDiff, ↓reduceIte, reduceCtorEq, Int.reduceToNat, Int.reduceLT, Int.reduceLE, Int.reduceEq]
            congr 1
            omega
          · simp [St.blk_set]
          · refine h1'.keep fun i hi => ?_
            rw [St.blk_set, if_neg]
            intro e
            subst e
            rcases h3' _ hi with h | h
            · exact hne h
            · omega
          · intro e
            rcases h3' _ e with h | h
            · exact hne h
            · omega
          · refine Keeps.set (hS.keep.trans h2' (fun i hi hp e => ?_)) (fun i _ hp => hp.1) _
            rcases hS.data _ e with h | h
            · exact hp.2 h
            · omega
          · intro i hi
            rcases h3' _ hi with h | h
            · exact hS.data _ h
            · exact .inr (Nat.le_trans hS.keep.1 h)
          · simp only [go_sem, i64_wrap_id, Int.reduceAdd, Int.reduceSub, Int.reduceNeg, Int.reduceMul, Nat.reduceSub, Nat.reduceEqDiff, Nat.reduceAdd, Nat.reduceMul, Nat.reduceLeDiff, ↓reduceIte, reduceCtorEq, Int.reduceToNat, Int.reduceLT, Int.reduceLE, Int.reduceEq, h6, RowKit.intOf]
            omega
end Go.Proofs.Ytbgnaeagdneikaa
