/- style.Put. -/
import Derived.Test.YtbgnaeagdneikaaN3
import Derived.Test.YtbgnaeagdneikaaSeatKKN
-- pp: new
namespace Go.Proofs.Ytbgnaeagdneikaa
open Go Go.Proofs.Ytbgnaeagdneikaa.Abs
set_option linter.unusedSimpArgs false
set_option linter.unusedVariables false

set_option maxHeartbeats 2000000 in
theorem flags88 (s : Sty) (hs : s.Ok) (hf : SFormed s) (S : St) : ACalls Try.prog 88 [.agg s.cells.toArray] S fun r S' => r = .int .u8 (flagOf s) ∧ KeepsAll S S' := by
  refine ACalls.run hmix Try.func88 cN88 kN88 rfl fun hL Q hQ => ?_
  have hlen := hs.len
  have hp : 0 ≤ s.pos ∧ s.pos ≤ 3 := ⟨hf.2.2.1, hf.2.2.2.1⟩
  have e0 : IntKind.i64.wrap (2 * s.pos) = 2 * s.pos := wrap64_id (by omega) (by omega)
  have hfl : flagOf s = s.pos * 2 + bit s.shown 1 + bit s.rtl 8 + bit s.hasZ 16 + bit s.clip 32 := rfl
  have ew : ∀ n : Int, 0 ≤ n → n < 64 → IntKind.i64.wrap n = n := fun n h1 h2 => wrap64_id (by omega) (by omega)
  have eb : IntKind.u8.wrap (flagOf s) = flagOf s := by
    obtain ⟨g0, g1, _⟩ := flag_facts s hp
    rw [wrap8]; omega
  have c0 := Sty.c0 s
  have c1 := Sty.c1 s
  have c42 := Sty.c42 hs
  have c43 := Sty.c43 hs
  have c45 := Sty.c45 hs
  rw [← eb, hfl] at hQ
  clear eb hfl
  generalize s.shown = b0 at *
  generalize s.rtl = b1 at *
  generalize s.hasZ = b2 at *
  generalize s.clip = b3 at *
  generalize s.pos = p at *
  have hk : KeepsAll S (S.new ⟨false, [.bool b0, .int .i64 1, .bool b1, .int .i64 8, .bool b2, .int .i64 16, .bool b3, .int .i64 32]⟩) := Keeps.of_new _ _ _
  simp only [guard_undef, List.contains_cons, List.contains_nil, Nat.reduceBEq, Int.cast_ofNat_Int, and_self, k_pend_g, pendV, go_sem, i64_wrap_id, Int.reduceAdd, Int.reduceSub, Int.reduceNeg, Int.reduceMul, Nat.reduceSub, Nat.reduceEqDiff, Nat.reduceAdd, Nat.reduceMul, Nat.reduceLeDiff, ↓reduceIte, reduceCtorEq, Int.reduceToNat, Int.reduceLT, Int.reduceLE, Int.reduceEq, aN88, hlen, c0, c1, c42, c43, c45, e0, ↓ow_all]
  cases b0 <;> cases b1 <;> cases b2 <;> cases b3
  all_goals
    refine lK_unroll ?_
    simp only [guard_undef, List.contains_cons, List.contains_nil, Nat.reduceBEq, Int.cast_ofNat_Int, and_self, k_pend_g, pendV, go_sem, i64_wrap_id, Int.reduceAdd, Int.reduceSub, Int.reduceNeg, Int.reduceMul, Nat.reduceSub, Nat.reduceEqDiff, Nat.reduceAdd, Nat.reduceMul, Nat.reduceLeDiff, ↓reduceIte, reduceCtorEq, Int.reduceToNat, Int.reduceLT, Int.reduceLE, Int.reduceEq, ew, ↓ow_all]
    refine lK_unroll ?_
    simp only [guard_undef, List.contains_cons, List.contains_nil, Nat.reduceBEq, Int.cast_ofNat_Int, and_self, k_pend_g, pendV, go_sem, i64_wrap_id, Int.reduceAdd, Int.reduceSub, Int.reduceNeg, Int.reduceMul, Nat.reduceSub, Nat.reduceEqDiff, Nat.reduceAdd, Nat.reduceMul, Nat.reduceLeDiff, ↓reduceIte, reduceCtorEq, Int.reduceToNat, Int.reduceLT, Int.reduceLE, Int.reduceEq, ew, ↓ow_all]
    refine lK_unroll ?_
    simp only [guard_undef, List.contains_cons, List.contains_nil, Nat.reduceBEq, Int.cast_ofNat_Int, and_self, k_pend_g, pendV, go_sem, i64_wrap_id, Int.reduceAdd, Int.reduceSub, Int.reduceNeg, Int.reduceMul, Nat.reduceSub, Nat.reduceEqDiff, Nat.reduceAdd, Nat.reduceMul, Nat.reduceLeDiff, ↓reduceIte, reduceCtorEq, Int.reduceToNat, Int.reduceLT, Int.reduceLE, Int.reduceEq, ew, ↓ow_all]
    refine lK_unroll ?_
    simp only [guard_undef, List.contains_cons, List.contains_nil, Nat.reduceBEq, Int.cast_ofNat_Int, and_self, k_pend_g, pendV, go_sem, i64_wrap_id, Int.reduceAdd, Int.reduceSub, Int.reduceNeg, Int.reduceMul, Nat.reduceSub, Nat.reduceEqDiff, Nat.reduceAdd, Nat.reduceMul, Nat.reduceLeDiff, ↓reduceIte, reduceCtorEq, Int.reduceToNat, Int.reduceLT, Int.reduceLE, Int.reduceEq, ew, ↓ow_all]
    refine lK_unroll ?_
    simp only [guard_undef, List.contains_cons, List.contains_nil, Nat.reduceBEq, Int.cast_ofNat_Int, and_self, k_pend_g, pendV, go_sem, i64_wrap_id, Int.reduceAdd, Int.reduceSub, Int.reduceNeg, Int.reduceMul, Nat.reduceSub, Nat.reduceEqDiff, Nat.reduceAdd, Nat.reduceMul, Nat.reduceLeDiff, ↓reduceIte, reduceCtorEq, Int.reduceToNat, Int.reduceLT, Int.reduceLE, Int.reduceEq, ew, ↓ow_all]
  all_goals
    refine hQ _ _ _ ?_; (first | rw [k_body_ret] | rw [k_body_normal]); simp only [resVals, resVal, ev, Env.get_put, ↓reduceIte, Nat.reduceEqDiff, Option.bind_some, Option.map_some, reduceCtorEq, ldv_true, ldv_false, lloadV_agg, partL, List.toList_toArray, cellsOf_set, cellsOf_new, rd_set, rd_new, List.length_cons, List.length_nil, Nat.reduceAdd, Nat.reduceLeDiff, Nat.le_refl, List.take_succ_cons, List.take_zero, List.drop_zero, Nat.add_eq_left, Nat.left_eq_add, List.getElem?_cons_zero, List.getElem?_cons_succ, aN88]; rw [retQ_some]; simp only [oneOr]
    refine ⟨?_, hk⟩
    refine congrArg (Value.int .u8) ?_
    simp only [wrap8, IntKind.wrap_i64, bit, Bool.false_eq_true, if_true, if_false]
    omega

theorem Sty.rdk {S : St} {d k : Nat} {s : Sty} {v : Value} (h : S.blk d = some ⟨false, s.cells⟩) (hc : s.cells[k]? = some v) : rd S d k = some v := by rw [rd_of_blk h]; exact hc

theorem OutStep.off {S S' : St} {o i : Nat} {v v' : Value} (h : OutStep S o v S' v') (hi : i < S.next) (ho : Off v i) : Off v' i := fun e => by
  rcases h.data i e with hh | hh
  · exact ho hh
  · omega
theorem OutStep.blk {S S' : St} {o i : Nat} {v v' : Value} (h : OutStep S o v S' v') (hi : i < S.next) (hio : i ≠ o) (ho : Off v i) : S'.blk i = S.blk i := h.keep.2 i hi ⟨hio, ho⟩

/-- The bytes go behind what a scroll holds. -/
theorem put56 (o : Nat) (d : Value) (bs : List Int) (s : Sty) (hs : s.Ok) (S : St) (h : IsOut S o d bs) (hl : bs.length ≤ 900000000) :
    ACalls Try.prog 56 [ptr o, .agg s.cells.toArray] S fun r S' => r = .tuple #[] ∧ ∃ d' e, IsOut S' o d' (bs ++ e) ∧ OutStep S o d S' d' ∧ (SFormed s → e = styBytes s) ∧ (¬ SFormed s → e = []) := by
  refine ACalls.run hmix Try.func56 cN56 kN56 rfl fun hL Q hQ => ?_
  have hlen := hs.len
  have ho := hL _ _ h.1
  have hdo : ∀ i, Value.blkOf d = some i → i < S.next := fun i hi => h.2.1.sl.lt hL hi
  have htk : s.cells.take 48 = s.cells := List.take_of_length_le (by omega)
  have hb0 : (S.new ⟨false, s.cells⟩).blk S.next = some ⟨false, s.cells⟩ := by simp [St.blk_new]
  simp only [guard_undef, List.contains_cons, List.contains_nil, Nat.reduceBEq, Int.cast_ofNat_Int, and_self, k_pend_g, pendV, go_sem, i64_wrap_id, Int.reduceAdd, Int.reduceSub, Int.reduceNeg, Int.reduceMul, Nat.reduceSub, Nat.reduceEqDiff, Nat.reduceAdd, Nat.reduceMul, Nat.reduceLeDiff, ↓reduceIte, reduceCtorEq, Int.reduceToNat, Int.reduceLT, Int.reduceLE, Int.reduceEq, aN56, hlen, htk]
  refine cK_of (formed20 s hs _) ?_
  rintro r1 S1 hS1 hL1 ⟨⟨c, rfl, hc⟩, hK1⟩
  have hk01 : KeepsAll S S1 := (Keeps.of_new S ⟨false, s.cells⟩ fun _ => True).trans hK1 fun _ _ _ => trivial
  have hn1 : S.next < S1.next := by have := hK1.1; simp [St.next_new] at this; omega
  have h1 : IsOut S1 o d bs := h.keeps hL hk01 trivial fun _ _ => trivial
  cases c
  · simp only [guard_undef, List.contains_cons, List.contains_nil, Nat.reduceBEq, Int.cast_ofNat_Int, and_self, k_pend_g, pendV, go_sem, i64_wrap_id, Int.reduceAdd, Int.reduceSub, Int.reduceNeg, Int.reduceMul, Nat.reduceSub, Nat.reduceEqDiff, Nat.reduceAdd, Nat.reduceMul, Nat.reduceLeDiff, ↓reduceIte, reduceCtorEq, Int.reduceToNat, Int.reduceLT, Int.reduceLE, Int.reduceEq]
    refine hQ _ _ _ ?_; (first | rw [k_body_ret] | rw [k_body_normal]); simp only [resVals, resVal, ev, Env.get_put, ↓reduceIte, Nat.reduceEqDiff, Option.bind_some, Option.map_some, reduceCtorEq, ldv_true, ldv_false, lloadV_agg, partL, List.toList_toArray, cellsOf_set, cellsOf_new, rd_set, rd_new, List.length_cons, List.length_nil, Nat.reduceAdd, Nat.reduceLeDiff, Nat.le_refl, List.take_succ_cons, List.take_zero, List.drop_zero, Nat.add_eq_left, Nat.left_eq_add, List.getElem?_cons_zero, List.getElem?_cons_succ, aN56]; rw [retQ_some]; simp only [oneOr]
    refine ⟨trivial, d, [], by rw [List.append_nil]; exact h1, ⟨hk01.mono fun _ _ _ => trivial, fun i hi => .inl hi⟩, fun hf => (by have := hc.2 hf; cases this), fun _ => rfl⟩
  have hf := hc.1 rfl
  have hb1 : S1.blk S.next = some ⟨false, s.cells⟩ := by rw [hK1.2 _ (by simp [St.next_new]) trivial]; exact hb0
  have hc1 : cellsOf S1 S.next 0 48 = some s.cells := by rw [cellsOf_of_blk hb1, if_pos (by simp only []; omega)]; simp [htk]
  simp only [guard_undef, List.contains_cons, List.contains_nil, Nat.reduceBEq, Int.cast_ofNat_Int, and_self, k_pend_g, pendV, go_sem, i64_wrap_id, Int.reduceAdd, Int.reduceSub, Int.reduceNeg, Int.reduceMul, Nat.reduceSub, Nat.reduceEqDiff, Nat.reduceAdd, Nat.reduceMul, Nat.reduceLeDiff, ↓reduceIte, reduceCtorEq, Int.reduceToNat, Int.reduceLT, Int.reduceLE, Int.reduceEq, hc1]
  refine cK_of (flags88 s hs hf S1) ?_
  rintro r2 S2 hS2 hL2 ⟨rfl, hK2⟩
  have h2 : IsOut S2 o d bs := h1.keeps hL1 hK2 trivial fun _ _ => trivial
  obtain ⟨g0, g1, _⟩ := flag_facts s ⟨hf.2.2.1, hf.2.2.2.1⟩
  simp only [guard_undef, List.contains_cons, List.contains_nil, Nat.reduceBEq, Int.cast_ofNat_Int, and_self, k_pend_g, pendV, go_sem, i64_wrap_id, Int.reduceAdd, Int.reduceSub, Int.reduceNeg, Int.reduceMul, Nat.reduceSub, Nat.reduceEqDiff, Nat.reduceAdd, Nat.reduceMul, Nat.reduceLeDiff, ↓reduceIte, reduceCtorEq, Int.reduceToNat, Int.reduceLT, Int.reduceLE, Int.reduceEq]
  refine cK_of (outByte o d bs (flagOf s) S2 h2 g0 (by omega) (by omega)) ?_
  rintro r3 S3 hS3 hL3 hP
  unfold OutPost at hP
  obtain ⟨rfl, d3, h3, s3⟩ := hP
  have hs2 : S.next < S2.next := by have := hK2.1; omega
  have hsd : Off d S.next := fun e => by have := hdo _ e; omega
  have hb3 : S3.blk S.next = some ⟨false, s.cells⟩ := by rw [s3.blk hs2 (by omega) hsd, hK2.2 _ hn1 trivial]; exact hb1
  have hsd3 := s3.off hs2 hsd
  simp only [guard_undef, List.contains_cons, List.contains_nil, Nat.reduceBEq, Int.cast_ofNat_Int, and_self, k_pend_g, pendV, go_sem, i64_wrap_id, Int.reduceAdd, Int.reduceSub, Int.reduceNeg, Int.reduceMul, Nat.reduceSub, Nat.reduceEqDiff, Nat.reduceAdd, Nat.reduceMul, Nat.reduceLeDiff, ↓reduceIte, reduceCtorEq, Int.reduceToNat, Int.reduceLT, Int.reduceLE, Int.reduceEq]
  refine cK_of (lengths64 S.next S3) ?_
  rintro r4 S4 hS4 hL4 ⟨hO4, hK4, hF4⟩
  obtain ⟨dp, rfl, hbp, _⟩ := hO4.ne (by omega)
  have hdp := hF4 dp rfl
  have hdp4 := hL4 _ _ hbp
  have h4 : IsOut S4 o d3 (bs ++ [flagOf s]) := h3.keeps hL3 hK4 trivial fun _ _ => trivial
  have hb4 : S4.blk S.next = some ⟨false, s.cells⟩ := by rw [hK4.2 _ (hL3 _ _ hb3) trivial]; exact hb3
  have hpd4 : Off d3 dp := fun e => by have := h3.2.1.sl.lt hL3 e; omega
  have hs4 := hL4 _ _ hb4
  have hl18 := hs.lens
  have ho4 := hL4 _ _ h4.1
  have hst4 : OutStep S o d S4 d3 := by
    refine ⟨((hk01.all.trans hK2.all fun _ _ hp => hp).trans s3.keep fun i hi hp => hp).trans hK4.all fun _ _ hp => hp, fun i hi => ?_⟩
    rcases s3.data i hi with hh | hh
    · exact .inl hh
    · exact .inr (by omega)
  simp only [guard_undef, List.contains_cons, List.contains_nil, Nat.reduceBEq, Int.cast_ofNat_Int, and_self, k_pend_g, pendV, go_sem, i64_wrap_id, Int.reduceAdd, Int.reduceSub, Int.reduceNeg, Int.reduceMul, Nat.reduceSub, Nat.reduceEqDiff, Nat.reduceAdd, Nat.reduceMul, Nat.reduceLeDiff, ↓reduceIte, reduceCtorEq, Int.reduceToNat, Int.reduceLT, Int.reduceLE, Int.reduceEq]
  (first | refine cK_keep [0,3,15,16,17] fun t1 hk' => ?_ | refine lK_keep [0,3,15,16,17] fun t1 hk' => ?_ | refine iK_keep [0,3,15,16,17] fun t1 hk' => ?_ | refine hK_keep [0,3,15,16,17] fun t1 hk' => ?_); simp only [guard_undef, List.contains_cons, List.contains_nil, Nat.reduceBEq, Int.cast_ofNat_Int, and_self, k_pend_g, pendV, go_sem, i64_wrap_id, Int.reduceAdd, Int.reduceSub, Int.reduceNeg, Int.reduceMul, Nat.reduceSub, Nat.reduceEqDiff, Nat.reduceAdd, Nat.reduceMul, Nat.reduceLeDiff, ↓reduceIte, reduceCtorEq, Int.reduceToNat, Int.reduceLT, Int.reduceLE, Int.reduceEq, keepL_cons, keepL_nil, slots_cons, slots_nil] at hk'; have hk := hk'; clear hk'
  refine lK_of (fun t' S' => ∃ (j : Nat) (d' : Value), j ≤ 18 ∧ Slots t' [(0, ptr o), (3, ptr S.next), (15, .slice (some ⟨dp, 0, none⟩) 18 1), (16, .int .i64 18), (17, .int .i64 j)] ∧ Live S' ∧ IsOut S' o d' (bs ++ (flagOf s :: (s.lens.take j).flatMap lenBytes)) ∧ OutStep S4 o d3 S' d')
    (fun t' _ => (18 - RowKit.intOf (t' 17)).toNat) ?_ ?_
  · refine ⟨0, d3, by omega, ?_, hL4, by simpa using h4, OutStep.refl _ _ _⟩
    simp only [guard_undef, List.contains_cons, List.contains_nil, Nat.reduceBEq, Int.cast_ofNat_Int, and_self, k_pend_g, pendV, go_sem, i64_wrap_id, Int.reduceAdd, Int.reduceSub, Int.reduceNeg, Int.reduceMul, Nat.reduceSub, Nat.reduceEqDiff, Nat.reduceAdd, Nat.reduceMul, Nat.reduceLeDiff, ↓reduceIte, reduceCtorEq, Int.reduceToNat, Int.reduceLT, Int.reduceLE, Int.reduceEq, slots_cons, slots_nil, Int.natCast_add, Int.natCast_succ, Int.cast_ofNat_Int, hk]
  · rintro t1 S5 Q1 ⟨j, d5, hj, h5, hL5, hO5, s5⟩ _ hN hE
    simp only [slots_cons, slots_nil] at h5
    have hb5 : S5.blk S.next = some ⟨false, s.cells⟩ := by rw [s5.blk hs4 (by omega) hsd3]; exact hb4
    have hp5 : S5.blk dp = some ⟨false, ptrs S.next 2 18⟩ := by rw [s5.blk hdp4 (by omega) hpd4]; exact hbp
    have hoff5 := s5.off hs4 hsd3
    have hfl9 := flatMap_length_le lenBytes 9 lenBytes_length (s.lens.take j)
    have htl : (s.lens.take j).length ≤ 18 := by simp; omega
    by_cases hj18 : j = 18
    · subst hj18
      simp only [guard_undef, List.contains_cons, List.contains_nil, Nat.reduceBEq, Int.cast_ofNat_Int, and_self, k_pend_g, pendV, go_sem, i64_wrap_id, Int.reduceAdd, Int.reduceSub, Int.reduceNeg, Int.reduceMul, Nat.reduceSub, Nat.reduceEqDiff, Nat.reduceAdd, Nat.reduceMul, Nat.reduceLeDiff, ↓reduceIte, reduceCtorEq, Int.reduceToNat, Int.reduceLT, Int.reduceLE, Int.reduceEq, h5, show ¬ (((18 : Nat) : Int) < 18) by omega]
      refine hE _ _ _ (by simp) ?_
      clear hN hE
      rw [List.take_of_length_le (by omega)] at hO5 hfl9
      have c4 : cellsOf S5 S.next 38 4 = some (s.border.map (Value.int .i64)) := by
        rw [cellsOf_of_blk hb5, if_pos (by rw [hlen]; omega)]
        exact congrArg some (Sty.mid hs)
      have hb4' := hs.border
      obtain ⟨a0, a1, a2, a3, hbe⟩ : ∃ a0 a1 a2 a3, s.border = [a0, a1, a2, a3] := by
        match hm : s.border, hb4' with
        | [a0, a1, a2, a3], _ => exact ⟨a0, a1, a2, a3, rfl⟩
      rw [hbe] at c4
      have hz0 : (bs ++ (flagOf s :: s.lens.flatMap lenBytes)).length ≤ 900001000 := by simp only [List.length_append, List.length_cons]; omega
      obtain ⟨X0, hX0⟩ : ∃ X0, X0 = bs ++ (flagOf s :: s.lens.flatMap lenBytes) := ⟨_, rfl⟩
      rw [← hX0] at hO5 hz0
      simp only [guard_undef, List.contains_cons, List.contains_nil, Nat.reduceBEq, Int.cast_ofNat_Int, and_self, k_pend_g, pendV, go_sem, i64_wrap_id, Int.reduceAdd, Int.reduceSub, Int.reduceNeg, Int.reduceMul, Nat.reduceSub, Nat.reduceEqDiff, Nat.reduceAdd, Nat.reduceMul, Nat.reduceLeDiff, ↓reduceIte, reduceCtorEq, Int.reduceToNat, Int.reduceLT, Int.reduceLE, Int.reduceEq, h5, c4]
      refine lK_unroll ?_
      simp only [guard_undef, List.contains_cons, List.contains_nil, Nat.reduceBEq, Int.cast_ofNat_Int, and_self, k_pend_g, pendV, go_sem, i64_wrap_id, Int.reduceAdd, Int.reduceSub, Int.reduceNeg, Int.reduceMul, Nat.reduceSub, Nat.reduceEqDiff, Nat.reduceAdd, Nat.reduceMul, Nat.reduceLeDiff, ↓reduceIte, reduceCtorEq, Int.reduceToNat, Int.reduceLT, Int.reduceLE, Int.reduceEq, h5, Nat.lt_irrefl]
      refine cK_of (outEight o d5 _ a0 S5 hO5 (by omega)) ?_
      rintro r6 S6 hS6 hL6 hP6
      unfold OutPost at hP6
      obtain ⟨rfl, d6, hO6, s6'⟩ := hP6
      have s6 := s5.trans s6'
      simp only [guard_undef, List.contains_cons, List.contains_nil, Nat.reduceBEq, Int.cast_ofNat_Int, and_self, k_pend_g, pendV, go_sem, i64_wrap_id, Int.reduceAdd, Int.reduceSub, Int.reduceNeg, Int.reduceMul, Nat.reduceSub, Nat.reduceEqDiff, Nat.reduceAdd, Nat.reduceMul, Nat.reduceLeDiff, ↓reduceIte, reduceCtorEq, Int.reduceToNat, Int.reduceLT, Int.reduceLE, Int.reduceEq, h5]
      refine lK_unroll ?_
      simp only [guard_undef, List.contains_cons, List.contains_nil, Nat.reduceBEq, Int.cast_ofNat_Int, and_self, k_pend_g, pendV, go_sem, i64_wrap_id, Int.reduceAdd, Int.reduceSub, Int.reduceNeg, Int.reduceMul, Nat.reduceSub, Nat.reduceEqDiff, Nat.reduceAdd, Nat.reduceMul, Nat.reduceLeDiff, ↓reduceIte, reduceCtorEq, Int.reduceToNat, Int.reduceLT, Int.reduceLE, Int.reduceEq, h5, Nat.lt_irrefl]
      refine cK_of (outEight o d6 _ a1 S6 hO6 (by simp only [List.length_append, be_length]; omega)) ?_
      rintro r7 S7 hS7 hL7 hP7
      unfold OutPost at hP7
      obtain ⟨rfl, d7, hO7, s7'⟩ := hP7
      have s7 := s6.trans s7'
      simp only [guard_undef, List.contains_cons, List.contains_nil, Nat.reduceBEq, Int.cast_ofNat_Int, and_self, k_pend_g, pendV, go_sem, i64_wrap_id, Int.reduceAdd, Int.reduceSub, Int.reduceNeg, Int.reduceMul, Nat.reduceSub, Nat.reduceEqDiff, Nat.reduceAdd, Nat.reduceMul, Nat.reduceLeDiff, ↓reduceIte, reduceCtorEq, Int.reduceToNat, Int.reduceLT, Int.reduceLE, Int.reduceEq, h5]
      refine lK_unroll ?_
      simp only [guard_undef, List.contains_cons, List.contains_nil, Nat.reduceBEq, Int.cast_ofNat_Int, and_self, k_pend_g, pendV, go_sem, i64_wrap_id, Int.reduceAdd, Int.reduceSub, Int.reduceNeg, Int.reduceMul, Nat.reduceSub, Nat.reduceEqDiff, Nat.reduceAdd, Nat.reduceMul, Nat.reduceLeDiff, ↓reduceIte, reduceCtorEq, Int.reduceToNat, Int.reduceLT, Int.reduceLE, Int.reduceEq, h5, Nat.lt_irrefl]
      refine cK_of (outEight o d7 _ a2 S7 hO7 (by simp only [List.length_append, be_length]; omega)) ?_
      rintro r8 S8 hS8 hL8 hP8
      unfold OutPost at hP8
      obtain ⟨rfl, d8, hO8, s8'⟩ := hP8
      have s8 := s7.trans s8'
      simp only [guard_undef, List.contains_cons, List.contains_nil, Nat.reduceBEq, Int.cast_ofNat_Int, and_self, k_pend_g, pendV, go_sem, i64_wrap_id, Int.reduceAdd, Int.reduceSub, Int.reduceNeg, Int.reduceMul, Nat.reduceSub, Nat.reduceEqDiff, Nat.reduceAdd, Nat.reduceMul, Nat.reduceLeDiff, ↓reduceIte, reduceCtorEq, Int.reduceToNat, Int.reduceLT, Int.reduceLE, Int.reduceEq, h5]
      refine lK_unroll ?_
      simp only [guard_undef, List.contains_cons, List.contains_nil, Nat.reduceBEq, Int.cast_ofNat_Int, and_self, k_pend_g, pendV, go_sem, i64_wrap_id, Int.reduceAdd, Int.reduceSub, Int.reduceNeg, Int.reduceMul, Nat.reduceSub, Nat.reduceEqDiff, Nat.reduceAdd, Nat.reduceMul, Nat.reduceLeDiff, ↓reduceIte, reduceCtorEq, Int.reduceToNat, Int.reduceLT, Int.reduceLE, Int.reduceEq, h5, Nat.lt_irrefl]
      refine cK_of (outEight o d8 _ a3 S8 hO8 (by simp only [List.length_append, be_length]; omega)) ?_
      rintro r9 S9 hS9 hL9 hP9
      unfold OutPost at hP9
      obtain ⟨rfl, d9, hO9, s9'⟩ := hP9
      have s9 := s8.trans s9'
      simp only [guard_undef, List.contains_cons, List.contains_nil, Nat.reduceBEq, Int.cast_ofNat_Int, and_self, k_pend_g, pendV, go_sem, i64_wrap_id, Int.reduceAdd, Int.reduceSub, Int.reduceNeg, Int.reduceMul, Nat.reduceSub, Nat.reduceEqDiff, Nat.reduceAdd, Nat.reduceMul, Nat.reduceLeDiff, ↓reduceIte, reduceCtorEq, Int.reduceToNat, Int.reduceLT, Int.reduceLE, Int.reduceEq, h5]
      refine lK_unroll ?_
      have hb9 : S9.blk S.next = some ⟨false, s.cells⟩ := by rw [s9.blk hs4 (by omega) hsd3]; exact hb4
      have hrd9 := (StyAt.of_blk hb9 hs).all hs
      simp only [guard_undef, List.contains_cons, List.contains_nil, Nat.reduceBEq, Int.cast_ofNat_Int, and_self, k_pend_g, pendV, go_sem, i64_wrap_id, Int.reduceAdd, Int.reduceSub, Int.reduceNeg, Int.reduceMul, Nat.reduceSub, Nat.reduceEqDiff, Nat.reduceAdd, Nat.reduceMul, Nat.reduceLeDiff, ↓reduceIte, reduceCtorEq, Int.reduceToNat, Int.reduceLT, Int.reduceLE, Int.reduceEq, h5, hrd9.hasZ]
      obtain ⟨X, hX⟩ : ∃ X, X = (((X0 ++ be (a0 % 18446744073709551616) 8) ++ be (a1 % 18446744073709551616) 8) ++ be (a2 % 18446744073709551616) 8) ++ be (a3 % 18446744073709551616) 8 := ⟨_, rfl⟩
      have hXl : X.length ≤ 900001100 := by rw [hX]; simp only [List.length_append, be_length]; omega
      have hO9' : IsOut S9 o d9 X := by rw [hX]; exact hO9
      refine iK_cut (fun t' S' => ∃ d', Slots t' [(0, ptr o), (3, ptr S.next)] ∧ Live S' ∧ IsOut S' o d' (X ++ (if s.hasZ = true then be64 s.z else [])) ∧ OutStep S4 o d3 S' d') (fun Q1 hN hE => iK_split (fun hc => ?_) (fun hc => ?_)) ?_
      · simp only [guard_undef, List.contains_cons, List.contains_nil, Nat.reduceBEq, Int.cast_ofNat_Int, and_self, k_pend_g, pendV, go_sem, i64_wrap_id, Int.reduceAdd, Int.reduceSub, Int.reduceNeg, Int.reduceMul, Nat.reduceSub, Nat.reduceEqDiff, Nat.reduceAdd, Nat.reduceMul, Nat.reduceLeDiff, ↓reduceIte, reduceCtorEq, Int.reduceToNat, Int.reduceLT, Int.reduceLE, Int.reduceEq, h5, hrd9.z]
        refine cK_of (outEight o d9 _ s.z S9 hO9' (by omega)) ?_
        rintro r10 S10 hS10 hL10 hP10
        unfold OutPost at hP10
        obtain ⟨rfl, d10, hO10, s10⟩ := hP10
        simp only [guard_undef, List.contains_cons, List.contains_nil, Nat.reduceBEq, Int.cast_ofNat_Int, and_self, k_pend_g, pendV, go_sem, i64_wrap_id, Int.reduceAdd, Int.reduceSub, Int.reduceNeg, Int.reduceMul, Nat.reduceSub, Nat.reduceEqDiff, Nat.reduceAdd, Nat.reduceMul, Nat.reduceLeDiff, ↓reduceIte, reduceCtorEq, Int.reduceToNat, Int.reduceLT, Int.reduceLE, Int.reduceEq, h5]
        refine hN _ _ ⟨d10, ?_, hL10, by rw [if_pos hc]; exact hO10, s9.trans s10⟩
        simp only [guard_undef, List.contains_cons, List.contains_nil, Nat.reduceBEq, Int.cast_ofNat_Int, and_self, k_pend_g, pendV, go_sem, i64_wrap_id, Int.reduceAdd, Int.reduceSub, Int.reduceNeg, Int.reduceMul, Nat.reduceSub, Nat.reduceEqDiff, Nat.reduceAdd, Nat.reduceMul, Nat.reduceLeDiff, ↓reduceIte, reduceCtorEq, Int.reduceToNat, Int.reduceLT, Int.reduceLE, Int.reduceEq, slots_cons, slots_nil, Int.natCast_add, Int.natCast_succ, Int.cast_ofNat_Int, h5]
      · simp only [guard_undef, List.contains_cons, List.contains_nil, Nat.reduceBEq, Int.cast_ofNat_Int, and_self, k_pend_g, pendV, go_sem, i64_wrap_id, Int.reduceAdd, Int.reduceSub, Int.reduceNeg, Int.reduceMul, Nat.reduceSub, Nat.reduceEqDiff, Nat.reduceAdd, Nat.reduceMul, Nat.reduceLeDiff, ↓reduceIte, reduceCtorEq, Int.reduceToNat, Int.reduceLT, Int.reduceLE, Int.reduceEq, h5]
        refine hN _ _ ⟨d9, ?_, hL9, by rw [if_neg (by simp [hc]), List.append_nil]; exact hO9', s9⟩
        simp only [guard_undef, List.contains_cons, List.contains_nil, Nat.reduceBEq, Int.cast_ofNat_Int, and_self, k_pend_g, pendV, go_sem, i64_wrap_id, Int.reduceAdd, Int.reduceSub, Int.reduceNeg, Int.reduceMul, Nat.reduceSub, Nat.reduceEqDiff, Nat.reduceAdd, Nat.reduceMul, Nat.reduceLeDiff, ↓reduceIte, reduceCtorEq, Int.reduceToNat, Int.reduceLT, Int.reduceLE, Int.reduceEq, slots_cons, slots_nil, Int.natCast_add, Int.natCast_succ, Int.cast_ofNat_Int, h5]
      rintro t6 S11 ⟨d11, h6, hL11, hO11, s11⟩
      simp only [slots_cons, slots_nil] at h6
      have hzl : (if s.hasZ = true then be64 s.z else []).length ≤ 8 := by split <;> simp [be64_length]
      have hb11 : S11.blk S.next = some ⟨false, s.cells⟩ := by rw [s11.blk hs4 (by omega) hsd3]; exact hb4
      have hrd11 := (StyAt.of_blk hb11 hs).all hs
      simp only [guard_undef, List.contains_cons, List.contains_nil, Nat.reduceBEq, Int.cast_ofNat_Int, and_self, k_pend_g, pendV, go_sem, i64_wrap_id, Int.reduceAdd, Int.reduceSub, Int.reduceNeg, Int.reduceMul, Nat.reduceSub, Nat.reduceEqDiff, Nat.reduceAdd, Nat.reduceMul, Nat.reduceLeDiff, ↓reduceIte, reduceCtorEq, Int.reduceToNat, Int.reduceLT, Int.reduceLE, Int.reduceEq, h6, hrd11.back]
      refine cK_of (outEight o d11 _ s.back S11 hO11 (by simp only [List.length_append]; omega)) ?_
      rintro r12 S12 hS12 hL12 hP12
      unfold OutPost at hP12
      obtain ⟨rfl, d12, hO12, s12⟩ := hP12
      have s12' := s11.trans s12
      have hb12 : S12.blk S.next = some ⟨false, s.cells⟩ := by rw [s12'.blk hs4 (by omega) hsd3]; exact hb4
      have hrd12 := (StyAt.of_blk hb12 hs).all hs
      simp only [guard_undef, List.contains_cons, List.contains_nil, Nat.reduceBEq, Int.cast_ofNat_Int, and_self, k_pend_g, pendV, go_sem, i64_wrap_id, Int.reduceAdd, Int.reduceSub, Int.reduceNeg, Int.reduceMul, Nat.reduceSub, Nat.reduceEqDiff, Nat.reduceAdd, Nat.reduceMul, Nat.reduceLeDiff, ↓reduceIte, reduceCtorEq, Int.reduceToNat, Int.reduceLT, Int.reduceLE, Int.reduceEq, h6, hrd12.line]
      refine cK_of (outEight o d12 _ s.line S12 hO12 (by simp only [List.length_append, be_length]; omega)) ?_
      rintro r13 S13 hS13 hL13 hP13
      unfold OutPost at hP13
      obtain ⟨rfl, d13, hO13, s13⟩ := hP13
      simp only [guard_undef, List.contains_cons, List.contains_nil, Nat.reduceBEq, Int.cast_ofNat_Int, and_self, k_pend_g, pendV, go_sem, i64_wrap_id, Int.reduceAdd, Int.reduceSub, Int.reduceNeg, Int.reduceMul, Nat.reduceSub, Nat.reduceEqDiff, Nat.reduceAdd, Nat.reduceMul, Nat.reduceLeDiff, ↓reduceIte, reduceCtorEq, Int.reduceToNat, Int.reduceLT, Int.reduceLE, Int.reduceEq, h6]
      refine hQ _ _ _ ?_; (first | rw [k_body_ret] | rw [k_body_normal]); simp only [resVals, resVal, ev, Env.get_put, ↓reduceIte, Nat.reduceEqDiff, Option.bind_some, Option.map_some, reduceCtorEq, ldv_true, ldv_false, lloadV_agg, partL, List.toList_toArray, cellsOf_set, cellsOf_new, rd_set, rd_new, List.length_cons, List.length_nil, Nat.reduceAdd, Nat.reduceLeDiff, Nat.le_refl, List.take_succ_cons, List.take_zero, List.drop_zero, Nat.add_eq_left, Nat.left_eq_add, List.getElem?_cons_zero, List.getElem?_cons_succ, aN56, h6]; rw [retQ_some]; simp only [oneOr]
      have hfin : bs ++ styBytes s = ((X ++ (if s.hasZ = true then be64 s.z else [])) ++ be64 s.back) ++ be64 s.line := by
        rw [hX, hX0]
        unfold styBytes
        rw [hbe]
        simp only [List.flatMap_cons, List.flatMap_nil, List.append_nil, List.cons_append, List.append_assoc, be64]
      exact ⟨trivial, d13, styBytes s, by rw [hfin]; exact hO13, hst4.trans (s12'.trans s13), fun _ => rfl, fun hn => absurd hf hn⟩
    · have hjl : j < s.lens.length := by omega
      have hlt : ((j : Int) < 18) := by omega
      have hj0 : (0 : Int) ≤ j := by omega
      have hj1 : IntKind.i64.wrap ((j : Int) + 1) = j + 1 := wrap64_id (by omega) (by omega)
      have epj := ptrs_rd (v := .slice none 0 0) hp5 j (by omega)
      obtain ⟨p, hp⟩ : ∃ p, p = s.lens[j] := ⟨_, rfl⟩
      have hrd := (StyAt.of_blk hb5 hs).all hs
      have ek := hrd.kind j hjl
      have en := hrd.num j hjl
      rw [← hp] at ek en
      have hpf := (hf.1 j hjl).1
      rw [← hp] at hpf
      have hw8 : IntKind.u8.wrap p.1 = p.1 := by rw [wrap8]; omega
      have htk1 : s.lens.take (j + 1) = s.lens.take j ++ [p] := by rw [hp]; exact List.take_succ_eq_append_getElem hjl
      have next : ∀ (t' : Env) (S' : St) (d' : Value), Slots t' [(0, ptr o), (3, ptr S.next), (15, .slice (some ⟨dp, 0, none⟩) 18 1), (16, .int .i64 18), (17, .int .i64 ((j : Int) + 1))] → Live S' → IsOut S' o d' ((bs ++ (flagOf s :: (s.lens.take j).flatMap lenBytes)) ++ lenBytes p) → OutStep S4 o d3 S' d' → Q1 .normal t' S' := by
        intro t' S' d' q1 q2 q3 q4
        refine hN _ _ ⟨j + 1, d', by omega, ?_, q2, ?_, q4⟩ ?_
        · rw [Int.natCast_succ]; exact q1
        · rw [htk1, List.flatMap_append, List.flatMap_cons, List.flatMap_nil, List.append_nil, ← List.cons_append, ← List.append_assoc]; exact q3
        · simp only [slots_cons] at q1
          rw [q1.2.2.2.2.1, h5.2.2.2.2.1]
          simp [RowKit.intOf]
          omega
      simp only [guard_undef, List.contains_cons, List.contains_nil, Nat.reduceBEq, Int.cast_ofNat_Int, and_self, k_pend_g, pendV, go_sem, i64_wrap_id, Int.reduceAdd, Int.reduceSub, Int.reduceNeg, Int.reduceMul, Nat.reduceSub, Nat.reduceEqDiff, Nat.reduceAdd, Nat.reduceMul, Nat.reduceLeDiff, ↓reduceIte, reduceCtorEq, Int.reduceToNat, Int.reduceLT, Int.reduceLE, Int.reduceEq, h5, hlt, hj0, Int.toNat_natCast, epj, ek, hw8, Nat.mul_one]
      refine cK_of (outByte o d5 _ p.1 S5 hO5 (by omega) (by omega) (by simp only [List.length_append, List.length_cons]; omega)) ?_
      rintro r6 S6 hS6 hL6 hP6
      unfold OutPost at hP6
      obtain ⟨rfl, d6, hO6, s6⟩ := hP6
      have hb6 : S6.blk S.next = some ⟨false, s.cells⟩ := by rw [s6.blk (by have := s5.keep.1; omega) (by omega) hoff5]; exact hb5
      have hrd6 := (StyAt.of_blk hb6 hs).all hs
      have ek6 := hrd6.kind j hjl
      have en6 := hrd6.num j hjl
      rw [← hp] at ek6 en6
      simp only [guard_undef, List.contains_cons, List.contains_nil, Nat.reduceBEq, Int.cast_ofNat_Int, and_self, k_pend_g, pendV, go_sem, i64_wrap_id, Int.reduceAdd, Int.reduceSub, Int.reduceNeg, Int.reduceMul, Nat.reduceSub, Nat.reduceEqDiff, Nat.reduceAdd, Nat.reduceMul, Nat.reduceLeDiff, ↓reduceIte, reduceCtorEq, Int.reduceToNat, Int.reduceLT, Int.reduceLE, Int.reduceEq, h5, ek6]
      refine iK_split (fun hc => ?_) (fun hc => ?_)
      · have hp0 : ¬ p.1 = 0 := by simpa using hc
        have hlb : lenBytes p = [p.1] ++ be64 p.2 := by unfold lenBytes; rw [if_neg hp0]; rfl
        simp only [guard_undef, List.contains_cons, List.contains_nil, Nat.reduceBEq, Int.cast_ofNat_Int, and_self, k_pend_g, pendV, go_sem, i64_wrap_id, Int.reduceAdd, Int.reduceSub, Int.reduceNeg, Int.reduceMul, Nat.reduceSub, Nat.reduceEqDiff, Nat.reduceAdd, Nat.reduceMul, Nat.reduceLeDiff, ↓reduceIte, reduceCtorEq, Int.reduceToNat, Int.reduceLT, Int.reduceLE, Int.reduceEq, h5, en6]
        refine cK_of (outEight o d6 _ p.2 S6 hO6 (by simp only [List.length_append, List.length_cons, List.length_nil]; omega)) ?_
        rintro r7 S7 hS7 hL7 hP7
        unfold OutPost at hP7
        obtain ⟨rfl, d7, hO7, s7⟩ := hP7
        simp only [guard_undef, List.contains_cons, List.contains_nil, Nat.reduceBEq, Int.cast_ofNat_Int, and_self, k_pend_g, pendV, go_sem, i64_wrap_id, Int.reduceAdd, Int.reduceSub, Int.reduceNeg, Int.reduceMul, Nat.reduceSub, Nat.reduceEqDiff, Nat.reduceAdd, Nat.reduceMul, Nat.reduceLeDiff, ↓reduceIte, reduceCtorEq, Int.reduceToNat, Int.reduceLT, Int.reduceLE, Int.reduceEq, h5, hj1]
        refine next _ _ d7 ?_ hL7 (by rw [hlb, ← List.append_assoc]; exact hO7) ((s5.trans s6).trans s7)
        simp only [guard_undef, List.contains_cons, List.contains_nil, Nat.reduceBEq, Int.cast_ofNat_Int, and_self, k_pend_g, pendV, go_sem, i64_wrap_id, Int.reduceAdd, Int.reduceSub, Int.reduceNeg, Int.reduceMul, Nat.reduceSub, Nat.reduceEqDiff, Nat.reduceAdd, Nat.reduceMul, Nat.reduceLeDiff, ↓reduceIte, reduceCtorEq, Int.reduceToNat, Int.reduceLT, Int.reduceLE, Int.reduceEq, slots_cons, slots_nil, Int.natCast_add, Int.natCast_succ, Int.cast_ofNat_Int, h5]
      · have hp0 : p.1 = 0 := by simpa using hc
        have hlb : lenBytes p = [p.1] := by unfold lenBytes; rw [if_pos hp0]
        simp only [guard_undef, List.contains_cons, List.contains_nil, Nat.reduceBEq, Int.cast_ofNat_Int, and_self, k_pend_g, pendV, go_sem, i64_wrap_id, Int.reduceAdd, Int.reduceSub, Int.reduceNeg, Int.reduceMul, Nat.reduceSub, Nat.reduceEqDiff, Nat.reduceAdd, Nat.reduceMul, Nat.reduceLeDiff, ↓reduceIte, reduceCtorEq, Int.reduceToNat, Int.reduceLT, Int.reduceLE, Int.reduceEq, h5, hj1]
        refine next _ _ d6 ?_ hL6 (by rw [hlb]; exact hO6) (s5.trans s6)
        simp only [guard_undef, List.contains_cons, List.contains_nil, Nat.reduceBEq, Int.cast_ofNat_Int, and_self, k_pend_g, pendV, go_sem, i64_wrap_id, Int.reduceAdd, Int.reduceSub, Int.reduceNeg, Int.reduceMul, Nat.reduceSub, Nat.reduceEqDiff, Nat.reduceAdd, Nat.reduceMul, Nat.reduceLeDiff, ↓reduceIte, reduceCtorEq, Int.reduceToNat, Int.reduceLT, Int.reduceLE, Int.reduceEq, slots_cons, slots_nil, Int.natCast_add, Int.natCast_succ, Int.cast_ofNat_Int, h5]
end Go.Proofs.Ytbgnaeagdneikaa
