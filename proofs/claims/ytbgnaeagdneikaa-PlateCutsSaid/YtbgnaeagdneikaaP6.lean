/- The statements PlateEncodes, PlateDecodes and PlateCuts. -/
import Derived.Test.YtbgnaeagdneikaaP5
import Derived.Test.YtbgnaeagdneikaaSeatKKP
-- pp: new
namespace Go.Proofs.Ytbgnaeagdneikaa
open Go Go.Proofs.Ytbgnaeagdneikaa.Abs
set_option linter.unusedSimpArgs false
set_option linter.unusedVariables false

theorem pFour_items (l : List Itm) (hn : l.length < 4294967296) (m : List Int) : pFour (itemsBytes l ++ m, false) = ((l.length : Int), flatB l ++ m, false) := by
  unfold itemsBytes
  rw [List.append_assoc]
  exact pFour_be _ _ (by omega) (by omega)
theorem decOf_more (l : List Itm) (hn : l.length < 4294967296) (hr : ∀ y ∈ l, RightP y) (m : List Int) : decOf (itemsBytes l ++ m) = if m = [] then some l else none := by
  unfold decOf
  rw [pFour_items l hn]
  simp only [Int.toNat_natCast]
  rw [decN_bytes l hr]
  simp only [Prod.mk.injEq, and_true]
theorem decOf_bytes (l : List Itm) (hn : l.length < 4294967296) (hr : ∀ y ∈ l, RightP y) : decOf (itemsBytes l) = some l := by
  have := decOf_more l hn hr []
  rwa [List.append_nil, if_pos rfl] at this
theorem decOf_inv {xs : List Int} {l : List Itm} (hb : Byt xs) (h : decOf xs = some l) : xs = itemsBytes l ∧ (∀ y ∈ l, RightP y) ∧ l.length < 4294967296 := by
  have hbd := pFour_bound (t := (xs, false)) hb
  unfold decOf at h
  split at h
  case h_2 => cases h
  rename_i l' t hd
  split at h
  case isFalse => cases h
  rename_i ht
  cases h
  subst ht
  obtain ⟨i1, i2, i3, i4, i5⟩ := decN_inv _ (t := (pFour (xs, false)).2) (takeN_byt (t := (xs, false)) hb) hd
  obtain ⟨_, a1, a2⟩ := takeN_inv (n := 4) (t := (xs, false)) hb (i3 rfl)
  have e := i4 (i3 rfl)
  rw [List.append_nil] at e
  have hl : (pFour (xs, false)).1 = (l.length : Int) := by omega
  refine ⟨?_, i2, by omega⟩
  unfold itemsBytes
  rw [← hl, ← e]
  exact a1
theorem decOf_cut (l : List Itm) (hn : l.length < 4294967296) (hr : ∀ y ∈ l, RightP y) (hb : Byt (itemsBytes l)) (k : Nat) (hk : k < (itemsBytes l).length) : decOf ((itemsBytes l).take k) = none := by
  match h : decOf ((itemsBytes l).take k) with
  | none => rfl
  | some l' =>
    obtain ⟨e, r, n⟩ := decOf_inv (fun c hc => hb c (List.mem_of_mem_take hc)) h
    have h1 := decOf_more l' n r ((itemsBytes l).drop k)
    rw [← e, List.take_append_drop, decOf_bytes l hn hr, if_neg (fun h => by have := congrArg List.length h; simp at this; omega)] at h1
    cases h1
theorem decN_more : ∀ (l : List Itm) (k : Nat), (∀ x ∈ l, RightP x) → decN (l.length + k + 1) (flatB l, false) = none
  | [], k, _ => by
    rw [decN, if_neg]
    rintro ⟨h1, h2⟩
    have := (pItm_inv (t := (flatB [], false)) (by intro c hc; simp [flatB] at hc) h1 h2).2
    have := congrArg List.length this
    simp [flatB, itmBytes, be_length] at this
  | x :: l, k, h => by
    have hx := h x (by simp)
    have e := pItm_bytes x hx (flatB l)
    have : flatB (x :: l) = itmBytes x ++ flatB l := by simp [flatB]
    have e2 : (x :: l).length + k + 1 = (l.length + k + 1) + 1 := by simp only [List.length_cons]; omega
    rw [this, e2, decN, e]
    simp only [hx, and_self, if_true]
    rw [decN_more l k (fun y hy => h y (by simp [hy]))]
    rfl
theorem decOf_count (l : List Itm) (hr : ∀ y ∈ l, RightP y) (k : Nat) (hn : l.length + k + 1 < 4294967296) : decOf (be ((l.length + k + 1 : Nat) : Int) 4 ++ (itemsBytes l).drop 4) = none := by
  have e : (itemsBytes l).drop 4 = flatB l := by unfold itemsBytes; exact List.drop_left' (be_length _ _)
  unfold decOf
  rw [e, pFour_be _ _ (by omega) (by omega)]
  simp only [Int.toNat_natCast]
  rw [decN_more l k hr]
theorem flatB_byt : ∀ (l : List Itm), (∀ x ∈ l, RightP x) → Byt (flatB l)
  | [], _ => by intro c hc; simp [flatB] at hc
  | x :: l, h => by
    have e : flatB (x :: l) = itmBytes x ++ flatB l := by simp [flatB]
    have hx := h x (by simp)
    have hrc : ∀ r : Rc, Byt (rcBytes r) := fun r c hc => by
      unfold rcBytes at hc
      simp only [List.mem_append] at hc
      rcases hc with hc | hc | hc | hc <;> exact be64_byt _ c hc
    rw [e]
    intro c hc
    unfold itmBytes at hc
    simp only [List.mem_append, List.mem_cons] at hc
    rcases hc with (hc | hc | hc | hc | hc | hc) | hc
    · exact be_byt _ _ c hc
    · rcases hx.2.2 with hk | ⟨hk, _⟩ <;> rw [hc, hk] <;> exact ⟨by omega, by omega⟩
    · exact hrc _ c hc
    · split at hc
      · exact hrc _ c hc
      · simp at hc
    · exact hrc _ c hc
    · exact be64_byt _ c hc
    · exact flatB_byt l (fun y hy => h y (by simp [hy])) c hc
theorem itemsBytes_byt (l : List Itm) (h : ∀ x ∈ l, RightP x) : Byt (itemsBytes l) := fun c hc => by
  rcases List.mem_append.1 hc with hc | hc
  · exact be_byt _ _ c hc
  · exact flatB_byt l h c hc
theorem flatB_length (l : List Itm) : (flatB l).length ≤ l.length * 109 := flatMap_length_le _ 109 (fun a => itmBytes_length a) l
theorem itemsBytes_length (l : List Itm) : 4 ≤ (itemsBytes l).length ∧ (itemsBytes l).length ≤ 4 + l.length * 109 := by
  have := flatB_length l
  unfold itemsBytes
  rw [List.length_append, be_length]
  omega
theorem itmBytes_long (x : Itm) : 1 ≤ (itmBytes x).length := by unfold itmBytes; simp only [List.length_append, be_length]; omega
theorem flatB_long : ∀ (l : List Itm), l.length ≤ (flatB l).length
  | [] => by simp
  | x :: l => by
    have e : flatB (x :: l) = itmBytes x ++ flatB l := by simp [flatB]
    have := flatB_long l
    have := itmBytes_long x
    rw [e, List.length_append, List.length_cons]
    omega

set_option maxHeartbeats 2000000 in
theorem plateEncodes (x : Value) (l : List Itm) (S : St) (h : Is S x l) (hok : ∀ z ∈ l, z.Ok) : ACalls Try.prog 10 [x] S fun r S' => r = .bool true := by
  refine ACalls.run hmix Try.func10 cN10 kN10 rfl fun hL Q hQ => ?_
  simp only [guard_undef, List.contains_cons, List.contains_nil, Nat.reduceBEq, Int.cast_ofNat_Int, and_self, k_pend_g, pendV, go_sem, i64_wrap_id, Int.reduceAdd, Int.reduceSub, Int.reduceNeg, Int.reduceMul, Nat.reduceSub, Nat.reduceEqDiff, Nat.reduceAdd, Nat.reduceMul, Nat.reduceLeDiff, ↓reduceIte, reduceCtorEq, Int.reduceToNat, Int.reduceLT, Int.reduceLE, Int.reduceEq, aN10]
  refine cK_of (awake42 S) ?_
  rintro r0 S0 hS0 hL0 ⟨rfl, hK0⟩
  obtain ⟨a, e, rfl⟩ := Sl.slice h
  by_cases hl : (60 : Int) < l.length
  · simp only [guard_undef, List.contains_cons, List.contains_nil, Nat.reduceBEq, Int.cast_ofNat_Int, and_self, k_pend_g, pendV, go_sem, i64_wrap_id, Int.reduceAdd, Int.reduceSub, Int.reduceNeg, Int.reduceMul, Nat.reduceSub, Nat.reduceEqDiff, Nat.reduceAdd, Nat.reduceMul, Nat.reduceLeDiff, ↓reduceIte, reduceCtorEq, Int.reduceToNat, Int.reduceLT, Int.reduceLE, Int.reduceEq, hl]
    refine cK_of (awake42 S0) ?_
    rintro r2 S2 hS2 hL2 ⟨rfl, hK2⟩
    simp only [guard_undef, List.contains_cons, List.contains_nil, Nat.reduceBEq, Int.cast_ofNat_Int, and_self, k_pend_g, pendV, go_sem, i64_wrap_id, Int.reduceAdd, Int.reduceSub, Int.reduceNeg, Int.reduceMul, Nat.reduceSub, Nat.reduceEqDiff, Nat.reduceAdd, Nat.reduceMul, Nat.reduceLeDiff, ↓reduceIte, reduceCtorEq, Int.reduceToNat, Int.reduceLT, Int.reduceLE, Int.reduceEq]
    refine hQ _ _ _ ?_; (first | rw [k_body_ret] | rw [k_body_normal]); simp only [resVals, resVal, ev, Env.get_put, ↓reduceIte, Nat.reduceEqDiff, Option.bind_some, Option.map_some, reduceCtorEq, ldv_true, ldv_false, lloadV_agg, partL, List.toList_toArray, cellsOf_set, cellsOf_new, rd_set, rd_new, List.length_cons, List.length_nil, Nat.reduceAdd, Nat.reduceLeDiff, Nat.le_refl, List.take_succ_cons, List.take_zero, List.drop_zero, Nat.add_eq_left, Nat.left_eq_add, List.getElem?_cons_zero, List.getElem?_cons_succ, aN10]; rw [retQ_some]; simp only [oneOr]
  have h0 : Is S0 (.slice a l.length e) l := Sl.keeps hL h hK0 fun _ _ => trivial
  simp only [guard_undef, List.contains_cons, List.contains_nil, Nat.reduceBEq, Int.cast_ofNat_Int, and_self, k_pend_g, pendV, go_sem, i64_wrap_id, Int.reduceAdd, Int.reduceSub, Int.reduceNeg, Int.reduceMul, Nat.reduceSub, Nat.reduceEqDiff, Nat.reduceAdd, Nat.reduceMul, Nat.reduceLeDiff, ↓reduceIte, reduceCtorEq, Int.reduceToNat, Int.reduceLT, Int.reduceLE, Int.reduceEq, hl]
  refine lK_of (fun t' S' => S' = S0 ∧ ∃ (j : Nat) (c : Bool), j ≤ l.length ∧ Slots t' [(0, .slice a l.length e), (3, .bool c), (19, .int .i64 l.length), (20, .int .i64 j)] ∧ (c = true ↔ ∀ (k : Nat) (h1 : k < l.length), k < j → RightP l[k])) (fun t' _ => (l.length - RowKit.intOf (t' 20)).toNat) ?_ ?_
  · refine ⟨rfl, 0, true, by omega, ?_, by simp⟩
    simp only [guard_undef, List.contains_cons, List.contains_nil, Nat.reduceBEq, Int.cast_ofNat_Int, and_self, k_pend_g, pendV, go_sem, i64_wrap_id, Int.reduceAdd, Int.reduceSub, Int.reduceNeg, Int.reduceMul, Nat.reduceSub, Nat.reduceEqDiff, Nat.reduceAdd, Nat.reduceMul, Nat.reduceLeDiff, ↓reduceIte, reduceCtorEq, Int.reduceToNat, Int.reduceLT, Int.reduceLE, Int.reduceEq, slots_cons, slots_nil, Int.natCast_add, Int.natCast_succ, Int.cast_ofNat_Int, hl]
  rintro t1 S1 Q1 ⟨rfl, j, c, hj, h1, hc⟩ _ hN hE
  simp only [slots_cons, slots_nil] at h1
  by_cases hjn : j = l.length
  rotate_left
  · have hjl : j < l.length := by omega
    obtain ⟨d, o, f, hv, he, hcs⟩ := h0.ne (by omega)
    cases hv
    have hlt : (j : Int) < l.length := by omega
    have hj0 : (0 : Int) ≤ j := by omega
    have hj1 : IntKind.i64.wrap ((j : Int) + 1) = j + 1 := wrap64_id (by omega) (by omega)
    have hcj := items_at hcs j hjl
    simp only [guard_undef, List.contains_cons, List.contains_nil, Nat.reduceBEq, Int.cast_ofNat_Int, and_self, k_pend_g, pendV, go_sem, i64_wrap_id, Int.reduceAdd, Int.reduceSub, Int.reduceNeg, Int.reduceMul, Nat.reduceSub, Nat.reduceEqDiff, Nat.reduceAdd, Nat.reduceMul, Nat.reduceLeDiff, ↓reduceIte, reduceCtorEq, Int.reduceToNat, Int.reduceLT, Int.reduceLE, Int.reduceEq, h1, hlt, hj0, Int.toNat_natCast, hcj]
    refine cK_of (right43 l[j] S1) ?_
    rintro r2 S2 hS2 hL2 ⟨rfl, c2, rfl, hc2⟩
    simp only [guard_undef, List.contains_cons, List.contains_nil, Nat.reduceBEq, Int.cast_ofNat_Int, and_self, k_pend_g, pendV, go_sem, i64_wrap_id, Int.reduceAdd, Int.reduceSub, Int.reduceNeg, Int.reduceMul, Nat.reduceSub, Nat.reduceEqDiff, Nat.reduceAdd, Nat.reduceMul, Nat.reduceLeDiff, ↓reduceIte, reduceCtorEq, Int.reduceToNat, Int.reduceLT, Int.reduceLE, Int.reduceEq, h1, hlt, hj0, Int.toNat_natCast, hcj]
    refine cK_of (right44 l[j] S2) ?_
    rintro r3 S3 hS3 hL3 ⟨rfl, c3, rfl, hc3⟩
    have e23 : c3 = c2 := by rw [Bool.eq_iff_iff, hc2, hc3]
    subst e23
    have hnx : ∀ q : Bool, (q = true ↔ (c = true ∧ c3 = true)) → (q = true ↔ ∀ (k : Nat) (h1 : k < l.length), k < j + 1 → RightP l[k]) := by
      intro q hq
      rw [hq, hc, hc3]
      refine ⟨fun hh k g1 g2 => ?_, fun hh => ⟨fun k g1 g2 => hh k g1 (by omega), hh j hjl (by omega)⟩⟩
      by_cases hkj : k = j
      · subst hkj; exact hh.2
      · exact hh.1 k g1 (by omega)
    obtain ⟨q, hq⟩ : ∃ q, q = (c && c3) := ⟨_, rfl⟩
    have hqn := hnx q (by rw [hq]; simp)
    cases c <;> cases c3
    all_goals
      simp only [Bool.and_self, Bool.and_false, Bool.and_true] at hq
      subst hq
      simp only [guard_undef, List.contains_cons, List.contains_nil, Nat.reduceBEq, Int.cast_ofNat_Int, and_self, k_pend_g, pendV, go_sem, i64_wrap_id, Int.reduceAdd, Int.reduceSub, Int.reduceNeg, Int.reduceMul, Nat.reduceSub, Nat.reduceEqDiff, Nat.reduceAdd, Nat.reduceMul, Nat.reduceLeDiff, ↓reduceIte, reduceCtorEq, Int.reduceToNat, Int.reduceLT, Int.reduceLE, Int.reduceEq, h1, hj1]
      refine hN _ _ ⟨rfl, j + 1, _, by omega, ?_, hqn⟩ ?_
      · simp only [guard_undef, List.contains_cons, List.contains_nil, Nat.reduceBEq, Int.cast_ofNat_Int, and_self, k_pend_g, pendV, go_sem, i64_wrap_id, Int.reduceAdd, Int.reduceSub, Int.reduceNeg, Int.reduceMul, Nat.reduceSub, Nat.reduceEqDiff, Nat.reduceAdd, Nat.reduceMul, Nat.reduceLeDiff, ↓reduceIte, reduceCtorEq, Int.reduceToNat, Int.reduceLT, Int.reduceLE, Int.reduceEq, slots_cons, slots_nil, Int.natCast_add, Int.natCast_succ, Int.cast_ofNat_Int, h1]
      · simp only [guard_undef, List.contains_cons, List.contains_nil, Nat.reduceBEq, Int.cast_ofNat_Int, and_self, k_pend_g, pendV, go_sem, i64_wrap_id, Int.reduceAdd, Int.reduceSub, Int.reduceNeg, Int.reduceMul, Nat.reduceSub, Nat.reduceEqDiff, Nat.reduceAdd, Nat.reduceMul, Nat.reduceLeDiff, ↓reduceIte, reduceCtorEq, Int.reduceToNat, Int.reduceLT, Int.reduceLE, Int.reduceEq, h1]
        simp [RowKit.intOf]
        omega
  subst hjn
  simp only [guard_undef, List.contains_cons, List.contains_nil, Nat.reduceBEq, Int.cast_ofNat_Int, and_self, k_pend_g, pendV, go_sem, i64_wrap_id, Int.reduceAdd, Int.reduceSub, Int.reduceNeg, Int.reduceMul, Nat.reduceSub, Nat.reduceEqDiff, Nat.reduceAdd, Nat.reduceMul, Nat.reduceLeDiff, ↓reduceIte, reduceCtorEq, Int.reduceToNat, Int.reduceLT, Int.reduceLE, Int.reduceEq, h1, Int.lt_irrefl]
  refine hE _ _ _ (by simp) ?_
  simp only [guard_undef, List.contains_cons, List.contains_nil, Nat.reduceBEq, Int.cast_ofNat_Int, and_self, k_pend_g, pendV, go_sem, i64_wrap_id, Int.reduceAdd, Int.reduceSub, Int.reduceNeg, Int.reduceMul, Nat.reduceSub, Nat.reduceEqDiff, Nat.reduceAdd, Nat.reduceMul, Nat.reduceLeDiff, ↓reduceIte, reduceCtorEq, Int.reduceToNat, Int.reduceLT, Int.reduceLE, Int.reduceEq, h1]
  refine cK_of (encode45 (.slice a l.length e) l S1 h0 (by omega)) ?_
  rintro r2 S2 hS2 hL2 ⟨hK2, hy, hn⟩
  have hcc : c = true ↔ ∀ y ∈ l, RightP y := by
    rw [hc]
    refine ⟨fun hh y hy => ?_, fun hh k g1 _ => hh _ (List.getElem_mem g1)⟩
    obtain ⟨k, g1, rfl⟩ := List.getElem_of_mem hy
    exact hh k g1 g1
  cases c
  · have := hn (fun hh => by have := hcc.2 hh; cases this)
    subst this
    simp only [guard_undef, List.contains_cons, List.contains_nil, Nat.reduceBEq, Int.cast_ofNat_Int, and_self, k_pend_g, pendV, go_sem, i64_wrap_id, Int.reduceAdd, Int.reduceSub, Int.reduceNeg, Int.reduceMul, Nat.reduceSub, Nat.reduceEqDiff, Nat.reduceAdd, Nat.reduceMul, Nat.reduceLeDiff, ↓reduceIte, reduceCtorEq, Int.reduceToNat, Int.reduceLT, Int.reduceLE, Int.reduceEq, h1]
    refine hQ _ _ _ ?_; (first | rw [k_body_ret] | rw [k_body_normal]); simp only [resVals, resVal, ev, Env.get_put, ↓reduceIte, Nat.reduceEqDiff, Option.bind_some, Option.map_some, reduceCtorEq, ldv_true, ldv_false, lloadV_agg, partL, List.toList_toArray, cellsOf_set, cellsOf_new, rd_set, rd_new, List.length_cons, List.length_nil, Nat.reduceAdd, Nat.reduceLeDiff, Nat.le_refl, List.take_succ_cons, List.take_zero, List.drop_zero, Nat.add_eq_left, Nat.left_eq_add, List.getElem?_cons_zero, List.getElem?_cons_succ, aN10, h1]; rw [retQ_some]; simp only [oneOr]
  have hr := hcc.1 rfl
  obtain ⟨v, rfl, hO2, hF2⟩ := hy hr
  obtain ⟨b1, b2⟩ := itemsBytes_length l
  have hbyt := itemsBytes_byt l hr
  have hdec := decOf_bytes l (by omega) hr
  obtain ⟨W, hW⟩ : ∃ W, W = itemsBytes l := ⟨_, rfl⟩
  rw [← hW] at hO2 b1 b2 hbyt hdec
  simp only [guard_undef, List.contains_cons, List.contains_nil, Nat.reduceBEq, Int.cast_ofNat_Int, and_self, k_pend_g, pendV, go_sem, i64_wrap_id, Int.reduceAdd, Int.reduceSub, Int.reduceNeg, Int.reduceMul, Nat.reduceSub, Nat.reduceEqDiff, Nat.reduceAdd, Nat.reduceMul, Nat.reduceLeDiff, ↓reduceIte, reduceCtorEq, Int.reduceToNat, Int.reduceLT, Int.reduceLE, Int.reduceEq, h1]
  refine cK_of (decode46 v W S2 hO2.sl hbyt (by omega)) ?_
  rintro r3 S3 hS3 hL3 ⟨hK3, hd⟩
  rcases hd with ⟨l', v', hd, rfl, hO3, hF3⟩ | ⟨hd, _⟩
  rotate_left
  · rw [hdec] at hd; cases hd
  rw [hdec] at hd
  cases hd
  have hO2' := Own.keeps hL2 hO2 hK3 fun _ _ => trivial
  have h3 : Is S3 (.slice a l.length e) l := Sl.keeps hL2 (Sl.keeps hL0 h0 hK2 fun _ _ => trivial) hK3 fun _ _ => trivial
  have hb := b2s_bs (show Bs S3 v W from hO2'.sl)
  simp only [guard_undef, List.contains_cons, List.contains_nil, Nat.reduceBEq, Int.cast_ofNat_Int, and_self, k_pend_g, pendV, go_sem, i64_wrap_id, Int.reduceAdd, Int.reduceSub, Int.reduceNeg, Int.reduceMul, Nat.reduceSub, Nat.reduceEqDiff, Nat.reduceAdd, Nat.reduceMul, Nat.reduceLeDiff, ↓reduceIte, reduceCtorEq, Int.reduceToNat, Int.reduceLT, Int.reduceLE, Int.reduceEq, h1, hb]
  refine cK_of (bytes47 (.slice a l.length e) l S3 h3 (by omega) hr) ?_
  rintro r4 S4 hS4 hL4 hB4
  rw [← hW] at hB4
  have hO4 := Own.keeps hL3 hO2' hB4.keep fun _ _ => trivial
  have hO5 := Own.keeps hL3 hO3 hB4.keep fun _ _ => trivial
  have h4 : Is S4 (.slice a l.length e) l := Sl.keeps hL3 h3 hB4.keep fun _ _ => trivial
  have hb' := b2s_bs (show Bs S4 v W from hO4.sl)
  have hb4 := b2s_bs hB4.own.sl
  simp only [guard_undef, List.contains_cons, List.contains_nil, Nat.reduceBEq, Int.cast_ofNat_Int, and_self, k_pend_g, pendV, go_sem, i64_wrap_id, Int.reduceAdd, Int.reduceSub, Int.reduceNeg, Int.reduceMul, Nat.reduceSub, Nat.reduceEqDiff, Nat.reduceAdd, Nat.reduceMul, Nat.reduceLeDiff, ↓reduceIte, reduceCtorEq, Int.reduceToNat, Int.reduceLT, Int.reduceLE, Int.reduceEq, h1, hb', hb4]
  refine cK_of (same48 v' (.slice a l.length e) l l S4 hO5.sl h4 (by omega) (by omega) hok hok) ?_
  rintro r5 S5 hS5 hL5 ⟨rfl, c, rfl, hc⟩
  have := hc.2 rfl
  subst this
  simp only [guard_undef, List.contains_cons, List.contains_nil, Nat.reduceBEq, Int.cast_ofNat_Int, and_self, k_pend_g, pendV, go_sem, i64_wrap_id, Int.reduceAdd, Int.reduceSub, Int.reduceNeg, Int.reduceMul, Nat.reduceSub, Nat.reduceEqDiff, Nat.reduceAdd, Nat.reduceMul, Nat.reduceLeDiff, ↓reduceIte, reduceCtorEq, Int.reduceToNat, Int.reduceLT, Int.reduceLE, Int.reduceEq, h1]
  refine hQ _ _ _ ?_; (first | rw [k_body_ret] | rw [k_body_normal]); simp only [resVals, resVal, ev, Env.get_put, ↓reduceIte, Nat.reduceEqDiff, Option.bind_some, Option.map_some, reduceCtorEq, ldv_true, ldv_false, lloadV_agg, partL, List.toList_toArray, cellsOf_set, cellsOf_new, rd_set, rd_new, List.length_cons, List.length_nil, Nat.reduceAdd, Nat.reduceLeDiff, Nat.le_refl, List.take_succ_cons, List.take_zero, List.drop_zero, Nat.add_eq_left, Nat.left_eq_add, List.getElem?_cons_zero, List.getElem?_cons_succ, aN10, h1]; rw [retQ_some]; simp only [oneOr]

set_option maxHeartbeats 2000000 in
theorem plateDecodes (x : Value) (xs : List Int) (S : St) (h : Bs S x xs) (hx : Byt xs) : ACalls Try.prog 11 [x] S fun r S' => r = .bool true := by
  refine ACalls.run hmix Try.func11 cN11 kN11 rfl fun hL Q hQ => ?_
  simp only [guard_undef, List.contains_cons, List.contains_nil, Nat.reduceBEq, Int.cast_ofNat_Int, and_self, k_pend_g, pendV, go_sem, i64_wrap_id, Int.reduceAdd, Int.reduceSub, Int.reduceNeg, Int.reduceMul, Nat.reduceSub, Nat.reduceEqDiff, Nat.reduceAdd, Nat.reduceMul, Nat.reduceLeDiff, ↓reduceIte, reduceCtorEq, Int.reduceToNat, Int.reduceLT, Int.reduceLE, Int.reduceEq, aN11]
  refine cK_of (awake42 S) ?_
  rintro r0 S0 hS0 hL0 ⟨rfl, hK0⟩
  obtain ⟨a, e, rfl⟩ := h.slice
  by_cases hl : (5000 : Int) < xs.length
  · simp only [guard_undef, List.contains_cons, List.contains_nil, Nat.reduceBEq, Int.cast_ofNat_Int, and_self, k_pend_g, pendV, go_sem, i64_wrap_id, Int.reduceAdd, Int.reduceSub, Int.reduceNeg, Int.reduceMul, Nat.reduceSub, Nat.reduceEqDiff, Nat.reduceAdd, Nat.reduceMul, Nat.reduceLeDiff, ↓reduceIte, reduceCtorEq, Int.reduceToNat, Int.reduceLT, Int.reduceLE, Int.reduceEq, hl]
    refine cK_of (awake42 S0) ?_
    rintro r2 S2 hS2 hL2 ⟨rfl, hK2⟩
    simp only [guard_undef, List.contains_cons, List.contains_nil, Nat.reduceBEq, Int.cast_ofNat_Int, and_self, k_pend_g, pendV, go_sem, i64_wrap_id, Int.reduceAdd, Int.reduceSub, Int.reduceNeg, Int.reduceMul, Nat.reduceSub, Nat.reduceEqDiff, Nat.reduceAdd, Nat.reduceMul, Nat.reduceLeDiff, ↓reduceIte, reduceCtorEq, Int.reduceToNat, Int.reduceLT, Int.reduceLE, Int.reduceEq]
    refine hQ _ _ _ ?_; (first | rw [k_body_ret] | rw [k_body_normal]); simp only [resVals, resVal, ev, Env.get_put, ↓reduceIte, Nat.reduceEqDiff, Option.bind_some, Option.map_some, reduceCtorEq, ldv_true, ldv_false, lloadV_agg, partL, List.toList_toArray, cellsOf_set, cellsOf_new, rd_set, rd_new, List.length_cons, List.length_nil, Nat.reduceAdd, Nat.reduceLeDiff, Nat.le_refl, List.take_succ_cons, List.take_zero, List.drop_zero, Nat.add_eq_left, Nat.left_eq_add, List.getElem?_cons_zero, List.getElem?_cons_succ, aN11]; rw [retQ_some]; simp only [oneOr]
  have h0 : Bs S0 (.slice a xs.length e) xs := Sl.keeps hL h hK0 fun _ _ => trivial
  simp only [guard_undef, List.contains_cons, List.contains_nil, Nat.reduceBEq, Int.cast_ofNat_Int, and_self, k_pend_g, pendV, go_sem, i64_wrap_id, Int.reduceAdd, Int.reduceSub, Int.reduceNeg, Int.reduceMul, Nat.reduceSub, Nat.reduceEqDiff, Nat.reduceAdd, Nat.reduceMul, Nat.reduceLeDiff, ↓reduceIte, reduceCtorEq, Int.reduceToNat, Int.reduceLT, Int.reduceLE, Int.reduceEq, hl]
  refine cK_of (decode46 (.slice a xs.length e) xs S0 h0 hx (by omega)) ?_
  rintro r3 S3 hS3 hL3 ⟨hK3, hd⟩
  rcases hd with ⟨l, v, hd, rfl, hO3, hF3⟩ | ⟨hd, rfl⟩
  rotate_left
  · simp only [guard_undef, List.contains_cons, List.contains_nil, Nat.reduceBEq, Int.cast_ofNat_Int, and_self, k_pend_g, pendV, go_sem, i64_wrap_id, Int.reduceAdd, Int.reduceSub, Int.reduceNeg, Int.reduceMul, Nat.reduceSub, Nat.reduceEqDiff, Nat.reduceAdd, Nat.reduceMul, Nat.reduceLeDiff, ↓reduceIte, reduceCtorEq, Int.reduceToNat, Int.reduceLT, Int.reduceLE, Int.reduceEq]
    refine hQ _ _ _ ?_; (first | rw [k_body_ret] | rw [k_body_normal]); simp only [resVals, resVal, ev, Env.get_put, ↓reduceIte, Nat.reduceEqDiff, Option.bind_some, Option.map_some, reduceCtorEq, ldv_true, ldv_false, lloadV_agg, partL, List.toList_toArray, cellsOf_set, cellsOf_new, rd_set, rd_new, List.length_cons, List.length_nil, Nat.reduceAdd, Nat.reduceLeDiff, Nat.le_refl, List.take_succ_cons, List.take_zero, List.drop_zero, Nat.add_eq_left, Nat.left_eq_add, List.getElem?_cons_zero, List.getElem?_cons_succ, aN11]; rw [retQ_some]; simp only [oneOr]
    simp
  obtain ⟨hxs, hr, hnl⟩ := decOf_inv hx hd
  obtain ⟨b1, b2⟩ := itemsBytes_length l
  have h3 : Bs S3 (.slice a xs.length e) xs := Sl.keeps hL0 h0 hK3 fun _ _ => trivial
  have hI3 : Is S3 v l := hO3.sl
  obtain ⟨a3, e3, rfl⟩ := Sl.slice hI3
  have hll : l.length ≤ 6000 := by
    have := flatB_long l
    have e1 := congrArg List.length hxs
    unfold itemsBytes at e1
    rw [List.length_append, be_length] at e1
    omega
  simp only [guard_undef, List.contains_cons, List.contains_nil, Nat.reduceBEq, Int.cast_ofNat_Int, and_self, k_pend_g, pendV, go_sem, i64_wrap_id, Int.reduceAdd, Int.reduceSub, Int.reduceNeg, Int.reduceMul, Nat.reduceSub, Nat.reduceEqDiff, Nat.reduceAdd, Nat.reduceMul, Nat.reduceLeDiff, ↓reduceIte, reduceCtorEq, Int.reduceToNat, Int.reduceLT, Int.reduceLE, Int.reduceEq]
  refine lK_of (fun t' S' => S' = S3 ∧ ∃ (j : Nat), j ≤ l.length ∧ Slots t' [(0, .slice a xs.length e), (3, .slice a3 l.length e3), (29, .int .i64 l.length), (30, .int .i64 j)]) (fun t' _ => (l.length - RowKit.intOf (t' 30)).toNat) ?_ ?_
  · refine ⟨rfl, 0, by omega, ?_⟩
    simp only [guard_undef, List.contains_cons, List.contains_nil, Nat.reduceBEq, Int.cast_ofNat_Int, and_self, k_pend_g, pendV, go_sem, i64_wrap_id, Int.reduceAdd, Int.reduceSub, Int.reduceNeg, Int.reduceMul, Nat.reduceSub, Nat.reduceEqDiff, Nat.reduceAdd, Nat.reduceMul, Nat.reduceLeDiff, ↓reduceIte, reduceCtorEq, Int.reduceToNat, Int.reduceLT, Int.reduceLE, Int.reduceEq, slots_cons, slots_nil, Int.natCast_add, Int.natCast_succ, Int.cast_ofNat_Int]
  rintro t1 S1 Q1 ⟨rfl, j, hj, h1⟩ _ hN hE
  simp only [slots_cons, slots_nil] at h1
  by_cases hjn : j = l.length
  rotate_left
  · have hjl : j < l.length := by omega
    obtain ⟨d, o, f, hv, he, hcs⟩ := hI3.ne (by omega)
    cases hv
    have hlt : (j : Int) < l.length := by omega
    have hj0 : (0 : Int) ≤ j := by omega
    have hj1 : IntKind.i64.wrap ((j : Int) + 1) = j + 1 := wrap64_id (by omega) (by omega)
    have hcj := items_at hcs j hjl
    simp only [guard_undef, List.contains_cons, List.contains_nil, Nat.reduceBEq, Int.cast_ofNat_Int, and_self, k_pend_g, pendV, go_sem, i64_wrap_id, Int.reduceAdd, Int.reduceSub, Int.reduceNeg, Int.reduceMul, Nat.reduceSub, Nat.reduceEqDiff, Nat.reduceAdd, Nat.reduceMul, Nat.reduceLeDiff, ↓reduceIte, reduceCtorEq, Int.reduceToNat, Int.reduceLT, Int.reduceLE, Int.reduceEq, h1, hlt, hj0, Int.toNat_natCast, hcj]
    refine cK_of (right43 l[j] S1) ?_
    rintro r2 S2 hS2 hL2 ⟨rfl, c2, rfl, hc2⟩
    have : c2 = true := hc2.2 (hr _ (List.getElem_mem hjl))
    subst this
    simp only [guard_undef, List.contains_cons, List.contains_nil, Nat.reduceBEq, Int.cast_ofNat_Int, and_self, k_pend_g, pendV, go_sem, i64_wrap_id, Int.reduceAdd, Int.reduceSub, Int.reduceNeg, Int.reduceMul, Nat.reduceSub, Nat.reduceEqDiff, Nat.reduceAdd, Nat.reduceMul, Nat.reduceLeDiff, ↓reduceIte, reduceCtorEq, Int.reduceToNat, Int.reduceLT, Int.reduceLE, Int.reduceEq, h1, hj1]
    refine hN _ _ ⟨rfl, j + 1, by omega, ?_⟩ ?_
    · simp only [guard_undef, List.contains_cons, List.contains_nil, Nat.reduceBEq, Int.cast_ofNat_Int, and_self, k_pend_g, pendV, go_sem, i64_wrap_id, Int.reduceAdd, Int.reduceSub, Int.reduceNeg, Int.reduceMul, Nat.reduceSub, Nat.reduceEqDiff, Nat.reduceAdd, Nat.reduceMul, Nat.reduceLeDiff, ↓reduceIte, reduceCtorEq, Int.reduceToNat, Int.reduceLT, Int.reduceLE, Int.reduceEq, slots_cons, slots_nil, Int.natCast_add, Int.natCast_succ, Int.cast_ofNat_Int, h1]
    · simp only [guard_undef, List.contains_cons, List.contains_nil, Nat.reduceBEq, Int.cast_ofNat_Int, and_self, k_pend_g, pendV, go_sem, i64_wrap_id, Int.reduceAdd, Int.reduceSub, Int.reduceNeg, Int.reduceMul, Nat.reduceSub, Nat.reduceEqDiff, Nat.reduceAdd, Nat.reduceMul, Nat.reduceLeDiff, ↓reduceIte, reduceCtorEq, Int.reduceToNat, Int.reduceLT, Int.reduceLE, Int.reduceEq, h1]
      simp [RowKit.intOf]
      omega
  subst hjn
  simp only [guard_undef, List.contains_cons, List.contains_nil, Nat.reduceBEq, Int.cast_ofNat_Int, and_self, k_pend_g, pendV, go_sem, i64_wrap_id, Int.reduceAdd, Int.reduceSub, Int.reduceNeg, Int.reduceMul, Nat.reduceSub, Nat.reduceEqDiff, Nat.reduceAdd, Nat.reduceMul, Nat.reduceLeDiff, ↓reduceIte, reduceCtorEq, Int.reduceToNat, Int.reduceLT, Int.reduceLE, Int.reduceEq, h1, Int.lt_irrefl]
  refine hE _ _ _ (by simp) ?_
  have hb := b2s_bs h3
  simp only [guard_undef, List.contains_cons, List.contains_nil, Nat.reduceBEq, Int.cast_ofNat_Int, and_self, k_pend_g, pendV, go_sem, i64_wrap_id, Int.reduceAdd, Int.reduceSub, Int.reduceNeg, Int.reduceMul, Nat.reduceSub, Nat.reduceEqDiff, Nat.reduceAdd, Nat.reduceMul, Nat.reduceLeDiff, ↓reduceIte, reduceCtorEq, Int.reduceToNat, Int.reduceLT, Int.reduceLE, Int.reduceEq, h1, hb]
  refine cK_of (bytes47 (.slice a3 l.length e3) l S1 hI3 (by omega) hr) ?_
  rintro r4 S4 hS4 hL4 hB4
  rw [← hxs] at hB4
  have h4 : Bs S4 (.slice a xs.length e) xs := Sl.keeps hL3 h3 hB4.keep fun _ _ => trivial
  have hb' := b2s_bs h4
  have hb4 := b2s_bs hB4.own.sl
  simp only [guard_undef, List.contains_cons, List.contains_nil, Nat.reduceBEq, Int.cast_ofNat_Int, and_self, k_pend_g, pendV, go_sem, i64_wrap_id, Int.reduceAdd, Int.reduceSub, Int.reduceNeg, Int.reduceMul, Nat.reduceSub, Nat.reduceEqDiff, Nat.reduceAdd, Nat.reduceMul, Nat.reduceLeDiff, ↓reduceIte, reduceCtorEq, Int.reduceToNat, Int.reduceLT, Int.reduceLE, Int.reduceEq, h1, hb', hb4]
  refine hQ _ _ _ ?_; (first | rw [k_body_ret] | rw [k_body_normal]); simp only [resVals, resVal, ev, Env.get_put, ↓reduceIte, Nat.reduceEqDiff, Option.bind_some, Option.map_some, reduceCtorEq, ldv_true, ldv_false, lloadV_agg, partL, List.toList_toArray, cellsOf_set, cellsOf_new, rd_set, rd_new, List.length_cons, List.length_nil, Nat.reduceAdd, Nat.reduceLeDiff, Nat.le_refl, List.take_succ_cons, List.take_zero, List.drop_zero, Nat.add_eq_left, Nat.left_eq_add, List.getElem?_cons_zero, List.getElem?_cons_succ, aN11, h1]; rw [retQ_some]; simp only [oneOr]

theorem wrapU64 {n : Int} (h0 : 0 ≤ n) (h1 : n < 18446744073709551616) : IntKind.u64.wrap n = n := by rw [wrap64u]; omega

set_option maxHeartbeats 2000000 in
theorem plateCuts (x : Value) (l : List Itm) (at_ b : Int) (S : St) (h : Is S x l) (hok : ∀ z ∈ l, z.Ok) (h0 : 0 ≤ at_) (h1 : at_ < 65536) (g0 : 0 ≤ b) (g1 : b < 256) : ACalls Try.prog 12 [x, .int .u16 at_, .int .u8 b] S fun r S' => r = .bool true := by
  refine ACalls.run hmix Try.func12 cN12 kN12 rfl fun hL Q hQ => ?_
  simp only [guard_undef, List.contains_cons, List.contains_nil, Nat.reduceBEq, Int.cast_ofNat_Int, and_self, k_pend_g, pendV, go_sem, i64_wrap_id, Int.reduceAdd, Int.reduceSub, Int.reduceNeg, Int.reduceMul, Nat.reduceSub, Nat.reduceEqDiff, Nat.reduceAdd, Nat.reduceMul, Nat.reduceLeDiff, ↓reduceIte, reduceCtorEq, Int.reduceToNat, Int.reduceLT, Int.reduceLE, Int.reduceEq, aN12]
  refine cK_of (awake42 S) ?_
  rintro r0 S0 hS0 hL0 ⟨rfl, hK0⟩
  obtain ⟨a, e, rfl⟩ := Sl.slice h
  by_cases hl : (20 : Int) < l.length
  · simp only [guard_undef, List.contains_cons, List.contains_nil, Nat.reduceBEq, Int.cast_ofNat_Int, and_self, k_pend_g, pendV, go_sem, i64_wrap_id, Int.reduceAdd, Int.reduceSub, Int.reduceNeg, Int.reduceMul, Nat.reduceSub, Nat.reduceEqDiff, Nat.reduceAdd, Nat.reduceMul, Nat.reduceLeDiff, ↓reduceIte, reduceCtorEq, Int.reduceToNat, Int.reduceLT, Int.reduceLE, Int.reduceEq, hl]
    refine cK_of (awake42 S0) ?_
    rintro r2 S2 hS2 hL2 ⟨rfl, hK2⟩
    simp only [guard_undef, List.contains_cons, List.contains_nil, Nat.reduceBEq, Int.cast_ofNat_Int, and_self, k_pend_g, pendV, go_sem, i64_wrap_id, Int.reduceAdd, Int.reduceSub, Int.reduceNeg, Int.reduceMul, Nat.reduceSub, Nat.reduceEqDiff, Nat.reduceAdd, Nat.reduceMul, Nat.reduceLeDiff, ↓reduceIte, reduceCtorEq, Int.reduceToNat, Int.reduceLT, Int.reduceLE, Int.reduceEq]
    refine hQ _ _ _ ?_; (first | rw [k_body_ret] | rw [k_body_normal]); simp only [resVals, resVal, ev, Env.get_put, ↓reduceIte, Nat.reduceEqDiff, Option.bind_some, Option.map_some, reduceCtorEq, ldv_true, ldv_false, lloadV_agg, partL, List.toList_toArray, cellsOf_set, cellsOf_new, rd_set, rd_new, List.length_cons, List.length_nil, Nat.reduceAdd, Nat.reduceLeDiff, Nat.le_refl, List.take_succ_cons, List.take_zero, List.drop_zero, Nat.add_eq_left, Nat.left_eq_add, List.getElem?_cons_zero, List.getElem?_cons_succ, aN12]; rw [retQ_some]; simp only [oneOr]
  have hI0 : Is S0 (.slice a l.length e) l := Sl.keeps hL h hK0 fun _ _ => trivial
  simp only [guard_undef, List.contains_cons, List.contains_nil, Nat.reduceBEq, Int.cast_ofNat_Int, and_self, k_pend_g, pendV, go_sem, i64_wrap_id, Int.reduceAdd, Int.reduceSub, Int.reduceNeg, Int.reduceMul, Nat.reduceSub, Nat.reduceEqDiff, Nat.reduceAdd, Nat.reduceMul, Nat.reduceLeDiff, ↓reduceIte, reduceCtorEq, Int.reduceToNat, Int.reduceLT, Int.reduceLE, Int.reduceEq, hl]
  refine lK_of (fun t' S' => S' = S0 ∧ ∃ (j : Nat), j ≤ l.length ∧ Slots t' [(0, .slice a l.length e), (1, .int .u16 at_), (2, .int .u8 b), (24, .int .i64 l.length), (25, .int .i64 j)] ∧ ∀ (k : Nat) (h1 : k < l.length), k < j → RightP l[k]) (fun t' _ => (l.length - RowKit.intOf (t' 25)).toNat) ?_ ?_
  · refine ⟨rfl, 0, by omega, ?_, by simp⟩
    simp only [guard_undef, List.contains_cons, List.contains_nil, Nat.reduceBEq, Int.cast_ofNat_Int, and_self, k_pend_g, pendV, go_sem, i64_wrap_id, Int.reduceAdd, Int.reduceSub, Int.reduceNeg, Int.reduceMul, Nat.reduceSub, Nat.reduceEqDiff, Nat.reduceAdd, Nat.reduceMul, Nat.reduceLeDiff, ↓reduceIte, reduceCtorEq, Int.reduceToNat, Int.reduceLT, Int.reduceLE, Int.reduceEq, slots_cons, slots_nil, Int.natCast_add, Int.natCast_succ, Int.cast_ofNat_Int, hl]
  rintro t1 S1 Q1 ⟨rfl, j, hj, hs, hc⟩ _ hN hE
  simp only [slots_cons, slots_nil] at hs
  by_cases hjn : j = l.length
  rotate_left
  · have hjl : j < l.length := by omega
    obtain ⟨d, o, f, hv, he, hcs⟩ := hI0.ne (by omega)
    cases hv
    have hlt : (j : Int) < l.length := by omega
    have hj0 : (0 : Int) ≤ j := by omega
    have hj1 : IntKind.i64.wrap ((j : Int) + 1) = j + 1 := wrap64_id (by omega) (by omega)
    have hcj := items_at hcs j hjl
    simp only [guard_undef, List.contains_cons, List.contains_nil, Nat.reduceBEq, Int.cast_ofNat_Int, and_self, k_pend_g, pendV, go_sem, i64_wrap_id, Int.reduceAdd, Int.reduceSub, Int.reduceNeg, Int.reduceMul, Nat.reduceSub, Nat.reduceEqDiff, Nat.reduceAdd, Nat.reduceMul, Nat.reduceLeDiff, ↓reduceIte, reduceCtorEq, Int.reduceToNat, Int.reduceLT, Int.reduceLE, Int.reduceEq, hs, hlt, hj0, Int.toNat_natCast, hcj]
    refine cK_of (right43 l[j] S1) ?_
    rintro r2 S2 hS2 hL2 ⟨rfl, c2, rfl, hc2⟩
    cases c2
    · simp only [guard_undef, List.contains_cons, List.contains_nil, Nat.reduceBEq, Int.cast_ofNat_Int, and_self, k_pend_g, pendV, go_sem, i64_wrap_id, Int.reduceAdd, Int.reduceSub, Int.reduceNeg, Int.reduceMul, Nat.reduceSub, Nat.reduceEqDiff, Nat.reduceAdd, Nat.reduceMul, Nat.reduceLeDiff, ↓reduceIte, reduceCtorEq, Int.reduceToNat, Int.reduceLT, Int.reduceLE, Int.reduceEq, hs]
      refine hE _ _ _ (by simp) ?_
      simp only [guard_undef, List.contains_cons, List.contains_nil, Nat.reduceBEq, Int.cast_ofNat_Int, and_self, k_pend_g, pendV, go_sem, i64_wrap_id, Int.reduceAdd, Int.reduceSub, Int.reduceNeg, Int.reduceMul, Nat.reduceSub, Nat.reduceEqDiff, Nat.reduceAdd, Nat.reduceMul, Nat.reduceLeDiff, ↓reduceIte, reduceCtorEq, Int.reduceToNat, Int.reduceLT, Int.reduceLE, Int.reduceEq, hs]
      refine hQ _ _ _ ?_; (first | rw [k_body_ret] | rw [k_body_normal]); simp only [resVals, resVal, ev, Env.get_put, ↓reduceIte, Nat.reduceEqDiff, Option.bind_some, Option.map_some, reduceCtorEq, ldv_true, ldv_false, lloadV_agg, partL, List.toList_toArray, cellsOf_set, cellsOf_new, rd_set, rd_new, List.length_cons, List.length_nil, Nat.reduceAdd, Nat.reduceLeDiff, Nat.le_refl, List.take_succ_cons, List.take_zero, List.drop_zero, Nat.add_eq_left, Nat.left_eq_add, List.getElem?_cons_zero, List.getElem?_cons_succ, aN12, hs]; rw [retQ_some]; simp only [oneOr]
    simp only [guard_undef, List.contains_cons, List.contains_nil, Nat.reduceBEq, Int.cast_ofNat_Int, and_self, k_pend_g, pendV, go_sem, i64_wrap_id, Int.reduceAdd, Int.reduceSub, Int.reduceNeg, Int.reduceMul, Nat.reduceSub, Nat.reduceEqDiff, Nat.reduceAdd, Nat.reduceMul, Nat.reduceLeDiff, ↓reduceIte, reduceCtorEq, Int.reduceToNat, Int.reduceLT, Int.reduceLE, Int.reduceEq, hs, hj1]
    refine hN _ _ ⟨rfl, j + 1, by omega, ?_, fun k g1 g2 => ?_⟩ ?_
    · simp only [guard_undef, List.contains_cons, List.contains_nil, Nat.reduceBEq, Int.cast_ofNat_Int, and_self, k_pend_g, pendV, go_sem, i64_wrap_id, Int.reduceAdd, Int.reduceSub, Int.reduceNeg, Int.reduceMul, Nat.reduceSub, Nat.reduceEqDiff, Nat.reduceAdd, Nat.reduceMul, Nat.reduceLeDiff, ↓reduceIte, reduceCtorEq, Int.reduceToNat, Int.reduceLT, Int.reduceLE, Int.reduceEq, slots_cons, slots_nil, Int.natCast_add, Int.natCast_succ, Int.cast_ofNat_Int, hs]
    · by_cases hkj : k = j
      · subst hkj; exact hc2.1 rfl
      · exact hc k g1 (by omega)
    · simp only [guard_undef, List.contains_cons, List.contains_nil, Nat.reduceBEq, Int.cast_ofNat_Int, and_self, k_pend_g, pendV, go_sem, i64_wrap_id, Int.reduceAdd, Int.reduceSub, Int.reduceNeg, Int.reduceMul, Nat.reduceSub, Nat.reduceEqDiff, Nat.reduceAdd, Nat.reduceMul, Nat.reduceLeDiff, ↓reduceIte, reduceCtorEq, Int.reduceToNat, Int.reduceLT, Int.reduceLE, Int.reduceEq, hs]
      simp [RowKit.intOf]
      omega
  subst hjn
  have hr : ∀ y ∈ l, RightP y := fun y hy => by
    obtain ⟨k, g1, rfl⟩ := List.getElem_of_mem hy
    exact hc k g1 g1
  simp only [guard_undef, List.contains_cons, List.contains_nil, Nat.reduceBEq, Int.cast_ofNat_Int, and_self, k_pend_g, pendV, go_sem, i64_wrap_id, Int.reduceAdd, Int.reduceSub, Int.reduceNeg, Int.reduceMul, Nat.reduceSub, Nat.reduceEqDiff, Nat.reduceAdd, Nat.reduceMul, Nat.reduceLeDiff, ↓reduceIte, reduceCtorEq, Int.reduceToNat, Int.reduceLT, Int.reduceLE, Int.reduceEq, hs, Int.lt_irrefl]
  refine hE _ _ _ (by simp) ?_
  simp only [guard_undef, List.contains_cons, List.contains_nil, Nat.reduceBEq, Int.cast_ofNat_Int, and_self, k_pend_g, pendV, go_sem, i64_wrap_id, Int.reduceAdd, Int.reduceSub, Int.reduceNeg, Int.reduceMul, Nat.reduceSub, Nat.reduceEqDiff, Nat.reduceAdd, Nat.reduceMul, Nat.reduceLeDiff, ↓reduceIte, reduceCtorEq, Int.reduceToNat, Int.reduceLT, Int.reduceLE, Int.reduceEq, hs]
  refine cK_of (bytes47 (.slice a l.length e) l S1 hI0 (by omega) hr) ?_
  rintro r2 S2 hS2 hL2 hB
  obtain ⟨b1, b2⟩ := itemsBytes_length l
  have hbyt := itemsBytes_byt l hr
  have hcut := decOf_cut l (by omega) hr hbyt
  have hmore := decOf_more l (by omega) hr [b]
  have hcount := decOf_count l hr at_.toNat (by omega)
  obtain ⟨W, hW⟩ : ∃ W, W = itemsBytes l := ⟨_, rfl⟩
  rw [← hW] at hB b1 b2 hbyt hcut hmore hcount
  obtain ⟨d, rfl, hbd, _⟩ := hB.own.ne (by omega)
  obtain ⟨k, hk⟩ : ∃ k : Nat, at_.tmod (W.length : Int) = (k : Int) := ⟨(at_.tmod (W.length : Int)).toNat, by
    have := Int.tmod_nonneg (W.length : Int) h0
    omega⟩
  have hkl : k < W.length := by
    have := Int.tmod_lt_of_pos at_ (b := (W.length : Int)) (by omega)
    omega
  have hw : IntKind.i64.wrap at_ = at_ := wrap64_id (by omega) (by omega)
  have hne : ¬ ((W.length : Int) = 0) := by omega
  have hk0 : (0 : Int) ≤ k := by omega
  have hkl' : k ≤ W.length := by omega
  simp only [guard_undef, List.contains_cons, List.contains_nil, Nat.reduceBEq, Int.cast_ofNat_Int, and_self, k_pend_g, pendV, go_sem, i64_wrap_id, Int.reduceAdd, Int.reduceSub, Int.reduceNeg, Int.reduceMul, Nat.reduceSub, Nat.reduceEqDiff, Nat.reduceAdd, Nat.reduceMul, Nat.reduceLeDiff, ↓reduceIte, reduceCtorEq, Int.reduceToNat, Int.reduceLT, Int.reduceLE, Int.reduceEq, hs, hw, hne, hk, hk0, Int.toNat_natCast, hkl', Nat.zero_le, Nat.sub_zero, Nat.zero_mul]
  have hsl : Bs S2 (.slice (some ⟨d, 0, none⟩) k 1) (W.take k) := by
    refine .inr ⟨d, 0, 1, by simp; omega, .inr rfl, ?_⟩
    rw [cellsOf_of_blk hbd, if_pos (by simp [bytesV]; omega)]
    simp [bytesV, List.map_take]
  refine cK_of (decode46 _ _ S2 hsl (fun c hc => hbyt c (List.mem_of_mem_take hc)) (by simp; omega)) ?_
  rintro r3 S3 hS3 hL3 ⟨hK3, hd⟩
  rw [hcut k hkl] at hd
  rcases hd with ⟨l', v, hd, _⟩ | ⟨_, rfl⟩
  · cases hd
  have hO3 := Own.keeps hL2 hB.own hK3 fun _ _ => trivial
  have hE3 : OwnBs (S3.new ⟨false, []⟩) (.slice (some ⟨S3.next, 0, none⟩) 0 1) [] := .inr ⟨S3.next, rfl, by simp [St.blk_new, bytesV], rfl⟩
  have hkn := Keeps.of_new S3 ⟨false, []⟩ fun _ => True
  simp only [guard_undef, List.contains_cons, List.contains_nil, Nat.reduceBEq, Int.cast_ofNat_Int, and_self, k_pend_g, pendV, go_sem, i64_wrap_id, Int.reduceAdd, Int.reduceSub, Int.reduceNeg, Int.reduceMul, Nat.reduceSub, Nat.reduceEqDiff, Nat.reduceAdd, Nat.reduceMul, Nat.reduceLeDiff, ↓reduceIte, reduceCtorEq, Int.reduceToNat, Int.reduceLT, Int.reduceLE, Int.reduceEq, hs]
  refine hK_of (append_live (hL3.new _) (append_bs hE3 (Sl.keeps hL3 hO3.sl hkn fun _ _ => trivial) (by simp; omega))) ?_
  rintro v4 S4 ⟨hL4, hO4, hK4, hF4⟩
  rw [List.nil_append] at hO4
  have hn34 : S3.next < S4.next := by have := hK4.1; simp [St.next_new] at this; omega
  have hK34 : KeepsAll S3 S4 := hkn.trans hK4 fun i hi _ e => by simp [Value.blkOf] at e; omega
  have hO4' := Own.keeps hL3 hO3 hK34 fun _ _ => trivial
  have hv4 : ∀ i, Value.blkOf v4 = some i → S3.next ≤ i := fun i hi => by
    rcases hF4 i hi with hh | hh
    · simp [Value.blkOf] at hh; omega
    · simp [St.next_new] at hh; omega
  simp only [guard_undef, List.contains_cons, List.contains_nil, Nat.reduceBEq, Int.cast_ofNat_Int, and_self, k_pend_g, pendV, go_sem, i64_wrap_id, Int.reduceAdd, Int.reduceSub, Int.reduceNeg, Int.reduceMul, Nat.reduceSub, Nat.reduceEqDiff, Nat.reduceAdd, Nat.reduceMul, Nat.reduceLeDiff, ↓reduceIte, reduceCtorEq, Int.reduceToNat, Int.reduceLT, Int.reduceLE, Int.reduceEq, hs]
  have hkn4 := Keeps.of_new S4 ⟨false, [.int .u8 b]⟩ fun _ => True
  have hB5 : Bs (S4.new ⟨false, [.int .u8 b]⟩) (.slice (some ⟨S4.next, 0, none⟩) 1 1) [b] := .inr ⟨S4.next, 0, 1, rfl, .inr rfl, by rw [cellsOf_new, if_pos rfl, if_pos (by simp)]; simp [bytesV]⟩
  refine hK_of (append_live (hL4.new _) (append_bs (Own.keeps hL4 hO4 hkn4 fun _ _ => trivial) hB5 (by simp; omega))) ?_
  rintro v5 S5 ⟨hL5, hO5, hK5, hF5⟩
  have hK35 : KeepsAll S3 S5 := (hK34.trans hkn4 fun _ _ _ => trivial).trans hK5 fun i hi _ e => by have := hv4 i e; omega
  simp only [guard_undef, List.contains_cons, List.contains_nil, Nat.reduceBEq, Int.cast_ofNat_Int, and_self, k_pend_g, pendV, go_sem, i64_wrap_id, Int.reduceAdd, Int.reduceSub, Int.reduceNeg, Int.reduceMul, Nat.reduceSub, Nat.reduceEqDiff, Nat.reduceAdd, Nat.reduceMul, Nat.reduceLeDiff, ↓reduceIte, reduceCtorEq, Int.reduceToNat, Int.reduceLT, Int.reduceLE, Int.reduceEq, hs]
  refine cK_of (decode46 _ _ S5 hO5.sl (fun c hc => by
    rcases List.mem_append.1 hc with hc | hc
    · exact hbyt c hc
    · simp only [List.mem_cons, List.not_mem_nil, or_false] at hc; subst hc; exact ⟨g0, g1⟩) (by simp; omega)) ?_
  rintro r6 S6 hS6 hL6 ⟨hK6, hd⟩
  rw [hmore] at hd
  rcases hd with ⟨l', v, hd, _⟩ | ⟨_, rfl⟩
  · simp at hd
  have hO6 := Own.keeps hL5 (Own.keeps hL3 hO3 hK35 fun _ _ => trivial) hK6 fun _ _ => trivial
  have e1 : IntKind.u64.wrap (l.length : Int) = l.length := wrapU64 (by omega) (by omega)
  have e2 : IntKind.u64.wrap ((l.length : Int) + 1) = l.length + 1 := wrapU64 (by omega) (by omega)
  have e3 : IntKind.u64.wrap at_ = at_ := wrapU64 (by omega) (by omega)
  have e4 : IntKind.u64.wrap ((l.length : Int) + 1 + at_) = ((l.length + at_.toNat + 1 : Nat) : Int) := by rw [wrapU64 (by omega) (by omega)]; omega
  have hwl : (4 : Nat) ≤ W.length := by omega
  simp only [guard_undef, List.contains_cons, List.contains_nil, Nat.reduceBEq, Int.cast_ofNat_Int, and_self, k_pend_g, pendV, go_sem, i64_wrap_id, Int.reduceAdd, Int.reduceSub, Int.reduceNeg, Int.reduceMul, Nat.reduceSub, Nat.reduceEqDiff, Nat.reduceAdd, Nat.reduceMul, Nat.reduceLeDiff, ↓reduceIte, reduceCtorEq, Int.reduceToNat, Int.reduceLT, Int.reduceLE, Int.reduceEq, hs, e1, e2, e3, e4, hwl, Nat.le_refl, or_true]
  refine cK_of (number4 ((l.length + at_.toNat + 1 : Nat) : Int) S6 (by omega) (by omega)) ?_
  rintro r7 S7 hS7 hL7 ⟨hO7, hK7, hF7⟩
  have hO7' := Own.keeps hL6 hO6 hK7 fun _ _ => trivial
  obtain ⟨d', hd', hbd7, _⟩ := hO7'.ne (by omega)
  cases hd'
  have hsl7 : Bs S7 (.slice (some ⟨d, 4, none⟩) (W.length - 4) 1) (W.drop 4) := by
    refine .inr ⟨d, 4, 1, by simp, .inr rfl, ?_⟩
    rw [cellsOf_of_blk hbd7, if_pos (by simp [bytesV]; omega)]
    simp [bytesV, List.map_drop]
    rw [List.take_of_length_le (by simp)]
  have hlb : (be ((l.length + at_.toNat + 1 : Nat) : Int) 4).length = 4 := be_length _ _
  simp only [guard_undef, List.contains_cons, List.contains_nil, Nat.reduceBEq, Int.cast_ofNat_Int, and_self, k_pend_g, pendV, go_sem, i64_wrap_id, Int.reduceAdd, Int.reduceSub, Int.reduceNeg, Int.reduceMul, Nat.reduceSub, Nat.reduceEqDiff, Nat.reduceAdd, Nat.reduceMul, Nat.reduceLeDiff, ↓reduceIte, reduceCtorEq, Int.reduceToNat, Int.reduceLT, Int.reduceLE, Int.reduceEq, hs]
  refine hK_of (append_live hL7 (append_bs hO7 hsl7 (by rw [hlb, List.length_drop]; omega))) ?_
  rintro v8 S8 ⟨hL8, hO8, hK8, hF8⟩
  simp only [guard_undef, List.contains_cons, List.contains_nil, Nat.reduceBEq, Int.cast_ofNat_Int, and_self, k_pend_g, pendV, go_sem, i64_wrap_id, Int.reduceAdd, Int.reduceSub, Int.reduceNeg, Int.reduceMul, Nat.reduceSub, Nat.reduceEqDiff, Nat.reduceAdd, Nat.reduceMul, Nat.reduceLeDiff, ↓reduceIte, reduceCtorEq, Int.reduceToNat, Int.reduceLT, Int.reduceLE, Int.reduceEq, hs]
  refine cK_of (decode46 _ _ S8 hO8.sl (fun c hc => by
    rcases List.mem_append.1 hc with hc | hc
    · exact be_byt _ _ c hc
    · exact hbyt c (List.mem_of_mem_drop hc)) (by rw [List.length_append, hlb, List.length_drop]; omega)) ?_
  rintro r9 S9 hS9 hL9 ⟨hK9, hd⟩
  rw [hcount] at hd
  rcases hd with ⟨l', v, hd, _⟩ | ⟨_, rfl⟩
  · cases hd
  simp only [guard_undef, List.contains_cons, List.contains_nil, Nat.reduceBEq, Int.cast_ofNat_Int, and_self, k_pend_g, pendV, go_sem, i64_wrap_id, Int.reduceAdd, Int.reduceSub, Int.reduceNeg, Int.reduceMul, Nat.reduceSub, Nat.reduceEqDiff, Nat.reduceAdd, Nat.reduceMul, Nat.reduceLeDiff, ↓reduceIte, reduceCtorEq, Int.reduceToNat, Int.reduceLT, Int.reduceLE, Int.reduceEq, hs]
  refine hQ _ _ _ ?_; (first | rw [k_body_ret] | rw [k_body_normal]); simp only [resVals, resVal, ev, Env.get_put, ↓reduceIte, Nat.reduceEqDiff, Option.bind_some, Option.map_some, reduceCtorEq, ldv_true, ldv_false, lloadV_agg, partL, List.toList_toArray, cellsOf_set, cellsOf_new, rd_set, rd_new, List.length_cons, List.length_nil, Nat.reduceAdd, Nat.reduceLeDiff, Nat.le_refl, List.take_succ_cons, List.take_zero, List.drop_zero, Nat.add_eq_left, Nat.left_eq_add, List.getElem?_cons_zero, List.getElem?_cons_succ, aN12, hs]; rw [retQ_some]; simp only [oneOr]

theorem itm_ok (cs : List Value) (h : FlatOk itmSh cs) : ∃ x : Itm, cs = x.cells ∧ x.Ok := by
  have hl := h.length
  simp only [itmSh, List.length_replicate] at hl
  match cs, hl with
  | [v0, v1, v2, v3, v4, v5, v6, v7, v8, v9, v10, v11, v12, v13, v14], _ =>
    simp only [itmSh, List.replicate, FlatOk, CelOk] at h
    obtain ⟨⟨n0, rfl, h0⟩, ⟨n1, rfl, h1⟩, ⟨n2, rfl, h2⟩, ⟨n3, rfl, h3⟩, ⟨n4, rfl, h4⟩, ⟨n5, rfl, h5⟩, ⟨n6, rfl, h6⟩, ⟨n7, rfl, h7⟩, ⟨n8, rfl, h8⟩, ⟨n9, rfl, h9⟩, ⟨n10, rfl, h10⟩, ⟨n11, rfl, h11⟩, ⟨n12, rfl, h12⟩, ⟨n13, rfl, h13⟩, ⟨n14, rfl, h14⟩, _⟩ := h
    exact ⟨⟨n0, n1, ⟨n2, n3, n4, n5⟩, ⟨n6, n7, n8, n9⟩, ⟨n10, n11, n12, n13⟩, n14⟩, rfl, wf64 h0, wf64 h1, ⟨wf64 h2, wf64 h3, wf64 h4, wf64 h5⟩, ⟨wf64 h6, wf64 h7, wf64 h8, wf64 h9⟩, ⟨wf64 h10, wf64 h11, wf64 h12, wf64 h13⟩, wf64 h14⟩
theorem items_ok : ∀ (n : Nat) (cs : List Value), RowsOk itmSh n cs → ∃ l : List Itm, l.length = n ∧ cs = itmCells l ∧ ∀ x ∈ l, x.Ok := by
  intro n
  induction n with
  | zero =>
    intro cs h
    have : cs = [] := List.eq_nil_of_length_eq_zero (by simpa using h.1)
    exact ⟨[], rfl, this, by simp⟩
  | succ n ih =>
    intro cs h
    have h0 := h.2 0 (by omega)
    have hl := h.1
    have hsl : itmSh.length = 15 := rfl
    rw [hsl] at h0 hl
    rw [Nat.zero_mul, List.drop_zero] at h0
    obtain ⟨x, hx, hox⟩ := itm_ok _ h0
    have hr : RowsOk itmSh n (cs.drop 15) := by
      refine ⟨by rw [hsl, List.length_drop]; omega, fun i hi => ?_⟩
      have := h.2 (i + 1) (by omega)
      rw [hsl] at this ⊢
      rw [List.drop_drop]
      rwa [show 15 + i * 15 = (i + 1) * 15 by omega]
    obtain ⟨l, h1, h2, h3⟩ := ih _ hr
    refine ⟨x :: l, by simp [h1], ?_, fun y hy => ?_⟩
    · rw [← List.take_append_drop 15 cs, hx, h2]
      simp [itmCells]
    · rcases List.mem_cons.1 hy with rfl | hy
      · exact hox
      · exact h3 y hy
theorem Is.of_rows {S : St} {x : Value} {n : Nat} {cs : List Value} (hx : Sl S 15 x n cs) (hr : RowsOk itmSh n cs) : ∃ l : List Itm, Is S x l ∧ ∀ z ∈ l, z.Ok := by
  obtain ⟨l, h1, rfl, h3⟩ := items_ok n cs hr
  subst h1
  exact ⟨l, hx, h3⟩
theorem wfU8 {n : Int} (h : (Lit.int .u8 n).wf = true) : 0 ≤ n ∧ n < 256 := by
  simp [Lit.wf, IntKind.min, IntKind.max, IntKind.signed, IntKind.bits] at h
  omega
theorem plateEncodes' (x : Value) (n : Nat) (cs : List Value) (S : St) (hx : Sl S 15 x n cs) (hr : RowsOk itmSh n cs) : ACalls Try.prog 10 [x] S fun r S' => r = .bool true := by
  obtain ⟨l, hX, hl⟩ := Is.of_rows hx hr
  exact plateEncodes x l S hX hl
theorem plateDecodes' (x : Value) (n : Nat) (cs : List Value) (S : St) (hx : Sl S 1 x n cs) (hr : RowsOk byteSh n cs) : ACalls Try.prog 11 [x] S fun r S' => r = .bool true := by
  obtain ⟨xs, rfl, hX, hxb⟩ := Bs.of_rows hx hr
  exact plateDecodes x xs S hX hxb
theorem plateCuts' (x : Value) (n : Nat) (cs : List Value) (a b : Int) (S : St) (hx : Sl S 15 x n cs) (hr : RowsOk itmSh n cs) (wa : (Lit.int .u16 a).wf = true) (wb : (Lit.int .u8 b).wf = true) : ACalls Try.prog 12 [x, .int .u16 a, .int .u8 b] S fun r S' => r = .bool true := by
  obtain ⟨l, hX, hl⟩ := Is.of_rows hx hr
  exact plateCuts x l a b S hX hl (wfU16 wa).1 (wfU16 wa).2 (wfU8 wb).1 (wfU8 wb).2
end Go.Proofs.Ytbgnaeagdneikaa
