/- The compiled code of functions of the seat, printed by a program of mine (gen.py), checked by the kernel. -/
import Derived.Test.YtbgnaeagdneikaaTT1
import Derived.Test.YtbgnaeagdneikaaSeatKKT
-- pp: new
-- pp: short
namespace Go.Proofs.Ytbgnaeagdneikaa
open Go Go.Proofs.Ytbgnaeagdneikaa.Abs
set_option linter.unusedSimpArgs false
set_option linter.unusedVariables false

theorem tchk_cases (l : List Nd) : tchk l = 0 ∨ tchk l = 2 ∨ tchk l = 3 := by
  unfold tchk
  split
  · exact .inr (.inl rfl)
  · split
    · exact .inr (.inr rfl)
    · exact .inl rfl

set_option maxHeartbeats 2000000 in
theorem treeDecodes (x : Value) (xs : List Int) (S : St) (h : Bs S x xs) (hx : Byt xs) : ACalls Try.prog 16 [x] S fun r S' => r = .bool true := by
  refine ACalls.run hmix Try.func16 cN16 kN16 rfl fun hL Q hQ => ?_
  simp only [go_sem, seval, aN16]
  refine cK_of (awake50 S) ?_
  rintro r0 S0 hS0 hL0 ⟨rfl, hK0⟩
  obtain ⟨a, e, rfl⟩ := Sl.slice h
  by_cases hl : (20000 : Int) < xs.length
  · simp only [go_sem, seval, hl]
    refine cK_of (awake50 S0) ?_
    rintro r2 S2 hS2 hL2 ⟨rfl, hK2⟩
    simp only [go_sem, seval]
    refine hQ _ _ _ ?_; (first | rw [k_body_ret] | rw [k_body_normal]); simp only [resVals, resVal, ev, Env.get_put, ↓reduceIte, Nat.reduceEqDiff, Option.bind_some, Option.map_some, reduceCtorEq, ldv_true, ldv_false, lloadV_agg, partL, List.toList_toArray, cellsOf_set, cellsOf_new, rd_set, rd_new, List.length_cons, List.length_nil, Nat.reduceAdd, Nat.reduceLeDiff, Nat.le_refl, List.take_succ_cons, List.take_zero, List.drop_zero, Nat.add_eq_left, Nat.left_eq_add, List.getElem?_cons_zero, List.getElem?_cons_succ, aN16]; rw [retQ_some]; simp only [oneOr]
  have h0 : Bs S0 (.slice a xs.length e) xs := Sl.keeps hL h hK0 fun _ _ => trivial
  simp only [go_sem, seval, hl]
  refine cK_of (decode57 _ xs S0 h0 hx (by omega)) ?_
  rintro r1 S1 hS1 hL1 ⟨hK1, v, rfl, hv⟩
  have h1 : Bs S1 (.slice a xs.length e) xs := Sl.keeps hL0 h0 hK1 fun _ _ => trivial
  simp only [go_sem, seval]
  refine cK_of (from58 _ xs S1 h1 hx (by omega)) ?_
  rintro r2 S2 hS2 hL2 ⟨hK2, w, b, rfl, hw⟩
  rcases hw with ⟨rfl, l, hd, hO2, hF2, hok, hll⟩ | ⟨rfl, hd⟩
  rotate_left
  · have e2 : tdec xs = 2 := by unfold tdec; rw [hd]
    rcases hv with ⟨e0, _⟩ | ⟨_, rfl⟩
    · omega
    rw [e2]
    simp only [go_sem, seval]
    refine hQ _ _ _ ?_; (first | rw [k_body_ret] | rw [k_body_normal]); simp only [resVals, resVal, ev, Env.get_put, ↓reduceIte, Nat.reduceEqDiff, Option.bind_some, Option.map_some, reduceCtorEq, ldv_true, ldv_false, lloadV_agg, partL, List.toList_toArray, cellsOf_set, cellsOf_new, rd_set, rd_new, List.length_cons, List.length_nil, Nat.reduceAdd, Nat.reduceLeDiff, Nat.le_refl, List.take_succ_cons, List.take_zero, List.drop_zero, Nat.add_eq_left, Nat.left_eq_add, List.getElem?_cons_zero, List.getElem?_cons_succ, aN16]; rw [retQ_some]; simp only [oneOr]
  have e2 : tdec xs = tchk l := by unfold tdec; rw [hd]
  simp only [go_sem, seval]
  refine cK_of (check54 w l S2 hO2.sl hok (by omega)) ?_
  rintro r3 S3 hS3 hL3 ⟨hK3, rfl⟩
  rw [← e2]
  rcases hv with ⟨e0, l', hd', hO1, hF1, hok', hll'⟩ | ⟨e0, rfl⟩
  · rw [hd] at hd'
    cases hd'
    rw [e0]
    have hO3 := Own.keeps hL2 hO2 hK3 fun _ _ => trivial
    have hO3' := Own.keeps hL2 (Own.keeps hL1 hO1 hK2 fun _ _ => trivial) hK3 fun _ _ => trivial
    simp only [go_sem, seval]
    refine cK_of (same59 v w l S3 hO3'.sl hO3.sl hok (by omega)) ?_
    rintro r4 S4 hS4 hL4 ⟨rfl, rfl⟩
    simp only [go_sem, seval]
    refine hQ _ _ _ ?_; (first | rw [k_body_ret] | rw [k_body_normal]); simp only [resVals, resVal, ev, Env.get_put, ↓reduceIte, Nat.reduceEqDiff, Option.bind_some, Option.map_some, reduceCtorEq, ldv_true, ldv_false, lloadV_agg, partL, List.toList_toArray, cellsOf_set, cellsOf_new, rd_set, rd_new, List.length_cons, List.length_nil, Nat.reduceAdd, Nat.reduceLeDiff, Nat.le_refl, List.take_succ_cons, List.take_zero, List.drop_zero, Nat.add_eq_left, Nat.left_eq_add, List.getElem?_cons_zero, List.getElem?_cons_succ, aN16]; rw [retQ_some]; simp only [oneOr]
  · have g : (tdec xs != 0) = true := by simpa using e0
    simp only [go_sem, seval, g]
    refine hQ _ _ _ ?_; (first | rw [k_body_ret] | rw [k_body_normal]); simp only [resVals, resVal, ev, Env.get_put, ↓reduceIte, Nat.reduceEqDiff, Option.bind_some, Option.map_some, reduceCtorEq, ldv_true, ldv_false, lloadV_agg, partL, List.toList_toArray, cellsOf_set, cellsOf_new, rd_set, rd_new, List.length_cons, List.length_nil, Nat.reduceAdd, Nat.reduceLeDiff, Nat.le_refl, List.take_succ_cons, List.take_zero, List.drop_zero, Nat.add_eq_left, Nat.left_eq_add, List.getElem?_cons_zero, List.getElem?_cons_succ, aN16]; rw [retQ_some]; simp only [oneOr]

theorem treeDecodes' (x : Value) (n : Nat) (cs : List Value) (S : St) (hx : Sl S 1 x n cs) (hr : RowsOk byteSh n cs) : ACalls Try.prog 16 [x] S fun r S' => r = .bool true := by
  obtain ⟨xs, rfl, hX, hxb⟩ := Bs.of_rows hx hr
  exact treeDecodes x xs S hX hxb
end Go.Proofs.Ytbgnaeagdneikaa
-- pp: new
-- pp: short
namespace Go.Proofs.Ytbgnaeagdneikaa
open Go Go.Proofs.Ytbgnaeagdneikaa.Abs
set_option linter.unusedSimpArgs false
set_option linter.unusedVariables false

theorem numFour (n : Int) (S : St) (h0 : 0 ≤ n) (h1 : n < 18446744073709551616) : ACalls Try.prog 49 [.int .u64 n, .int .i64 4] S fun r S' => OwnBs S' r (be n 4) ∧ KeepsAll S S' ∧ Fresh S r := number 4 n S h0 h1 (by omega)

theorem nodeB_length {l : List Nd} (hok : ∀ x ∈ l, x.Ok) (k : Nat) : (nodeB l k).length ≤ 304 := by
  unfold nodeB
  rw [List.length_append]
  have h1 : (if 0 < k then be (stp l k : Int) 4 else []).length ≤ 4 := by split <;> simp [be_length]
  have h2 : (match l[k]? with | some x => styBytes x.s | none => []).length ≤ 300 := by
    match h : l[k]? with
    | none => simp
    | some x => exact (styBytes_length x.s (hok x (List.mem_of_getElem? h)).s).2
  exact Nat.le_trans (Nat.add_le_add h1 h2) (by omega)
theorem restB_length {l : List Nd} (hok : ∀ x ∈ l, x.Ok) : ∀ j, (restB l 0 j).length ≤ j * 304
  | 0 => by simp [restB]
  | j + 1 => by
    have h1 := restB_length hok j
    have h2 := nodeB_length hok j
    rw [restB_snoc, List.length_append]
    omega
theorem treeB_length {l : List Nd} (hok : ∀ x ∈ l, x.Ok) : 4 ≤ (treeB l).length ∧ (treeB l).length ≤ 4 + l.length * 304 := by
  have := restB_length hok l.length
  unfold treeB
  rw [List.length_append, be_length]
  omega
theorem nodeB_byt {l : List Nd} (hf : TForm l) (hok : ∀ x ∈ l, x.Ok) (k : Nat) : Byt (nodeB l k) := by
  unfold nodeB
  intro c hc
  rcases List.mem_append.1 hc with hc | hc
  · split at hc
    · exact be_byt _ _ c hc
    · simp at hc
  · match h : l[k]? with
    | none => rw [h] at hc; simp at hc
    | some x =>
      rw [h] at hc
      have hm := List.mem_of_getElem? h
      exact styBytes_byt (hok x hm).s (hf.2 x hm) c hc
theorem treeB_byt {l : List Nd} (hf : TForm l) (hok : ∀ x ∈ l, x.Ok) : Byt (treeB l) := by
  intro c hc
  rcases List.mem_append.1 hc with hc | hc
  · exact be_byt _ _ c hc
  · unfold restB at hc
    obtain ⟨k, _, hk⟩ := List.mem_flatMap.1 hc
    exact nodeB_byt hf hok k c hk

set_option maxHeartbeats 2000000 in
theorem bytes60 (x : Value) (l : List Nd) (S : St) (h : Ns S x l) (hok : ∀ x ∈ l, x.Ok) (hn : l.length ≤ 1000000) (hf : TForm l) : ACalls Try.prog 60 [x] S fun r S' => Buf S S' r (treeB l) := by
  refine ACalls.run hmix Try.func60 cN60 kN60 rfl fun hL Q hQ => ?_
  obtain ⟨a, e, rfl⟩ := Sl.slice h
  have hw0 : IntKind.u64.wrap (l.length : Int) = l.length := by rw [wrap64u]; omega
  simp only [go_sem, seval, aN60, hw0]
  refine cK_of (numFour l.length S (by omega) (by omega)) ?_
  rintro r1 S1 hS1 hL1 ⟨hO1, hK1, hF1⟩
  have B1 : Buf S S1 r1 (be (l.length : Int) 4) := ⟨hO1, hF1, hK1⟩
  simp only [go_sem, seval]
  refine lK_of (fun t' S2 => ∃ (j : Nat) (v : Value), j ≤ l.length ∧ Slots t' [(0, .slice a l.length e), (3, v), (11, .int .i64 l.length), (12, .int .i64 j)] ∧ Live S2 ∧ Buf S S2 v (be (l.length : Int) 4 ++ restB l 0 j))
    (fun t' _ => (l.length - RowKit.intOf (t' 12)).toNat) ?_ ?_
  · refine ⟨0, r1, by omega, ?_, hL1, by simpa [restB] using B1⟩
    simp only [go_sem, seval, slots_cons, slots_nil, Int.natCast_add, Int.natCast_succ, Int.cast_ofNat_Int]
  rintro t1 S2 Q1 ⟨j, v, hj, h1, hL2, B2⟩ _ hN hE
  simp only [slots_cons, slots_nil] at h1
  have hrl := restB_length hok j
  have hfl2 : (be (l.length : Int) 4 ++ restB l 0 j).length ≤ 304000004 := by
    rw [List.length_append, be_length]
    omega
  by_cases hjn : j = l.length
  · subst hjn
    simp only [go_sem, seval, h1, Int.lt_irrefl]
    refine hE _ _ _ (by simp) ?_
    simp only [go_sem, seval, h1]
    refine hQ _ _ _ ?_; (first | rw [k_body_ret] | rw [k_body_normal]); simp only [resVals, resVal, ev, Env.get_put, ↓reduceIte, Nat.reduceEqDiff, Option.bind_some, Option.map_some, reduceCtorEq, ldv_true, ldv_false, lloadV_agg, partL, List.toList_toArray, cellsOf_set, cellsOf_new, rd_set, rd_new, List.length_cons, List.length_nil, Nat.reduceAdd, Nat.reduceLeDiff, Nat.le_refl, List.take_succ_cons, List.take_zero, List.drop_zero, Nat.add_eq_left, Nat.left_eq_add, List.getElem?_cons_zero, List.getElem?_cons_succ, aN60, h1]; rw [retQ_some]; simp only [oneOr]
    exact B2
  have hjl : j < l.length := by omega
  have hlt : (j : Int) < l.length := by omega
  have hj0 : (0 : Int) ≤ j := by omega
  have hj1 : IntKind.i64.wrap ((j : Int) + 1) = j + 1 := wrap64_id (by omega) (by omega)
  have hyo := hok _ (List.getElem_mem hjl)
  have hyf := hf.2 _ (List.getElem_mem hjl)
  obtain ⟨y0, y1⟩ := styBytes_length l[j].s hyo.s
  have htr := hf.1.2.tr
  have hnb : nodeB l j = (if 0 < j then be (stp l j) 4 else []) ++ styBytes l[j].s := by unfold nodeB; rw [List.getElem?_eq_getElem hjl]
  obtain ⟨X, hX⟩ : ∃ X, X = be (l.length : Int) 4 ++ restB l 0 j := ⟨_, rfl⟩
  rw [← hX] at B2 hfl2
  have hXs : be (l.length : Int) 4 ++ restB l 0 (j + 1) = (X ++ (if 0 < j then be (stp l j) 4 else [])) ++ styBytes l[j].s := by rw [restB_snoc, hnb, hX]; simp only [List.append_assoc]
  simp only [go_sem, seval, h1, hlt]
  refine iK_cut (fun t' S' => ∃ v', Slots t' [(0, .slice a l.length e), (3, v'), (4, .int .i64 j), (11, .int .i64 l.length), (12, .int .i64 j)] ∧ Live S' ∧ Buf S S' v' (X ++ (if 0 < j then be (stp l j) 4 else []))) (fun Q6 hN6 hE6 => iK_split (fun hc => ?_) (fun hc => ?_)) ?_
  · have hj0' : 0 < j := by simpa using hc
    obtain ⟨s1, s2, s3⟩ := stp_le hf.1 hjl hj0'
    have hk1 : ((j - 1 : Nat) : Int) = (j : Int) - 1 := by omega
    have hS2 : Ns S2 (.slice a l.length e) l := Sl.keeps hL h B2.keep fun _ _ => trivial
    have hw : IntKind.i64.wrap ((j : Int) - 1) = j - 1 := wrap64_id (by omega) (by omega)
    simp only [go_sem, seval, h1, hw]
    refine cK_of (deep61 _ l ((j : Int) - 1) l.length S2 hS2 hok (Nat.le_refl _) hn htr (by omega) (by omega)) ?_
    rintro r3 S3 hS3 hL3 ⟨rfl, rfl⟩
    simp only [go_sem, seval, h1, hw]
    refine cK_of (deep61 _ l (j : Int) l.length S3 hS2 hok (Nat.le_refl _) hn htr (by omega) (by omega)) ?_
    rintro r4 S4 hS4 hL4 ⟨rfl, rfl⟩
    have d1 : (chain (par l) (j : Int)).length = dep l j := rfl
    have d2 : (chain (par l) ((j : Int) - 1)).length = dep l (j - 1) := by unfold dep; rw [hk1]
    have d3 := chain_len htr l.length ((j : Int) - 1) (by omega) (by omega) (by omega)
    rw [d2] at d3
    rw [d1, d2]
    have w1 : IntKind.i64.wrap ((dep l (j - 1) : Int) - dep l j) = (dep l (j - 1) : Int) - dep l j := wrap64_id (by omega) (by omega)
    have w2 : IntKind.i64.wrap ((dep l (j - 1) : Int) - dep l j + 1) = stp l j := by rw [wrap64_id (by omega) (by omega)]; omega
    have w3 : IntKind.u64.wrap (stp l j : Int) = stp l j := by rw [wrap64u]; omega
    simp only [go_sem, seval, h1, hw, w1, w2, w3]
    refine cK_of (numFour (stp l j) S4 (by omega) (by omega)) ?_
    rintro r5 S5 hS5 hL5 ⟨hO5, hK5, hF5⟩
    simp only [go_sem, seval, h1]
    refine hK_of ((B2.later hL4 hK5).app hL5 hL hO5.sl (by rw [be_length]; omega)) ?_
    rintro v6 S6 ⟨hL6, B6, hn6, hk6⟩
    simp only [go_sem, seval, h1]
    refine hN6 _ _ ⟨v6, ?_, hL6, by rw [if_pos hj0']; exact B6⟩
    simp only [go_sem, seval, slots_cons, slots_nil, Int.natCast_add, Int.natCast_succ, Int.cast_ofNat_Int, h1]
  · have hj0' : ¬ 0 < j := by simpa using hc
    simp only [go_sem, seval, h1]
    refine hN6 _ _ ⟨v, ?_, hL2, by rw [if_neg hj0', List.append_nil]; exact B2⟩
    simp only [go_sem, seval, slots_cons, slots_nil, Int.natCast_add, Int.natCast_succ, Int.cast_ofNat_Int, h1]
  rintro t6 S6 ⟨v6, h6, hL6, B6⟩
  simp only [slots_cons, slots_nil] at h6
  have hS6 : Ns S6 (.slice a l.length e) l := Sl.keeps hL h B6.keep fun _ _ => trivial
  obtain ⟨d, o, e', hv, he, hcc⟩ := hS6.ne (by omega)
  cases hv
  have hst := style_at hok hcc j hjl
  have hxl : (X ++ (if 0 < j then be (stp l j : Int) 4 else [])).length ≤ 304000008 := by
    have h1 : (if 0 < j then be (stp l j : Int) 4 else []).length ≤ 4 := by split <;> simp [be_length]
    rw [List.length_append]; omega
  simp only [go_sem, seval, h6, hlt, hj0, Int.toNat_natCast, hst]
  refine cK_of (refBytes l[j].s hyo.s hyf S6) ?_
  rintro r7 S7 hS7 hL7 hB7
  simp only [go_sem, seval, h6]
  refine hK_of ((B6.later hL6 hB7.keep).app hL7 hL hB7.own.sl (by omega)) ?_
  rintro v8 S8 ⟨hL8, B8, hn8, hk8⟩
  simp only [go_sem, seval, h6, hj1]
  refine hN _ _ ⟨j + 1, v8, by omega, ?_, hL8, ?_⟩ ?_
  · simp only [go_sem, seval, slots_cons, slots_nil, Int.natCast_add, Int.natCast_succ, Int.cast_ofNat_Int, h6]
  · rw [hXs]
    exact B8
  · simp only [go_sem, seval, h6, h1]
    simp [RowKit.intOf]
    omega
end Go.Proofs.Ytbgnaeagdneikaa
-- pp: new
-- pp: short
namespace Go.Proofs.Ytbgnaeagdneikaa
open Go Go.Proofs.Ytbgnaeagdneikaa.Abs
set_option linter.unusedSimpArgs false
set_option linter.unusedVariables false

theorem out_next {S0 S S' : St} {d d' : Value} (hK : KeepsAll S0 S) (hF : ∀ i, Value.blkOf d = some i → S0.next ≤ i) (s : OutStep S S0.next d S' d') : KeepsAll S0 S' ∧ ∀ i, Value.blkOf d' = some i → S0.next ≤ i :=
  ⟨hK.trans s.keep fun i hi _ => ⟨by omega, fun e => by have := hF i e; omega⟩, fun i hi => by
    rcases s.data i hi with hh | hh
    · exact hF i hh
    · have := hK.1; omega⟩

set_option maxHeartbeats 2000000 in
theorem encode62 (x : Value) (l : List Nd) (S : St) (h : Ns S x l) (hok : ∀ x ∈ l, x.Ok) (hn : l.length ≤ 1000000) : ACalls Try.prog 62 [x] S fun r S' => KeepsAll S S' ∧ (TForm l → ∃ v, r = .tuple #[v, .int .i64 0] ∧ OwnBs S' v (treeB l) ∧ Fresh S v) ∧ (¬ TForm l → r = .tuple #[.slice none 0 0, .int .i64 2]) := by
  refine ACalls.run hmix Try.func62 cN62 kN62 rfl fun hL Q hQ => ?_
  obtain ⟨a, e, rfl⟩ := Sl.slice h
  simp only [go_sem, seval, aN62]
  refine cK_of (formed51 _ l S h hok hn) ?_
  rintro r0 S0 hS0 hL0 ⟨⟨c, rfl, hc⟩, hK0⟩
  cases c
  · simp only [go_sem, seval]
    refine hQ _ _ _ ?_; (first | rw [k_body_ret] | rw [k_body_normal]); simp only [resVals, resVal, ev, Env.get_put, ↓reduceIte, Nat.reduceEqDiff, Option.bind_some, Option.map_some, reduceCtorEq, ldv_true, ldv_false, lloadV_agg, partL, List.toList_toArray, cellsOf_set, cellsOf_new, rd_set, rd_new, List.length_cons, List.length_nil, Nat.reduceAdd, Nat.reduceLeDiff, Nat.le_refl, List.take_succ_cons, List.take_zero, List.drop_zero, Nat.add_eq_left, Nat.left_eq_add, List.getElem?_cons_zero, List.getElem?_cons_succ, aN62]; rw [retQ_some]; simp only [oneOr]
    exact ⟨hK0, fun hf => (by have := hc.2 hf; cases this), fun _ => trivial⟩
  have hf := hc.1 rfl
  have h0 : Ns S0 (.slice a l.length e) l := Sl.keeps hL h hK0 fun _ _ => trivial
  have hw0 : IntKind.u32.wrap (l.length : Int) = l.length := by rw [wrap32u]; omega
  simp only [go_sem, seval, hw0]
  refine cK_of (outFour S0.next (.slice none 0 0) [] l.length _ ⟨by simp [St.blk_new], .inl ⟨rfl, rfl, rfl⟩, by simp [Value.blkOf]⟩ (by omega) (by omega) (by simp)) ?_
  rintro r1 S1 hS1 hL1 ⟨rfl, d1, hO1, s1⟩
  rw [List.nil_append] at hO1
  obtain ⟨hK1, hF1⟩ := out_next (S0 := S0) (Keeps.of_new S0 ⟨false, [.slice none 0 0]⟩ fun _ => True) (fun i hi => by simp [Value.blkOf] at hi) s1
  simp only [go_sem, seval, hw0]
  refine lK_of (fun t' S2 => ∃ (j : Nat) (d : Value), j ≤ l.length ∧ Slots t' [(0, .slice a l.length e), (4, ptr S0.next), (16, .slice a l.length e), (17, .int .i64 l.length), (18, .int .i64 j)] ∧ Live S2 ∧ KeepsAll S0 S2 ∧ (∀ i, Value.blkOf d = some i → S0.next ≤ i) ∧ IsOut S2 S0.next d (be (l.length : Int) 4 ++ restB l 0 j))
    (fun t' _ => (l.length - RowKit.intOf (t' 18)).toNat) ?_ ?_
  · refine ⟨0, d1, by omega, ?_, hL1, hK1, hF1, by simpa [restB] using hO1⟩
    simp only [go_sem, seval, slots_cons, slots_nil, Int.natCast_add, Int.natCast_succ, Int.cast_ofNat_Int]
  rintro t1 S2 Q1 ⟨j, d, hj, h1, hL2, hK2, hF2, hO2⟩ _ hN hE
  simp only [slots_cons, slots_nil] at h1
  have hrl := restB_length hok j
  have hfl2 : (be (l.length : Int) 4 ++ restB l 0 j).length ≤ 304000004 := by
    rw [List.length_append, be_length]
    omega
  by_cases hjn : j = l.length
  · subst hjn
    simp only [go_sem, seval, h1, Int.lt_irrefl]
    refine hE _ _ _ (by simp) ?_
    simp only [go_sem, seval, h1]
    refine cK_of (outBytes S0.next d _ S2 hO2 (by omega)) ?_
    rintro r3 S3 hS3 hL3 ⟨hO3, hK3, hF3⟩
    simp only [go_sem, seval, h1]
    refine hQ _ _ _ ?_; (first | rw [k_body_ret] | rw [k_body_normal]); simp only [resVals, resVal, ev, Env.get_put, ↓reduceIte, Nat.reduceEqDiff, Option.bind_some, Option.map_some, reduceCtorEq, ldv_true, ldv_false, lloadV_agg, partL, List.toList_toArray, cellsOf_set, cellsOf_new, rd_set, rd_new, List.length_cons, List.length_nil, Nat.reduceAdd, Nat.reduceLeDiff, Nat.le_refl, List.take_succ_cons, List.take_zero, List.drop_zero, Nat.add_eq_left, Nat.left_eq_add, List.getElem?_cons_zero, List.getElem?_cons_succ, aN62, h1]; rw [retQ_some]; simp only [oneOr]
    refine ⟨(hK0.trans hK2 fun _ _ _ => trivial).trans hK3 fun _ _ _ => trivial, fun _ => ⟨r3, rfl, hO3, fun i hi => by have := hF3 i hi; have := hK0.1; have := hK2.1; omega⟩, fun hh => absurd hf hh⟩
  have hjl : j < l.length := by omega
  have hlt : (j : Int) < l.length := by omega
  have hj0 : (0 : Int) ≤ j := by omega
  have hj1 : IntKind.i64.wrap ((j : Int) + 1) = j + 1 := wrap64_id (by omega) (by omega)
  have hyo := hok _ (List.getElem_mem hjl)
  have hyf := hf.2 _ (List.getElem_mem hjl)
  obtain ⟨y0, y1⟩ := styBytes_length l[j].s hyo.s
  have htr := hf.1.2.tr
  have hnb : nodeB l j = (if 0 < j then be (stp l j) 4 else []) ++ styBytes l[j].s := by unfold nodeB; rw [List.getElem?_eq_getElem hjl]
  have hS2 : Ns S2 (.slice a l.length e) l := Sl.keeps hL0 h0 hK2 fun _ _ => trivial
  obtain ⟨d', o', e', hv, he, hcc⟩ := hS2.ne (by omega)
  cases hv
  have hcj := nodes_at hok hcc j hjl
  obtain ⟨y, hy⟩ : ∃ y, y = l[j] := ⟨_, rfl⟩
  rw [← hy] at hcj hyo hyf y0 y1 hnb
  have hylen := Nd.cells_length hyo
  have hytk : y.cells.take 48 = y.s.cells := by unfold Nd.cells; exact List.take_left' hyo.s.len
  obtain ⟨X, hX⟩ : ∃ X, X = be (l.length : Int) 4 ++ restB l 0 j := ⟨_, rfl⟩
  rw [← hX] at hO2 hfl2
  have hXs : be (l.length : Int) 4 ++ restB l 0 (j + 1) = (X ++ (if 0 < j then be (stp l j) 4 else [])) ++ styBytes y.s := by rw [restB_snoc, hnb, hX]; simp only [List.append_assoc]
  simp only [go_sem, seval, h1, hlt, hj0, Int.toNat_natCast, hcj, hylen, ↓ow_all]
  refine iK_cut (fun t' S' => ∃ dd, Slots t' [(0, .slice (some ⟨d', o', none⟩) l.length e), (4, ptr S0.next), (6, .agg y.cells.toArray), (16, .slice (some ⟨d', o', none⟩) l.length e), (17, .int .i64 l.length), (18, .int .i64 j)] ∧ Live S' ∧ KeepsAll S0 S' ∧ (∀ i, Value.blkOf dd = some i → S0.next ≤ i) ∧ IsOut S' S0.next dd (X ++ (if 0 < j then be (stp l j) 4 else []))) (fun Q6 hN6 hE6 => iK_split (fun hc => ?_) (fun hc => ?_)) ?_
  · have hj0' : 0 < j := by simpa using hc
    obtain ⟨s1, s2, s3⟩ := stp_le hf.1 hjl hj0'
    have w3 : IntKind.u32.wrap (stp l j : Int) = stp l j := by rw [wrap32u]; omega
    simp only [go_sem, seval, h1, hlt]
    refine cK_of (up83 _ l j S2 hS2 hok hjl hn (htr.mono (by omega))) ?_
    rintro r3 S3 hS3 hL3 ⟨rfl, rfl⟩
    rw [s1]
    simp only [go_sem, seval, h1, w3]
    refine cK_of (outFour S0.next d X (stp l j) S3 hO2 (by omega) (by omega) (by omega)) ?_
    rintro r4 S4 hS4 hL4 ⟨rfl, d4, hO4, st4⟩
    obtain ⟨hK4, hF4⟩ := out_next hK2 hF2 st4
    simp only [go_sem, seval, h1]
    refine hN6 _ _ ⟨d4, ?_, hL4, hK4, hF4, by rw [if_pos hj0']; exact hO4⟩
    simp only [go_sem, seval, slots_cons, slots_nil, Int.natCast_add, Int.natCast_succ, Int.cast_ofNat_Int, h1, hcj, hylen, ↓ow_all]
  · have hj0' : ¬ 0 < j := by simpa using hc
    simp only [go_sem, seval, h1]
    refine hN6 _ _ ⟨d, ?_, hL2, hK2, hF2, by rw [if_neg hj0', List.append_nil]; exact hO2⟩
    simp only [go_sem, seval, slots_cons, slots_nil, Int.natCast_add, Int.natCast_succ, Int.cast_ofNat_Int, h1, hcj, hylen, ↓ow_all]
  rintro t6 S6 ⟨dd, h6, hL6, hK6, hF6, hO6⟩
  simp only [slots_cons, slots_nil] at h6
  have hxl : (X ++ (if 0 < j then be (stp l j : Int) 4 else [])).length ≤ 304000008 := by
    have h1 : (if 0 < j then be (stp l j : Int) 4 else []).length ≤ 4 := by split <;> simp [be_length]
    rw [List.length_append]; omega
  simp only [go_sem, seval, h6, hylen, hytk]
  refine cK_of (put56 S0.next dd _ y.s hyo.s S6 hO6 (by omega)) ?_
  rintro r7 S7 hS7 hL7 ⟨rfl, d7, b7, hO7, st7, hb7, _⟩
  rw [hb7 hyf] at hO7
  obtain ⟨hK7, hF7⟩ := out_next hK6 hF6 st7
  simp only [go_sem, seval, h6, hj1]
  refine hN _ _ ⟨j + 1, d7, by omega, ?_, hL7, hK7, hF7, ?_⟩ ?_
  · simp only [go_sem, seval, slots_cons, slots_nil, Int.natCast_add, Int.natCast_succ, Int.cast_ofNat_Int, h6]
  · rw [hXs]
    exact hO7
  · simp only [go_sem, seval, h6, h1]
    simp [RowKit.intOf]
    omega
end Go.Proofs.Ytbgnaeagdneikaa
-- pp: new
-- pp: short
namespace Go.Proofs.Ytbgnaeagdneikaa
open Go Go.Proofs.Ytbgnaeagdneikaa.Abs
set_option linter.unusedSimpArgs false
set_option linter.unusedVariables false

theorem tdec_bytes (l : List Nd) (hf : TForm l) (hn : l.length < 4294967296) (hok : ∀ x ∈ l, x.Ok) : treeD (treeB l) = some l ∧ tdec (treeB l) = tchk l := by
  have := treeD_bytes l hf hn hok []
  rw [List.append_nil, if_pos rfl] at this
  exact ⟨this, by unfold tdec; rw [this]⟩

set_option maxHeartbeats 2000000 in
theorem treeEncodes (x : Value) (l : List Nd) (S : St) (h : Ns S x l) (hok : ∀ x ∈ l, x.Ok) : ACalls Try.prog 18 [x] S fun r S' => r = .bool true := by
  refine ACalls.run hmix Try.func18 cN18 kN18 rfl fun hL Q hQ => ?_
  simp only [go_sem, seval, aN18]
  refine cK_of (awake50 S) ?_
  rintro r0 S0 hS0 hL0 ⟨rfl, hK0⟩
  obtain ⟨a, e, rfl⟩ := Sl.slice h
  by_cases hl : (100 : Int) < l.length
  · simp only [go_sem, seval, hl]
    refine cK_of (awake50 S0) ?_
    rintro r2 S2 hS2 hL2 ⟨rfl, hK2⟩
    simp only [go_sem, seval]
    refine hQ _ _ _ ?_; (first | rw [k_body_ret] | rw [k_body_normal]); simp only [resVals, resVal, ev, Env.get_put, ↓reduceIte, Nat.reduceEqDiff, Option.bind_some, Option.map_some, reduceCtorEq, ldv_true, ldv_false, lloadV_agg, partL, List.toList_toArray, cellsOf_set, cellsOf_new, rd_set, rd_new, List.length_cons, List.length_nil, Nat.reduceAdd, Nat.reduceLeDiff, Nat.le_refl, List.take_succ_cons, List.take_zero, List.drop_zero, Nat.add_eq_left, Nat.left_eq_add, List.getElem?_cons_zero, List.getElem?_cons_succ, aN18]; rw [retQ_some]; simp only [oneOr]
  have h0 : Ns S0 (.slice a l.length e) l := Sl.keeps hL h hK0 fun _ _ => trivial
  simp only [go_sem, seval, hl]
  refine cK_of (encode62 _ l S0 h0 hok (by omega)) ?_
  rintro r1 S1 hS1 hL1 ⟨hK1, hy, hno⟩
  have h1 : Ns S1 (.slice a l.length e) l := Sl.keeps hL0 h0 hK1 fun _ _ => trivial
  by_cases hf : TForm l
  rotate_left
  · have := hno hf
    subst this
    simp only [go_sem, seval]
    refine cK_of (formed52 _ l S1 h1 hok (by omega)) ?_
    rintro r2 S2 hS2 hL2 ⟨⟨c, rfl, hc⟩, hK2⟩
    cases c
    rotate_left
    · exact absurd (hc.1 rfl) hf
    simp only [go_sem, seval]
    refine hQ _ _ _ ?_; (first | rw [k_body_ret] | rw [k_body_normal]); simp only [resVals, resVal, ev, Env.get_put, ↓reduceIte, Nat.reduceEqDiff, Option.bind_some, Option.map_some, reduceCtorEq, ldv_true, ldv_false, lloadV_agg, partL, List.toList_toArray, cellsOf_set, cellsOf_new, rd_set, rd_new, List.length_cons, List.length_nil, Nat.reduceAdd, Nat.reduceLeDiff, Nat.le_refl, List.take_succ_cons, List.take_zero, List.drop_zero, Nat.add_eq_left, Nat.left_eq_add, List.getElem?_cons_zero, List.getElem?_cons_succ, aN18]; rw [retQ_some]; simp only [oneOr]
  obtain ⟨v, rfl, hO1, hF1⟩ := hy hf
  obtain ⟨b1, b2⟩ := treeB_length hok
  have hbyt := treeB_byt hf hok
  obtain ⟨hdec, htd⟩ := tdec_bytes l hf (by omega) hok
  have hby60 := fun (S : St) (h : Ns S (.slice a l.length e) l) => bytes60 _ l S h hok (by omega) hf
  obtain ⟨W, hW⟩ : ∃ W, W = treeB l := ⟨_, rfl⟩
  rw [← hW] at hO1 b1 b2 hbyt hdec htd hby60
  simp only [go_sem, seval]
  refine cK_of (formed52 _ l S1 h1 hok (by omega)) ?_
  rintro r2 S2 hS2 hL2 ⟨⟨c, rfl, hc⟩, hK2⟩
  obtain rfl : c = true := hc.2 hf
  have hO2 := Own.keeps hL1 hO1 hK2 fun _ _ => trivial
  have h2 : Ns S2 (.slice a l.length e) l := Sl.keeps hL1 h1 hK2 fun _ _ => trivial
  simp only [go_sem, seval]
  refine cK_of (decode57 v W S2 hO2.sl hbyt (by omega)) ?_
  rintro r3 S3 hS3 hL3 ⟨hK3, w, rfl, hw⟩
  rw [htd] at hw ⊢
  have hO3 := Own.keeps hL2 hO2 hK3 fun _ _ => trivial
  have h3 : Ns S3 (.slice a l.length e) l := Sl.keeps hL2 h2 hK3 fun _ _ => trivial
  have hb := b2s_bs (show Bs S3 v W from hO3.sl)
  simp only [go_sem, seval, hb]
  refine cK_of (hby60 S3 h3) ?_
  rintro r4 S4 hS4 hL4 hB4
  have hO4 := Own.keeps hL3 hO3 hB4.keep fun _ _ => trivial
  have h4 : Ns S4 (.slice a l.length e) l := Sl.keeps hL3 h3 hB4.keep fun _ _ => trivial
  have hb' := b2s_bs (show Bs S4 v W from hO4.sl)
  have hb4 := b2s_bs hB4.own.sl
  simp only [go_sem, seval, hb', hb4]
  refine cK_of (check54 _ l S4 h4 hok (by omega)) ?_
  rintro r5 S5 hS5 hL5 ⟨hK5, rfl⟩
  have h5 : Ns S5 (.slice a l.length e) l := Sl.keeps hL4 h4 hK5 fun _ _ => trivial
  rcases hw with ⟨e0, l', hd', hO3', hF3', hok', hll'⟩ | ⟨e0, rfl⟩
  · rw [hdec] at hd'
    cases hd'
    rw [e0]
    have hO5 := Own.keeps hL4 (Own.keeps hL3 hO3' hB4.keep fun _ _ => trivial) hK5 fun _ _ => trivial
    have g0 : ((0 : Int) != 0) = false := rfl
    simp only [go_sem, seval, g0]
    refine cK_of (same59 w _ l S5 hO5.sl h5 hok (by omega)) ?_
    rintro r6 S6 hS6 hL6 ⟨rfl, rfl⟩
    simp only [go_sem, seval]
    refine cK_of (same63 w _ l S6 hO5.sl h5 hok (by omega)) ?_
    rintro r7 S7 hS7 hL7 ⟨rfl, rfl⟩
    simp only [go_sem, seval]
    refine hQ _ _ _ ?_; (first | rw [k_body_ret] | rw [k_body_normal]); simp only [resVals, resVal, ev, Env.get_put, ↓reduceIte, Nat.reduceEqDiff, Option.bind_some, Option.map_some, reduceCtorEq, ldv_true, ldv_false, lloadV_agg, partL, List.toList_toArray, cellsOf_set, cellsOf_new, rd_set, rd_new, List.length_cons, List.length_nil, Nat.reduceAdd, Nat.reduceLeDiff, Nat.le_refl, List.take_succ_cons, List.take_zero, List.drop_zero, Nat.add_eq_left, Nat.left_eq_add, List.getElem?_cons_zero, List.getElem?_cons_succ, aN18]; rw [retQ_some]; simp only [oneOr]
  · have g : (tchk l != 0) = true := by simpa using e0
    simp only [go_sem, seval, g]
    refine hQ _ _ _ ?_; (first | rw [k_body_ret] | rw [k_body_normal]); simp only [resVals, resVal, ev, Env.get_put, ↓reduceIte, Nat.reduceEqDiff, Option.bind_some, Option.map_some, reduceCtorEq, ldv_true, ldv_false, lloadV_agg, partL, List.toList_toArray, cellsOf_set, cellsOf_new, rd_set, rd_new, List.length_cons, List.length_nil, Nat.reduceAdd, Nat.reduceLeDiff, Nat.le_refl, List.take_succ_cons, List.take_zero, List.drop_zero, Nat.add_eq_left, Nat.left_eq_add, List.getElem?_cons_zero, List.getElem?_cons_succ, aN18]; rw [retQ_some]; simp only [oneOr]

theorem treeEncodes' (x : Value) (n : Nat) (cs : List Value) (S : St) (hx : Sl S 49 x n cs) (hr : RowsOk ndSh n cs) : ACalls Try.prog 18 [x] S fun r S' => r = .bool true := by
  obtain ⟨l, hX, hl⟩ := Ns.of_rows hx hr
  exact treeEncodes x l S hX hl
end Go.Proofs.Ytbgnaeagdneikaa
-- pp: new
-- pp: short
namespace Go.Proofs.Ytbgnaeagdneikaa
open Go Go.Proofs.Ytbgnaeagdneikaa.Abs
set_option linter.unusedSimpArgs false
set_option linter.unusedVariables false

theorem decT_of (l : List Nd) (hf : TForm l) (hn : l.length < 4294967296) (hok : ∀ x ∈ l, x.Ok) (x : Nat) (m : List Int) : decT (l.length + x) [] (restB l 0 l.length ++ m, false) = decT x l (m, false) := by
  have := decT_bytes l hf hn hok x m l.length 0 (by omega)
  rwa [List.take_zero] at this
theorem drop_treeB (l : List Nd) : (treeB l).drop 4 = restB l 0 l.length := by unfold treeB; exact List.drop_left' (be_length _ _)
theorem treeD_be (N : Nat) (hN : N < 4294967296) (r : List Int) : treeD (be (N : Int) 4 ++ r) = match decT N [] (r, false) with | some (l, t) => if t = ([], false) ∧ 0 < N then some l else none | none => none := by
  unfold treeD
  rw [pFour_be _ _ (by omega) (by omega)]
  simp only [Int.toNat_natCast]
  rfl
theorem pFour_nil : pFour ([], false) = (0, [], true) := by simp [pFour, takeN]
theorem tree_count (l : List Nd) (hf : TForm l) (hok : ∀ x ∈ l, x.Ok) (k : Nat) (hn : l.length + k + 1 < 4294967296) : treeD (be ((l.length + k + 1 : Nat) : Int) 4 ++ (treeB l).drop 4) = none := by
  rw [drop_treeB, treeD_be _ hn]
  have h := decT_of l hf (by omega) hok (k + 1) []
  rw [List.append_nil, ← Nat.add_assoc] at h
  have hx : decT (k + 1) l ([], false) = none := by
    rw [decT]
    have hne : l ≠ [] := fun e => by have := hf.1.1; rw [e] at this; simp at this
    have hu : (nextP l ([], false)).2 = ([], true) := by unfold nextP; rw [if_neg hne, pFour_nil]
    rw [hu]
    by_cases hq : l ≠ [] ∧ (nextP l ([], false)).1 < 0
    · rw [if_pos hq]
    · rw [if_neg hq, if_neg]
      intro hg
      have := (taken ([], true) (by intro c hc; simp at hc) hg.1 hg.2.1).1
      cases this
  rw [h, hx]
theorem tree_parent (l : List Nd) (hf : TForm l) (hok : ∀ x ∈ l, x.Ok) (hn : l.length + 1 < 4294967296) (d : Nat) (hd : dep l (l.length - 1) ≤ d) (hd' : d < 4294967296) (r : List Int) : treeD ((be ((l.length + 1 : Nat) : Int) 4 ++ (treeB l).drop 4) ++ be (d : Int) 4 ++ r) = none := by
  rw [drop_treeB, List.append_assoc, List.append_assoc, treeD_be _ hn]
  rw [decT_of l hf (by omega) hok 1, decT]
  have hne : l ≠ [] := fun e => by have := hf.1.1; rw [e] at this; simp at this
  have hl1 : ((l.length - 1 : Nat) : Int) = (l.length : Int) - 1 := by have := hf.1.1; omega
  have hu : (nextP l (be (d : Int) 4 ++ r, false)).1 = -1 := by
    unfold nextP
    rw [if_neg hne, pFour_be _ _ (by omega) (by omega)]
    simp only [Int.toNat_natCast]
    unfold upR
    unfold dep at hd
    rw [hl1] at hd
    rw [List.getElem?_eq_none hd]
    rfl
  rw [if_pos ⟨hne, by rw [hu]; omega⟩]

set_option maxHeartbeats 2000000 in
theorem treeCounts (x : Value) (l : List Nd) (at_ b : Int) (S : St) (h : Ns S x l) (hok : ∀ x ∈ l, x.Ok) (h0 : 0 ≤ at_) (h1 : at_ < 256) (g0 : 0 ≤ b) (g1 : b < 256) : ACalls Try.prog 17 [x, .int .u8 at_, .int .u8 b] S fun r S' => r = .bool true := by
  refine ACalls.run hmix Try.func17 cN17 kN17 rfl fun hL Q hQ => ?_
  simp only [go_sem, seval, aN17]
  refine cK_of (awake50 S) ?_
  rintro r0 S0 hS0 hL0 ⟨rfl, hK0⟩
  obtain ⟨a, e, rfl⟩ := Sl.slice h
  by_cases hl : (40 : Int) < l.length
  · simp only [go_sem, seval, hl]
    refine cK_of (awake50 S0) ?_
    rintro r2 S2 hS2 hL2 ⟨rfl, hK2⟩
    simp only [go_sem, seval]
    refine hQ _ _ _ ?_; (first | rw [k_body_ret] | rw [k_body_normal]); simp only [resVals, resVal, ev, Env.get_put, ↓reduceIte, Nat.reduceEqDiff, Option.bind_some, Option.map_some, reduceCtorEq, ldv_true, ldv_false, lloadV_agg, partL, List.toList_toArray, cellsOf_set, cellsOf_new, rd_set, rd_new, List.length_cons, List.length_nil, Nat.reduceAdd, Nat.reduceLeDiff, Nat.le_refl, List.take_succ_cons, List.take_zero, List.drop_zero, Nat.add_eq_left, Nat.left_eq_add, List.getElem?_cons_zero, List.getElem?_cons_succ, aN17]; rw [retQ_some]; simp only [oneOr]
  have hI0 : Ns S0 (.slice a l.length e) l := Sl.keeps hL h hK0 fun _ _ => trivial
  simp only [go_sem, seval, hl]
  refine cK_of (formed52 _ l S0 hI0 hok (by omega)) ?_
  rintro r1 S1 hS1 hL1 ⟨⟨c, rfl, hc⟩, hK1⟩
  cases c
  · simp only [go_sem, seval]
    refine cK_of (awake50 S1) ?_
    rintro r2 S2 hS2 hL2 ⟨rfl, hK2⟩
    simp only [go_sem, seval]
    refine hQ _ _ _ ?_; (first | rw [k_body_ret] | rw [k_body_normal]); simp only [resVals, resVal, ev, Env.get_put, ↓reduceIte, Nat.reduceEqDiff, Option.bind_some, Option.map_some, reduceCtorEq, ldv_true, ldv_false, lloadV_agg, partL, List.toList_toArray, cellsOf_set, cellsOf_new, rd_set, rd_new, List.length_cons, List.length_nil, Nat.reduceAdd, Nat.reduceLeDiff, Nat.le_refl, List.take_succ_cons, List.take_zero, List.drop_zero, Nat.add_eq_left, Nat.left_eq_add, List.getElem?_cons_zero, List.getElem?_cons_succ, aN17]; rw [retQ_some]; simp only [oneOr]
  have hf := hc.1 rfl
  have hI1 : Ns S1 (.slice a l.length e) l := Sl.keeps hL0 hI0 hK1 fun _ _ => trivial
  simp only [go_sem, seval]
  refine cK_of (bytes60 _ l S1 hI1 hok (by omega) hf) ?_
  rintro r2 S2 hS2 hL2 hB
  obtain ⟨b1, b2⟩ := treeB_length hok
  have hbyt := treeB_byt hf hok
  have hcount := tree_count l hf hok at_.toNat (by omega)
  have hmore := treeD_bytes l hf (by omega) hok [b]
  have hlen1 := chain_len hf.1.2.tr l.length ((l.length : Int) - 1) (by omega) (by omega) (by have := hf.1.1; omega)
  have hl1 : ((l.length - 1 : Nat) : Int) = (l.length : Int) - 1 := by have := hf.1.1; omega
  have hdd : (chain (par l) ((l.length : Int) - 1)).length = dep l (l.length - 1) := by unfold dep; rw [hl1]
  rw [hdd] at hlen1
  have hpar := tree_parent l hf hok (by omega) (dep l (l.length - 1) + at_.toNat) (by omega) (by omega)
  obtain ⟨W, hW⟩ : ∃ W, W = treeB l := ⟨_, rfl⟩
  rw [← hW] at hB b1 b2 hbyt hmore hcount
  simp only [← hW] at hpar
  obtain ⟨d, rfl, hbd, _⟩ := hB.own.ne (by omega)
  have e1 : IntKind.u64.wrap (l.length : Int) = l.length := by rw [wrap64u]; omega
  have e2 : IntKind.u64.wrap ((l.length : Int) + 1) = ((l.length + 1 : Nat) : Int) := by rw [wrap64u]; omega
  have e3 : IntKind.u64.wrap at_ = at_ := by rw [wrap64u]; omega
  have e4 : IntKind.u64.wrap (((l.length + 1 : Nat) : Int) + at_) = ((l.length + at_.toNat + 1 : Nat) : Int) := by rw [wrap64u]; omega
  have hwl : (4 : Nat) ≤ W.length := by omega
  simp only [go_sem, seval, e1, e2, e3, e4, hwl, Nat.le_refl, or_true]
  refine cK_of (numFour ((l.length + at_.toNat + 1 : Nat) : Int) S2 (by omega) (by omega)) ?_
  rintro r3 S3 hS3 hL3 ⟨hO3, hK3, hF3⟩
  have key : ∀ (S : St), Own S 1 (.slice (some ⟨d, 0, none⟩) W.length 1) W.length (bytesV W) → Bs S (.slice (some ⟨d, 4, none⟩) (W.length - 4) 1) (W.drop 4) := by
    intro S hO
    obtain ⟨d', hd', hbd7, _⟩ := hO.ne (by omega)
    cases hd'
    refine .inr ⟨d, 4, 1, by simp, .inr rfl, ?_⟩
    rw [cellsOf_of_blk hbd7, if_pos (by simp [bytesV]; omega)]
    simp [bytesV, List.map_drop]
    rw [List.take_of_length_le (by simp)]
  have hO3' := Own.keeps hL2 hB.own hK3 fun _ _ => trivial
  have hlb : ∀ n : Int, (be n 4).length = 4 := fun n => be_length _ _
  simp only [go_sem, seval]
  refine hK_of (append_live hL3 (append_bs hO3 (key _ hO3') (by rw [hlb, List.length_drop]; omega))) ?_
  rintro v4 S4 ⟨hL4, hO4, hK4, hF4⟩
  have hK24 : KeepsAll S2 S4 := hK3.trans hK4 fun i hi _ e => by have := hF3 i e; omega
  simp only [go_sem, seval]
  refine cK_of (decode57 _ _ S4 hO4.sl (fun c hc => by
    rcases List.mem_append.1 hc with hc | hc
    · exact be_byt _ _ c hc
    · exact hbyt c (List.mem_of_mem_drop hc)) (by rw [List.length_append, hlb, List.length_drop]; omega)) ?_
  rintro r5 S5 hS5 hL5 ⟨hK5, w5, rfl, hw5⟩
  have t5 : tdec (be ((l.length + at_.toNat + 1 : Nat) : Int) 4 ++ W.drop 4) = 2 := by unfold tdec; rw [hcount]
  rw [t5]
  clear hw5
  have hK25 : KeepsAll S2 S5 := hK24.trans hK5 fun _ _ _ => trivial
  have hO5 := Own.keeps hL2 hB.own hK25 fun _ _ => trivial
  simp only [go_sem, seval]
  have hE5 : OwnBs (S5.new ⟨false, []⟩) (.slice (some ⟨S5.next, 0, none⟩) 0 1) [] := .inr ⟨S5.next, rfl, by simp [St.blk_new, bytesV], rfl⟩
  have hkn5 := Keeps.of_new S5 ⟨false, []⟩ fun _ => True
  refine hK_of (append_live (hL5.new _) (append_bs hE5 (Sl.keeps hL5 hO5.sl hkn5 fun _ _ => trivial) (by simp; omega))) ?_
  rintro v6 S6 ⟨hL6, hO6, hK6, hF6⟩
  rw [List.nil_append] at hO6
  have hn56 : S5.next < S6.next := by have := hK6.1; simp [St.next_new] at this; omega
  have hK56 : KeepsAll S5 S6 := hkn5.trans hK6 fun i hi _ e => by simp [Value.blkOf] at e; omega
  have hv6 : ∀ i, Value.blkOf v6 = some i → S5.next ≤ i := fun i hi => by
    rcases hF6 i hi with hh | hh
    · simp [Value.blkOf] at hh; omega
    · simp [St.next_new] at hh; omega
  simp only [go_sem, seval]
  have hkn6 := Keeps.of_new S6 ⟨false, [.int .u8 b]⟩ fun _ => True
  have hB6 : Bs (S6.new ⟨false, [.int .u8 b]⟩) (.slice (some ⟨S6.next, 0, none⟩) 1 1) [b] := bs_new1 S6 b
  refine hK_of (append_live (hL6.new _) (append_bs (Own.keeps hL6 hO6 hkn6 fun _ _ => trivial) hB6 (by simp; omega))) ?_
  rintro v7 S7 ⟨hL7, hO7, hK7, hF7⟩
  have hK57 : KeepsAll S5 S7 := (hK56.trans hkn6 fun _ _ _ => trivial).trans hK7 fun i hi _ e => by have := hv6 i e; omega
  simp only [go_sem, seval]
  refine cK_of (decode57 _ _ S7 hO7.sl (fun c hc => by
    rcases List.mem_append.1 hc with hc | hc
    · exact hbyt c hc
    · simp only [List.mem_cons, List.not_mem_nil, or_false] at hc; subst hc; exact ⟨g0, g1⟩) (by simp; omega)) ?_
  rintro r8 S8 hS8 hL8 ⟨hK8, w8, rfl, hw8⟩
  have t8 : tdec (W ++ [b]) = 2 := by unfold tdec; rw [hmore]; simp
  rw [t8]
  clear hw8
  have hK28 : KeepsAll S2 S8 := (hK25.trans hK57 fun _ _ _ => trivial).trans hK8 fun _ _ _ => trivial
  have hO8 := Own.keeps hL2 hB.own hK28 fun _ _ => trivial
  have hI8 : Ns S8 (.slice a l.length e) l := Sl.keeps hL1 hI1 (hB.keep.trans hK28 fun _ _ _ => trivial) fun _ _ => trivial
  have w1 : IntKind.i64.wrap ((l.length : Int) - 1) = (l.length : Int) - 1 := wrap64_id (by omega) (by omega)
  simp only [go_sem, seval, e1, e2, e3, w1, hwl, Nat.le_refl, or_true]
  refine cK_of (numFour ((l.length + 1 : Nat) : Int) S8 (by omega) (by omega)) ?_
  rintro r9 S9 hS9 hL9 ⟨hO9, hK9, hF9⟩
  have hO9' := Own.keeps hL8 hO8 hK9 fun _ _ => trivial
  simp only [go_sem, seval]
  refine hK_of (append_live hL9 (append_bs hO9 (key _ hO9') (by rw [hlb, List.length_drop]; omega))) ?_
  rintro v10 S10 ⟨hL10, hO10, hK10, hF10⟩
  have hv10 : ∀ i, Value.blkOf v10 = some i → S8.next ≤ i := fun i hi => by
    rcases hF10 i hi with hh | hh
    · exact hF9 i hh
    · have := hK9.1; omega
  have hK810 : KeepsAll S8 S10 := hK9.trans hK10 fun i hi _ e => by have := hF9 i e; omega
  have hI10 : Ns S10 (.slice a l.length e) l := Sl.keeps hL8 hI8 hK810 fun _ _ => trivial
  simp only [go_sem, seval]
  refine cK_of (deep61 _ l ((l.length : Int) - 1) l.length S10 hI10 hok (Nat.le_refl _) (by omega) hf.1.2.tr (by have := hf.1.1; omega) (by omega)) ?_
  rintro r11 S11 hS11 hL11 ⟨rfl, rfl⟩
  rw [hdd]
  have w2 : IntKind.u64.wrap (dep l (l.length - 1) : Int) = dep l (l.length - 1) := by rw [wrap64u]; omega
  have w3 : IntKind.u64.wrap ((dep l (l.length - 1) : Int) + at_) = ((dep l (l.length - 1) + at_.toNat : Nat) : Int) := by rw [wrap64u]; omega
  simp only [go_sem, seval, w2, w3]
  refine cK_of (numFour ((dep l (l.length - 1) + at_.toNat : Nat) : Int) S11 (by omega) (by omega)) ?_
  rintro r12 S12 hS12 hL12 ⟨hO12, hK12, hF12⟩
  simp only [go_sem, seval]
  refine hK_of (append_live hL12 (append_bs (Own.keeps hL11 hO10 hK12 fun _ _ => trivial) hO12.sl (by simp only [List.length_append, hlb, List.length_drop]; omega))) ?_
  rintro v13 S13 ⟨hL13, hO13, hK13, hF13⟩
  simp only [go_sem, seval]
  refine cK_of (plain55 S13) ?_
  rintro r14 S14 hS14 hL14 ⟨rfl, hK14⟩
  have hp : (plainK 4).Ok := styK_ok true 4 (by omega)
  have hplen : (plainK 4).cells.length = 48 := hp.len
  simp only [go_sem, seval, hplen]
  refine cK_of (refBytes (plainK 4) hp plain_formed S14) ?_
  rintro r15 S15 hS15 hL15 hB15
  obtain ⟨p0, p1⟩ := styBytes_length (plainK 4) hp
  have hpb := styBytes_byt hp plain_formed
  obtain ⟨Y, hY⟩ : ∃ Y, Y = styBytes (plainK 4) := ⟨_, rfl⟩
  rw [← hY] at hB15 p0 p1 hpb
  have hO15 := Own.keeps hL14 (Own.keeps hL13 hO13 hK14 fun _ _ => trivial) hB15.keep fun _ _ => trivial
  simp only [go_sem, seval]
  refine hK_of (append_live hL15 (append_bs hO15 hB15.own.sl (by simp only [List.length_append, hlb, List.length_drop]; omega))) ?_
  rintro v16 S16 ⟨hL16, hO16, hK16, hF16⟩
  simp only [go_sem, seval]
  refine cK_of (decode57 _ _ S16 hO16.sl (fun c hc => by
    rcases List.mem_append.1 hc with hc | hc
    · rcases List.mem_append.1 hc with hc | hc
      · rcases List.mem_append.1 hc with hc | hc
        · exact be_byt _ _ c hc
        · exact hbyt c (List.mem_of_mem_drop hc)
      · exact be_byt _ _ c hc
    · exact hpb c hc) (by simp only [List.length_append, hlb, List.length_drop]; omega)) ?_
  rintro r17 S17 hS17 hL17 ⟨hK17, w17, rfl, hw17⟩
  have t17 : tdec (be ((l.length + 1 : Nat) : Int) 4 ++ W.drop 4 ++ be ((dep l (l.length - 1) + at_.toNat : Nat) : Int) 4 ++ Y) = 2 := by unfold tdec; rw [hpar]
  rw [t17]
  simp only [go_sem, seval]
  refine hQ _ _ _ ?_; (first | rw [k_body_ret] | rw [k_body_normal]); simp only [resVals, resVal, ev, Env.get_put, ↓reduceIte, Nat.reduceEqDiff, Option.bind_some, Option.map_some, reduceCtorEq, ldv_true, ldv_false, lloadV_agg, partL, List.toList_toArray, cellsOf_set, cellsOf_new, rd_set, rd_new, List.length_cons, List.length_nil, Nat.reduceAdd, Nat.reduceLeDiff, Nat.le_refl, List.take_succ_cons, List.take_zero, List.drop_zero, Nat.add_eq_left, Nat.left_eq_add, List.getElem?_cons_zero, List.getElem?_cons_succ, aN17]; rw [retQ_some]; simp only [oneOr]

theorem treeCounts' (x : Value) (n : Nat) (cs : List Value) (a b : Int) (S : St) (hx : Sl S 49 x n cs) (hr : RowsOk ndSh n cs) (wa : (Lit.int .u8 a).wf = true) (wb : (Lit.int .u8 b).wf = true) : ACalls Try.prog 17 [x, .int .u8 a, .int .u8 b] S fun r S' => r = .bool true := by
  obtain ⟨l, hX, hl⟩ := Ns.of_rows hx hr
  exact treeCounts x l a b S hX hl (wfByte wa).1 (wfByte wa).2 (wfByte wb).1 (wfByte wb).2
end Go.Proofs.Ytbgnaeagdneikaa
