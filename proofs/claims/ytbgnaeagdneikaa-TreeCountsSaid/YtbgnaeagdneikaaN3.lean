/- Styles taken, cut short. -/
import Derived.Test.YtbgnaeagdneikaaN2
import Derived.Test.YtbgnaeagdneikaaSeatKKN
-- pp: new
namespace Go.Proofs.Ytbgnaeagdneikaa
open Go Go.Proofs.Ytbgnaeagdneikaa.Abs
set_option linter.unusedSimpArgs false
set_option linter.unusedVariables false

theorem wfI {n : Int} (h : InI64 n) : (Lit.int .i64 n).wf = true := by
  unfold InI64 at h
  simp [Lit.wf, IntKind.min, IntKind.max, IntKind.signed, IntKind.bits]
  omega
theorem lenCells_flat : ∀ (ls : List (Int × Int)), (∀ p ∈ ls, InI64 p.1 ∧ InI64 p.2) → FlatOk (List.replicate (ls.length * 2) (.int .i64)) (lenCells ls)
  | [], _ => trivial
  | p :: ls, h => by
    have hp := h p (by simp)
    have := lenCells_flat ls fun q hq => h q (by simp [hq])
    rw [List.length_cons, Nat.succ_mul, List.replicate_succ, List.replicate_succ]
    exact ⟨⟨_, rfl, wfI hp.1⟩, ⟨_, rfl, wfI hp.2⟩, this⟩
theorem Sty.flat {s : Sty} (h : s.Ok) : FlatOk styleSh s.cells := by
  unfold styleSh Sty.cells
  have h1 := lenCells_flat s.lens h.rl
  rw [h.lens] at h1
  have h2 := flat_map_ints .i64 s.border fun n hn => wfI (h.rb n hn)
  rw [h.border] at h2
  refine ((FlatOk.append (FlatOk.append (sh := [.bool, .int .i64]) (cs := [.bool s.shown, .int .i64 s.pos]) ⟨⟨_, rfl⟩, ⟨_, rfl, wfI h.rp⟩, trivial⟩ h1) h2).append ?_)
  exact ⟨⟨_, rfl⟩, ⟨_, rfl⟩, ⟨_, rfl, wfI h.rz⟩, ⟨_, rfl⟩, ⟨_, rfl, wfI h.rk⟩, ⟨_, rfl, wfI h.rn⟩, trivial⟩
theorem sty_same {s : Sty} (h : s.Ok) : flatEq [false, true, true, true, true, true, true, true, true, true, true, true, true, true, true, true, true, true, true, true, true, true, true, true, true, true, true, true, true, true, true, true, true, true, true, true, true, true, true, true, true, true, false, false, true, false, true, true] s.cells s.cells = some true := flatEq_self (Sty.flat h)
theorem zero_ok : zeroS.Ok := styK_ok false 0 (by omega)

theorem be64_byt (v : Int) : Byt (be64 v) := be_byt _ _
theorem styBytes_byt {s : Sty} (hs : s.Ok) (hf : SFormed s) : Byt (styBytes s) := by
  obtain ⟨g0, g1, _⟩ := flag_facts s ⟨hf.2.2.1, hf.2.2.2.1⟩
  intro c hc
  unfold styBytes at hc
  simp only [List.mem_cons, List.mem_append, List.mem_flatMap] at hc
  rcases hc with rfl | ⟨p, hp, hc⟩ | ⟨n, hn, hc⟩ | hc | hc | hc
  · omega
  · obtain ⟨i, hi, rfl⟩ := List.getElem_of_mem hp
    have hpf := (hf.1 i hi).1
    unfold lenBytes at hc
    split at hc
    · simp at hc; omega
    · simp only [List.mem_cons] at hc
      rcases hc with rfl | hc
      · omega
      · exact be64_byt _ c hc
  · exact be64_byt _ c hc
  · split at hc
    · exact be64_byt _ c hc
    · simp at hc
  · exact be64_byt _ c hc
  · exact be64_byt _ c hc

/-- A style's bytes, cut short, are none's. -/
theorem cut_bad (s : Sty) (hs : s.Ok) (hf : SFormed s) (k : Nat) (hk : k < (styBytes s).length) : ¬ Good ((styBytes s).take k, false) := by
  intro ⟨h1, h2, h3⟩
  have hb : Byt (styBytes s) := styBytes_byt hs hf
  have hbt : Byt ((styBytes s).take k) := fun c hc => hb c (List.mem_of_mem_take hc)
  obtain ⟨_, e, _⟩ := taken ((styBytes s).take k, false) hbt h1 h2
  have hok := pSty_ok (t := ((styBytes s).take k, false)) hbt
  obtain ⟨a1, a2, _⟩ := roundtrip s hs hf []
  obtain ⟨b1, b2, _⟩ := roundtrip (pSty ((styBytes s).take k, false)) hok h3 ((pT5 ((styBytes s).take k, false)).1 ++ (styBytes s).drop k)
  rw [List.append_nil] at a1 a2
  have key : styBytes s = styBytes (pSty ((styBytes s).take k, false)) ++ ((pT5 ((styBytes s).take k, false)).1 ++ (styBytes s).drop k) := by
    rw [← List.append_assoc, ← e, List.take_append_drop]
  rw [← key, a2] at b2
  have := congrArg (fun p : Pst => p.1.length) b2
  simp at this
  omega

theorem styBytes_length (s : Sty) (hs : s.Ok) : 1 ≤ (styBytes s).length ∧ (styBytes s).length ≤ 300 := by
  unfold styBytes
  have h1 := flatMap_length_le lenBytes 9 lenBytes_length s.lens
  have h2 := flatMap_length_le be64 8 (fun a => by rw [be64_length]; omega) s.border
  have h3 : (if s.hasZ = true then be64 s.z else []).length ≤ 8 := by split <;> simp [be64_length]
  rw [hs.lens] at h1
  rw [hs.border] at h2
  simp only [List.length_cons, List.length_append, be64_length]
  omega

theorem styleCuts (s : Sty) (hs : s.Ok) (at_ : Int) (h0 : 0 ≤ at_) (h1 : at_ < 65536) (S : St) : ACalls Try.prog 8 [.agg s.cells.toArray, .int .u16 at_] S fun r S' => r = .bool true := by
  refine ACalls.run hmix Try.func8 cN8 kN8 rfl fun hL Q hQ => ?_
  have hlen := hs.len
  have htk : s.cells.take 48 = s.cells := List.take_of_length_le (by omega)
  simp only [guard_undef, List.contains_cons, List.contains_nil, Nat.reduceBEq, Int.cast_ofNat_Int, and_self, k_pend_g, pendV, go_sem, i64_wrap_id, Int.reduceAdd, Int.reduceSub, Int.reduceNeg, Int.reduceMul, Nat.reduceSub, Nat.reduceEqDiff, Nat.reduceAdd, Nat.reduceMul, Nat.reduceLeDiff, ↓reduceIte, reduceCtorEq, Int.reduceToNat, Int.reduceLT, Int.reduceLE, Int.reduceEq, aN8]
  refine cK_of (awake06 S) ?_
  rintro r0 S0 hS0 hL0 ⟨rfl, hK0⟩
  simp only [guard_undef, List.contains_cons, List.contains_nil, Nat.reduceBEq, Int.cast_ofNat_Int, and_self, k_pend_g, pendV, go_sem, i64_wrap_id, Int.reduceAdd, Int.reduceSub, Int.reduceNeg, Int.reduceMul, Nat.reduceSub, Nat.reduceEqDiff, Nat.reduceAdd, Nat.reduceMul, Nat.reduceLeDiff, ↓reduceIte, reduceCtorEq, Int.reduceToNat, Int.reduceLT, Int.reduceLE, Int.reduceEq, hlen, htk]
  refine cK_of (refFormed s hs S0) ?_
  rintro r1 S1 hS1 hL1 ⟨⟨c, rfl, hc⟩, hK1⟩
  cases c
  · simp only [guard_undef, List.contains_cons, List.contains_nil, Nat.reduceBEq, Int.cast_ofNat_Int, and_self, k_pend_g, pendV, go_sem, i64_wrap_id, Int.reduceAdd, Int.reduceSub, Int.reduceNeg, Int.reduceMul, Nat.reduceSub, Nat.reduceEqDiff, Nat.reduceAdd, Nat.reduceMul, Nat.reduceLeDiff, ↓reduceIte, reduceCtorEq, Int.reduceToNat, Int.reduceLT, Int.reduceLE, Int.reduceEq]
    refine cK_of (awake06 S1) ?_
    rintro r2 S2 hS2 hL2 ⟨rfl, hK2⟩
    simp only [guard_undef, List.contains_cons, List.contains_nil, Nat.reduceBEq, Int.cast_ofNat_Int, and_self, k_pend_g, pendV, go_sem, i64_wrap_id, Int.reduceAdd, Int.reduceSub, Int.reduceNeg, Int.reduceMul, Nat.reduceSub, Nat.reduceEqDiff, Nat.reduceAdd, Nat.reduceMul, Nat.reduceLeDiff, ↓reduceIte, reduceCtorEq, Int.reduceToNat, Int.reduceLT, Int.reduceLE, Int.reduceEq]
    refine hQ _ _ _ ?_; (first | rw [k_body_ret] | rw [k_body_normal]); simp only [resVals, resVal, ev, Env.get_put, ↓reduceIte, Nat.reduceEqDiff, Option.bind_some, Option.map_some, reduceCtorEq, ldv_true, ldv_false, lloadV_agg, partL, List.toList_toArray, cellsOf_set, cellsOf_new, rd_set, rd_new, List.length_cons, List.length_nil, Nat.reduceAdd, Nat.reduceLeDiff, Nat.le_refl, List.take_succ_cons, List.take_zero, List.drop_zero, Nat.add_eq_left, Nat.left_eq_add, List.getElem?_cons_zero, List.getElem?_cons_succ, aN8]; rw [retQ_some]; simp only [oneOr]
  have hf := hc.1 rfl
  simp only [guard_undef, List.contains_cons, List.contains_nil, Nat.reduceBEq, Int.cast_ofNat_Int, and_self, k_pend_g, pendV, go_sem, i64_wrap_id, Int.reduceAdd, Int.reduceSub, Int.reduceNeg, Int.reduceMul, Nat.reduceSub, Nat.reduceEqDiff, Nat.reduceAdd, Nat.reduceMul, Nat.reduceLeDiff, ↓reduceIte, reduceCtorEq, Int.reduceToNat, Int.reduceLT, Int.reduceLE, Int.reduceEq, hlen, htk]
  refine cK_of (refBytes s hs hf S1) ?_
  rintro r2 S2 hS2 hL2 hB
  obtain ⟨l0, l1⟩ := styBytes_length s hs
  obtain ⟨d, rfl, hbd, _⟩ := hB.own.ne (by omega)
  obtain ⟨k, hk⟩ : ∃ k : Nat, at_.tmod ((styBytes s).length : Int) = (k : Int) := ⟨(at_.tmod ((styBytes s).length : Int)).toNat, by
    have := Int.tmod_nonneg ((styBytes s).length : Int) h0
    omega⟩
  have hkl : k < (styBytes s).length := by
    have := Int.tmod_lt_of_pos at_ (b := ((styBytes s).length : Int)) (by omega)
    omega
  have hw : IntKind.i64.wrap at_ = at_ := wrap64_id (by omega) (by omega)
  have hne : ¬ (((styBytes s).length : Int) = 0) := by omega
  have hk0 : (0 : Int) ≤ k := by omega
  have hkl' : k ≤ (styBytes s).length := by omega
  simp only [guard_undef, List.contains_cons, List.contains_nil, Nat.reduceBEq, Int.cast_ofNat_Int, and_self, k_pend_g, pendV, go_sem, i64_wrap_id, Int.reduceAdd, Int.reduceSub, Int.reduceNeg, Int.reduceMul, Nat.reduceSub, Nat.reduceEqDiff, Nat.reduceAdd, Nat.reduceMul, Nat.reduceLeDiff, ↓reduceIte, reduceCtorEq, Int.reduceToNat, Int.reduceLT, Int.reduceLE, Int.reduceEq, hw, hne, hk, hk0, Int.toNat_natCast, hkl', Nat.zero_le, Nat.sub_zero, Nat.zero_mul]
  have hsl : Bs S2 (.slice (some ⟨d, 0, none⟩) k 1) ((styBytes s).take k) := by
    refine .inr ⟨d, 0, 1, by simp; omega, .inr rfl, ?_⟩
    rw [cellsOf_of_blk hbd, if_pos (by simp [bytesV]; omega)]
    simp [bytesV, List.map_take]
  refine cK_of (newIn _ _ S2 hsl (fun c hc => styBytes_byt hs hf c (List.mem_of_mem_take hc)) (by simp; omega)) ?_
  rintro r3 S3 hS3 hL3 ⟨i, x, rfl, hI, hK3, hi3, hx3⟩
  simp only [guard_undef, List.contains_cons, List.contains_nil, Nat.reduceBEq, Int.cast_ofNat_Int, and_self, k_pend_g, pendV, go_sem, i64_wrap_id, Int.reduceAdd, Int.reduceSub, Int.reduceNeg, Int.reduceMul, Nat.reduceSub, Nat.reduceEqDiff, Nat.reduceAdd, Nat.reduceMul, Nat.reduceLeDiff, ↓reduceIte, reduceCtorEq, Int.reduceToNat, Int.reduceLT, Int.reduceLE, Int.reduceEq]
  refine cK_of (get40 i x _ false S3 hI) ?_
  rintro r4 S4 hS4 hL4 hG
  rcases hG with ⟨hg, _⟩ | ⟨_, rfl, x4, hI4, hs4⟩
  · exact absurd hg (cut_bad s hs hf k hkl)
  have hq := sty_same zero_ok
  rw [show zeroS.cells = [.bool false, .int .i64 0, .int .i64 0, .int .i64 0, .int .i64 0, .int .i64 0, .int .i64 0, .int .i64 0, .int .i64 0, .int .i64 0, .int .i64 0, .int .i64 0, .int .i64 0, .int .i64 0, .int .i64 0, .int .i64 0, .int .i64 0, .int .i64 0, .int .i64 0, .int .i64 0, .int .i64 0, .int .i64 0, .int .i64 0, .int .i64 0, .int .i64 0, .int .i64 0, .int .i64 0, .int .i64 0, .int .i64 0, .int .i64 0, .int .i64 0, .int .i64 0, .int .i64 0, .int .i64 0, .int .i64 0, .int .i64 0, .int .i64 0, .int .i64 0, .int .i64 0, .int .i64 0, .int .i64 0, .int .i64 0, .bool false, .bool false, .int .i64 0, .bool false, .int .i64 0, .int .i64 0] from rfl] at hq ⊢
  simp only [guard_undef, List.contains_cons, List.contains_nil, Nat.reduceBEq, Int.cast_ofNat_Int, and_self, k_pend_g, pendV, go_sem, i64_wrap_id, Int.reduceAdd, Int.reduceSub, Int.reduceNeg, Int.reduceMul, Nat.reduceSub, Nat.reduceEqDiff, Nat.reduceAdd, Nat.reduceMul, Nat.reduceLeDiff, ↓reduceIte, reduceCtorEq, Int.reduceToNat, Int.reduceLT, Int.reduceLE, Int.reduceEq, hq]
  refine cK_of (inBad i x4 _ _ S4 hI4) ?_
  rintro r5 S5 hS5 hL5 ⟨rfl, rfl⟩
  simp only [guard_undef, List.contains_cons, List.contains_nil, Nat.reduceBEq, Int.cast_ofNat_Int, and_self, k_pend_g, pendV, go_sem, i64_wrap_id, Int.reduceAdd, Int.reduceSub, Int.reduceNeg, Int.reduceMul, Nat.reduceSub, Nat.reduceEqDiff, Nat.reduceAdd, Nat.reduceMul, Nat.reduceLeDiff, ↓reduceIte, reduceCtorEq, Int.reduceToNat, Int.reduceLT, Int.reduceLE, Int.reduceEq]
  refine hQ _ _ _ ?_; (first | rw [k_body_ret] | rw [k_body_normal]); simp only [resVals, resVal, ev, Env.get_put, ↓reduceIte, Nat.reduceEqDiff, Option.bind_some, Option.map_some, reduceCtorEq, ldv_true, ldv_false, lloadV_agg, partL, List.toList_toArray, cellsOf_set, cellsOf_new, rd_set, rd_new, List.length_cons, List.length_nil, Nat.reduceAdd, Nat.reduceLeDiff, Nat.le_refl, List.take_succ_cons, List.take_zero, List.drop_zero, Nat.add_eq_left, Nat.left_eq_add, List.getElem?_cons_zero, List.getElem?_cons_succ, aN8]; rw [retQ_some]; simp only [oneOr]

set_option maxHeartbeats 600000 in
theorem styleGets (x : Value) (xs : List Int) (S : St) (h : Bs S x xs) (hx : Byt xs) : ACalls Try.prog 9 [x] S fun r S' => r = .bool true := by
  refine ACalls.run hmix Try.func9 cN9 kN9 rfl fun hL Q hQ => ?_
  simp only [guard_undef, List.contains_cons, List.contains_nil, Nat.reduceBEq, Int.cast_ofNat_Int, and_self, k_pend_g, pendV, go_sem, i64_wrap_id, Int.reduceAdd, Int.reduceSub, Int.reduceNeg, Int.reduceMul, Nat.reduceSub, Nat.reduceEqDiff, Nat.reduceAdd, Nat.reduceMul, Nat.reduceLeDiff, ↓reduceIte, reduceCtorEq, Int.reduceToNat, Int.reduceLT, Int.reduceLE, Int.reduceEq, aN9]
  refine cK_of (awake06 S) ?_
  rintro r0 S0 hS0 hL0 ⟨rfl, hK0⟩
  obtain ⟨a, e, rfl⟩ := h.slice
  by_cases hl : (1000 : Int) < xs.length
  · simp only [guard_undef, List.contains_cons, List.contains_nil, Nat.reduceBEq, Int.cast_ofNat_Int, and_self, k_pend_g, pendV, go_sem, i64_wrap_id, Int.reduceAdd, Int.reduceSub, Int.reduceNeg, Int.reduceMul, Nat.reduceSub, Nat.reduceEqDiff, Nat.reduceAdd, Nat.reduceMul, Nat.reduceLeDiff, ↓reduceIte, reduceCtorEq, Int.reduceToNat, Int.reduceLT, Int.reduceLE, Int.reduceEq, hl]
    refine cK_of (awake06 S0) ?_
    rintro r2 S2 hS2 hL2 ⟨rfl, hK2⟩
    simp only [guard_undef, List.contains_cons, List.contains_nil, Nat.reduceBEq, Int.cast_ofNat_Int, and_self, k_pend_g, pendV, go_sem, i64_wrap_id, Int.reduceAdd, Int.reduceSub, Int.reduceNeg, Int.reduceMul, Nat.reduceSub, Nat.reduceEqDiff, Nat.reduceAdd, Nat.reduceMul, Nat.reduceLeDiff, ↓reduceIte, reduceCtorEq, Int.reduceToNat, Int.reduceLT, Int.reduceLE, Int.reduceEq]
    refine hQ _ _ _ ?_; (first | rw [k_body_ret] | rw [k_body_normal]); simp only [resVals, resVal, ev, Env.get_put, ↓reduceIte, Nat.reduceEqDiff, Option.bind_some, Option.map_some, reduceCtorEq, ldv_true, ldv_false, lloadV_agg, partL, List.toList_toArray, cellsOf_set, cellsOf_new, rd_set, rd_new, List.length_cons, List.length_nil, Nat.reduceAdd, Nat.reduceLeDiff, Nat.le_refl, List.take_succ_cons, List.take_zero, List.drop_zero, Nat.add_eq_left, Nat.left_eq_add, List.getElem?_cons_zero, List.getElem?_cons_succ, aN9]; rw [retQ_some]; simp only [oneOr]
  simp only [guard_undef, List.contains_cons, List.contains_nil, Nat.reduceBEq, Int.cast_ofNat_Int, and_self, k_pend_g, pendV, go_sem, i64_wrap_id, Int.reduceAdd, Int.reduceSub, Int.reduceNeg, Int.reduceMul, Nat.reduceSub, Nat.reduceEqDiff, Nat.reduceAdd, Nat.reduceMul, Nat.reduceLeDiff, ↓reduceIte, reduceCtorEq, Int.reduceToNat, Int.reduceLT, Int.reduceLE, Int.reduceEq, hl]
  have h0 : Bs S0 (.slice a xs.length e) xs := Sl.keeps hL h hK0 fun _ _ => trivial
  refine cK_of (newIn _ xs S0 h0 hx (by omega)) ?_
  rintro r3 S3 hS3 hL3 ⟨i, y, rfl, hI, hK3, hi3, hx3⟩
  simp only [guard_undef, List.contains_cons, List.contains_nil, Nat.reduceBEq, Int.cast_ofNat_Int, and_self, k_pend_g, pendV, go_sem, i64_wrap_id, Int.reduceAdd, Int.reduceSub, Int.reduceNeg, Int.reduceMul, Nat.reduceSub, Nat.reduceEqDiff, Nat.reduceAdd, Nat.reduceMul, Nat.reduceLeDiff, ↓reduceIte, reduceCtorEq, Int.reduceToNat, Int.reduceLT, Int.reduceLE, Int.reduceEq]
  refine cK_of (get40 i y _ false S3 hI) ?_
  rintro r4 S4 hS4 hL4 hG
  have h3 : Bs S3 (.slice a xs.length e) xs := Sl.keeps hL0 h0 hK3 fun _ _ => trivial
  have hxd : ∀ d, Value.blkOf (.slice a xs.length e) = some d → d < S0.next := fun d hd => h0.lt hL0 hd
  have hzf : zeroS.cells = [.bool false, .int .i64 0, .int .i64 0, .int .i64 0, .int .i64 0, .int .i64 0, .int .i64 0, .int .i64 0, .int .i64 0, .int .i64 0, .int .i64 0, .int .i64 0, .int .i64 0, .int .i64 0, .int .i64 0, .int .i64 0, .int .i64 0, .int .i64 0, .int .i64 0, .int .i64 0, .int .i64 0, .int .i64 0, .int .i64 0, .int .i64 0, .int .i64 0, .int .i64 0, .int .i64 0, .int .i64 0, .int .i64 0, .int .i64 0, .int .i64 0, .int .i64 0, .int .i64 0, .int .i64 0, .int .i64 0, .int .i64 0, .int .i64 0, .int .i64 0, .int .i64 0, .int .i64 0, .int .i64 0, .int .i64 0, .bool false, .bool false, .int .i64 0, .bool false, .int .i64 0, .int .i64 0] := rfl
  unfold GetPost at hG
  rcases hG with hG | hG
  · obtain ⟨hg, hG⟩ := hG
    obtain ⟨hr4, hG⟩ := hG
    obtain ⟨y4, hG⟩ := hG
    obtain ⟨hI4, hs4⟩ := hG
    subst hr4
    have hok : (pSty (xs, false)).Ok := pSty_ok (t := (xs, false)) hx
    have hlen := hok.len
    have htk : (pSty (xs, false)).cells.take 48 = (pSty (xs, false)).cells := List.take_of_length_le (by omega)
    have h4 : Bs S4 (.slice a xs.length e) xs := Sl.keeps hL3 h3 hs4.keep fun d hd => by have := hxd d hd; omega
    simp only [guard_undef, List.contains_cons, List.contains_nil, Nat.reduceBEq, Int.cast_ofNat_Int, and_self, k_pend_g, pendV, go_sem, i64_wrap_id, Int.reduceAdd, Int.reduceSub, Int.reduceNeg, Int.reduceMul, Nat.reduceSub, Nat.reduceEqDiff, Nat.reduceAdd, Nat.reduceMul, Nat.reduceLeDiff, ↓reduceIte, reduceCtorEq, Int.reduceToNat, Int.reduceLT, Int.reduceLE, Int.reduceEq, hlen, ↓ow_all]
    (first | refine cK_keep [0,3,4,5,6] fun t1 hk' => ?_ | refine lK_keep [0,3,4,5,6] fun t1 hk' => ?_ | refine iK_keep [0,3,4,5,6] fun t1 hk' => ?_ | refine hK_keep [0,3,4,5,6] fun t1 hk' => ?_); simp only [guard_undef, List.contains_cons, List.contains_nil, Nat.reduceBEq, Int.cast_ofNat_Int, and_self, k_pend_g, pendV, go_sem, i64_wrap_id, Int.reduceAdd, Int.reduceSub, Int.reduceNeg, Int.reduceMul, Nat.reduceSub, Nat.reduceEqDiff, Nat.reduceAdd, Nat.reduceMul, Nat.reduceLeDiff, ↓reduceIte, reduceCtorEq, Int.reduceToNat, Int.reduceLT, Int.reduceLE, Int.reduceEq, keepL_cons, keepL_nil, slots_cons, slots_nil] at hk'; have hk := hk'; clear hk'
    refine cK_of (from41 _ (xs, false) S4 h4 hx) ?_
    rintro r5 S5 hS5 hL5 ⟨hK5, hF⟩
    rcases hF with ⟨_, x5, rfl, hx5, ix5⟩ | ⟨hng, _⟩
    rotate_left
    · exact absurd hg hng
    have hq := sty_same hok
    have hI5 := hI4.keeps hL4 hK5 trivial fun _ _ => trivial
    have hx5' : Bs S5 x5 (pT5 (xs, false)).1 := Sl.keeps hL4 hx5 hK5 fun _ _ => trivial
    obtain ⟨a5, e5, rfl⟩ := hx5.slice
    simp only [guard_undef, List.contains_cons, List.contains_nil, Nat.reduceBEq, Int.cast_ofNat_Int, and_self, k_pend_g, pendV, go_sem, i64_wrap_id, Int.reduceAdd, Int.reduceSub, Int.reduceNeg, Int.reduceMul, Nat.reduceSub, Nat.reduceEqDiff, Nat.reduceAdd, Nat.reduceMul, Nat.reduceLeDiff, ↓reduceIte, reduceCtorEq, Int.reduceToNat, Int.reduceLT, Int.reduceLE, Int.reduceEq, hk, hlen, htk, hq, ↓ow_all]
    refine cK_of (inBad i y4 _ _ S5 hI5) ?_
    rintro r6 S6 hS6 hL6 ⟨rfl, rfl⟩
    simp only [guard_undef, List.contains_cons, List.contains_nil, Nat.reduceBEq, Int.cast_ofNat_Int, and_self, k_pend_g, pendV, go_sem, i64_wrap_id, Int.reduceAdd, Int.reduceSub, Int.reduceNeg, Int.reduceMul, Nat.reduceSub, Nat.reduceEqDiff, Nat.reduceAdd, Nat.reduceMul, Nat.reduceLeDiff, ↓reduceIte, reduceCtorEq, Int.reduceToNat, Int.reduceLT, Int.reduceLE, Int.reduceEq, hk]
    refine cK_of (inLeft i y4 _ _ S6 hI5) ?_
    rintro r7 S7 hS7 hL7 ⟨rfl, rfl⟩
    obtain ⟨_, hbytes, _⟩ := taken (xs, false) hx hg.1 hg.2.1
    simp only at hbytes
    have hsl := styBytes_length _ hok
    have hrb := refBytes _ hok hg.2.2 S7
    obtain ⟨W, hW⟩ : ∃ W, W = styBytes (pSty (xs, false)) := ⟨_, rfl⟩
    obtain ⟨R, hR⟩ : ∃ R, R = (pT5 (xs, false)).1 := ⟨_, rfl⟩
    rw [← hW] at hbytes hsl hrb
    rw [← hR] at hbytes ⊢
    have hlx : xs.length = W.length + R.length := by
      have := congrArg List.length hbytes
      simpa using this
    have h7 : Bs S7 (.slice a xs.length e) xs := Sl.keeps hL4 h4 hK5 fun _ _ => trivial
    obtain ⟨d, o, e', hxd', he', hc'⟩ := h7.ne (by omega)
    cases hxd'
    have hwsub : IntKind.i64.wrap ((xs.length : Int) - R.length) = W.length := by rw [wrap64_id (by omega) (by omega)]; omega
    have hn0 : (0 : Int) ≤ (W.length : Nat) := by omega
    have hn1 : W.length ≤ xs.length := by omega
    simp only [guard_undef, List.contains_cons, List.contains_nil, Nat.reduceBEq, Int.cast_ofNat_Int, and_self, k_pend_g, pendV, go_sem, i64_wrap_id, Int.reduceAdd, Int.reduceSub, Int.reduceNeg, Int.reduceMul, Nat.reduceSub, Nat.reduceEqDiff, Nat.reduceAdd, Nat.reduceMul, Nat.reduceLeDiff, ↓reduceIte, reduceCtorEq, Int.reduceToNat, Int.reduceLT, Int.reduceLE, Int.reduceEq, hk, hlen, htk, hwsub, hn0, hn1, he', Int.toNat_natCast, Nat.zero_le, Nat.sub_zero, Nat.zero_mul]
    have hsl7 : Bs S7 (.slice (some ⟨d, o, none⟩) W.length e) W := by
      have hc0 := cellsOf_of_cells hc' (j := 0) (n := W.length) (by omega)
      have ht : xs.take W.length = W := by
        conv => lhs; rw [hbytes]
        exact List.take_left
      have ht2 : (bytesV xs).take W.length = bytesV W := by
        unfold bytesV
        rw [← List.map_take, ht]
      simp only [Nat.add_zero, List.drop_zero, ht2] at hc0
      exact .inr ⟨d, o, e, rfl, he', by rw [Nat.mul_one]; exact hc0⟩
    have hb57 := b2s_bs hsl7
    simp only [guard_undef, List.contains_cons, List.contains_nil, Nat.reduceBEq, Int.cast_ofNat_Int, and_self, k_pend_g, pendV, go_sem, i64_wrap_id, Int.reduceAdd, Int.reduceSub, Int.reduceNeg, Int.reduceMul, Nat.reduceSub, Nat.reduceEqDiff, Nat.reduceAdd, Nat.reduceMul, Nat.reduceLeDiff, ↓reduceIte, reduceCtorEq, Int.reduceToNat, Int.reduceLT, Int.reduceLE, Int.reduceEq, hk, hb57]
    refine cK_of hrb ?_
    rintro r8 S8 hS8 hL8 hB8
    have hb57' := b2s_bs (Sl.keeps hL7 hsl7 hB8.keep fun _ _ => trivial)
    have hb48 := b2s_bs hB8.own.sl
    simp only [guard_undef, List.contains_cons, List.contains_nil, Nat.reduceBEq, Int.cast_ofNat_Int, and_self, k_pend_g, pendV, go_sem, i64_wrap_id, Int.reduceAdd, Int.reduceSub, Int.reduceNeg, Int.reduceMul, Nat.reduceSub, Nat.reduceEqDiff, Nat.reduceAdd, Nat.reduceMul, Nat.reduceLeDiff, ↓reduceIte, reduceCtorEq, Int.reduceToNat, Int.reduceLT, Int.reduceLE, Int.reduceEq, hk, hb57', hb48]
    refine hQ _ _ _ ?_; (first | rw [k_body_ret] | rw [k_body_normal]); simp only [resVals, resVal, ev, Env.get_put, ↓reduceIte, Nat.reduceEqDiff, Option.bind_some, Option.map_some, reduceCtorEq, ldv_true, ldv_false, lloadV_agg, partL, List.toList_toArray, cellsOf_set, cellsOf_new, rd_set, rd_new, List.length_cons, List.length_nil, Nat.reduceAdd, Nat.reduceLeDiff, Nat.le_refl, List.take_succ_cons, List.take_zero, List.drop_zero, Nat.add_eq_left, Nat.left_eq_add, List.getElem?_cons_zero, List.getElem?_cons_succ, aN9, hk]; rw [retQ_some]; simp only [oneOr]
  · obtain ⟨hg, hr4, y4, hI4, hs4⟩ := hG
    subst hr4
    have h4 : Bs S4 (.slice a xs.length e) xs := Sl.keeps hL3 h3 hs4.keep fun d hd => by have := hxd d hd; omega
    have hq := sty_same zero_ok
    rw [hzf] at hq ⊢
    simp only [guard_undef, List.contains_cons, List.contains_nil, Nat.reduceBEq, Int.cast_ofNat_Int, and_self, k_pend_g, pendV, go_sem, i64_wrap_id, Int.reduceAdd, Int.reduceSub, Int.reduceNeg, Int.reduceMul, Nat.reduceSub, Nat.reduceEqDiff, Nat.reduceAdd, Nat.reduceMul, Nat.reduceLeDiff, ↓reduceIte, reduceCtorEq, Int.reduceToNat, Int.reduceLT, Int.reduceLE, Int.reduceEq, ↓ow_all]
    refine cK_of (from41 _ (xs, false) S4 h4 hx) ?_
    rintro r5 S5 hS5 hL5 ⟨hK5, hF⟩
    unfold FromPost at hF
    rcases hF with ⟨hg5, _⟩ | ⟨_, hr5⟩
    · exact absurd hg5 hg
    subst hr5
    rw [hzf]
    have hI5 := hI4.keeps hL4 hK5 trivial fun _ _ => trivial
    simp only [guard_undef, List.contains_cons, List.contains_nil, Nat.reduceBEq, Int.cast_ofNat_Int, and_self, k_pend_g, pendV, go_sem, i64_wrap_id, Int.reduceAdd, Int.reduceSub, Int.reduceNeg, Int.reduceMul, Nat.reduceSub, Nat.reduceEqDiff, Nat.reduceAdd, Nat.reduceMul, Nat.reduceLeDiff, ↓reduceIte, reduceCtorEq, Int.reduceToNat, Int.reduceLT, Int.reduceLE, Int.reduceEq, hq, ↓ow_all]
    refine cK_of (inBad i y4 _ _ S5 hI5) ?_
    rintro r6 S6 hS6 hL6 ⟨rfl, rfl⟩
    simp only [guard_undef, List.contains_cons, List.contains_nil, Nat.reduceBEq, Int.cast_ofNat_Int, and_self, k_pend_g, pendV, go_sem, i64_wrap_id, Int.reduceAdd, Int.reduceSub, Int.reduceNeg, Int.reduceMul, Nat.reduceSub, Nat.reduceEqDiff, Nat.reduceAdd, Nat.reduceMul, Nat.reduceLeDiff, ↓reduceIte, reduceCtorEq, Int.reduceToNat, Int.reduceLT, Int.reduceLE, Int.reduceEq]
    refine cK_of (inLeft i y4 _ _ S6 hI5) ?_
    rintro r7 S7 hS7 hL7 ⟨rfl, rfl⟩
    simp only [guard_undef, List.contains_cons, List.contains_nil, Nat.reduceBEq, Int.cast_ofNat_Int, and_self, k_pend_g, pendV, go_sem, i64_wrap_id, Int.reduceAdd, Int.reduceSub, Int.reduceNeg, Int.reduceMul, Nat.reduceSub, Nat.reduceEqDiff, Nat.reduceAdd, Nat.reduceMul, Nat.reduceLeDiff, ↓reduceIte, reduceCtorEq, Int.reduceToNat, Int.reduceLT, Int.reduceLE, Int.reduceEq]
    refine hQ _ _ _ ?_; (first | rw [k_body_ret] | rw [k_body_normal]); simp only [resVals, resVal, ev, Env.get_put, ↓reduceIte, Nat.reduceEqDiff, Option.bind_some, Option.map_some, reduceCtorEq, ldv_true, ldv_false, lloadV_agg, partL, List.toList_toArray, cellsOf_set, cellsOf_new, rd_set, rd_new, List.length_cons, List.length_nil, Nat.reduceAdd, Nat.reduceLeDiff, Nat.le_refl, List.take_succ_cons, List.take_zero, List.drop_zero, Nat.add_eq_left, Nat.left_eq_add, List.getElem?_cons_zero, List.getElem?_cons_succ, aN9]; rw [retQ_some]; simp only [oneOr]
end Go.Proofs.Ytbgnaeagdneikaa
namespace Go.Proofs.Ytbgnaeagdneikaa
open Go Go.Proofs.Ytbgnaeagdneikaa.Abs
theorem wfU16 {n : Int} (h : (Lit.int .u16 n).wf = true) : 0 ≤ n ∧ n < 65536 := by
  simp [Lit.wf, IntKind.min, IntKind.max, IntKind.signed, IntKind.bits] at h
  omega
theorem styleCuts' (cs : List Value) (a : Int) (S : St) (h : FlatOk styleSh cs) (w : (Lit.int .u16 a).wf = true) : ACalls Try.prog 8 [.agg cs.toArray, .int .u16 a] S fun r S' => r = .bool true := by
  obtain ⟨s, hs, rfl⟩ := sty_of h
  exact styleCuts s hs a (wfU16 w).1 (wfU16 w).2 S
theorem styleGets' (x : Value) (n : Nat) (cs : List Value) (S : St) (hx : Sl S 1 x n cs) (hr : RowsOk byteSh n cs) : ACalls Try.prog 9 [x] S fun r S' => r = .bool true := by
  obtain ⟨xs, rfl, hX, hxb⟩ := Bs.of_rows hx hr
  exact styleGets x xs S hX hxb
end Go.Proofs.Ytbgnaeagdneikaa
