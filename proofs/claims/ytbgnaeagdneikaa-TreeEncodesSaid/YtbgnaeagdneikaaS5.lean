/- The statement ScrollPuts, over the abstract memory. -/
import Derived.Test.YtbgnaeagdneikaaS4
import Derived.Test.YtbgnaeagdneikaaCoreAl
namespace Go.Proofs.Ytbgnaeagdneikaa
open Go Go.Proofs.Ytbgnaeagdneikaa.Abs
set_option linter.unusedSimpArgs false
set_option linter.unusedVariables false

/-- What the pieces of a slice are. -/
def pieces : List Value → List (Int × Int)
  | .int _ a :: .int _ b :: r => (a, b) :: pieces r
  | _ => []
def pieceSh : List Cel := [.int .u8, .int .i64]
def pieceCells (ps : List (Int × Int)) : List Value := ps.flatMap fun p => [.int .u8 p.1, .int .i64 p.2]
def InU8 (n : Int) : Prop := 0 ≤ n ∧ n < 256
def InI64 (n : Int) : Prop := -9223372036854775808 ≤ n ∧ n < 9223372036854775808
theorem wf8 {n : Int} (h : (Lit.int .u8 n).wf = true) : InU8 n := by
  simp [Lit.wf, IntKind.min, IntKind.max, IntKind.signed, IntKind.bits] at h
  exact ⟨h.1, by omega⟩
theorem wf64 {n : Int} (h : (Lit.int .i64 n).wf = true) : InI64 n := by
  simp [Lit.wf, IntKind.min, IntKind.max, IntKind.signed, IntKind.bits] at h
  exact ⟨h.1, by omega⟩

theorem pieces_ok : ∀ (n : Nat) (cs : List Value), RowsOk pieceSh n cs → ∃ ps : List (Int × Int), ps.length = n ∧ cs = pieceCells ps ∧ ∀ p ∈ ps, InU8 p.1 ∧ InI64 p.2 := by
  intro n
  induction n with
  | zero =>
    intro cs h
    have : cs = [] := List.eq_nil_of_length_eq_zero (by simpa using h.1)
    exact ⟨[], rfl, this, by simp⟩
  | succ n ih =>
    intro cs h
    have h0 := h.2 0 (by omega)
    have hl := h.1
    simp only [pieceSh, List.length_cons, List.length_nil] at hl
    match cs, hl with
    | a :: b :: r, hl =>
      simp [pieceSh, FlatOk, CelOk] at h0
      obtain ⟨⟨x, rfl, hx⟩, y, rfl, hy⟩ := h0
      have hr : RowsOk pieceSh n r := by
        refine ⟨by simp [pieceSh] at hl ⊢; omega, fun i hi => ?_⟩
        have := h.2 (i + 1) (by omega)
        rw [Nat.succ_mul] at this
        simpa [pieceSh] using this
      obtain ⟨ps, h1, rfl, h3⟩ := ih r hr
      refine ⟨(x, y) :: ps, by simp [h1], by simp [pieceCells], fun p hp => ?_⟩
      rcases List.mem_cons.1 hp with rfl | hp
      · exact ⟨wf8 hx, wf64 hy⟩
      · exact h3 p hp

theorem pieceCells_length (ps : List (Int × Int)) : (pieceCells ps).length = ps.length * 2 := by
  induction ps with
  | nil => rfl
  | cons p ps ih => simp [pieceCells] at ih ⊢; omega
theorem pieceCells_at (ps : List (Int × Int)) (k : Nat) (h : k < ps.length) : ((pieceCells ps).drop (k * 2)).take 2 = [.int .u8 ps[k].1, .int .i64 ps[k].2] := by
  induction ps generalizing k with
  | nil => simp at h
  | cons p ps ih =>
    cases k with
    | zero => simp [pieceCells]
    | succ k =>
      have := ih k (by simpa using h)
      rw [Nat.succ_mul]
      simpa [pieceCells] using this

def wants (ps : List (Int × Int)) : List Int := ps.flatMap fun p => pieceBytes p.1 p.2
theorem wants_take (ps : List (Int × Int)) (k : Nat) (h : k < ps.length) : wants (ps.take (k + 1)) = wants (ps.take k) ++ pieceBytes ps[k].1 ps[k].2 := by
  rw [List.take_succ_eq_append_getElem h]
  unfold wants
  rw [List.flatMap_append]
  simp only [List.flatMap_cons, List.flatMap_nil, List.append_nil]
theorem pieceBytes_length (a b : Int) : (pieceBytes a b).length ≤ 8 := by
  unfold pieceBytes
  split
  · simp
  · split <;> simp [be_length]
theorem wants_length (ps : List (Int × Int)) : (wants ps).length ≤ ps.length * 8 := by
  induction ps with
  | nil => simp [wants]
  | cons p ps ih =>
    have := pieceBytes_length p.1 p.2
    simp [wants] at ih ⊢
    omega

/-- The cells of one piece of a slice. -/
theorem piece_rd {S : St} {d o n : Nat} {ps : List (Int × Int)} (hc : cellsOf S d o (n * 2) = some (pieceCells ps)) (hn : ps.length = n) (k : Nat) (h : k < n) :
    rd S d (o + k * 2) = some (.int .u8 (ps[k]'(by omega)).1) ∧ rd S d (o + k * 2 + 1) = some (.int .i64 (ps[k]'(by omega)).2) ∧ cellsOf S d (o + k * 2) 2 = some [.int .u8 (ps[k]'(by omega)).1, .int .i64 (ps[k]'(by omega)).2] := by
  have h3 := cellsOf_of_cells hc (j := k * 2) (n := 2) (by omega)
  rw [pieceCells_at ps k (by omega)] at h3
  have e0 := rd_of_cells h3 (j := 0) (by omega)
  have e1 := rd_of_cells h3 (j := 1) (by omega)
  exact ⟨by simpa using e0, by simpa using e1, h3⟩

theorem OutStep.old {S0 S S' : St} {o : Nat} {d d' : Value} (h : OutStep S o d S' d') (hk : KeepsAll S0 S) (ho : S0.next ≤ o) (hd : Fresh S0 d) : KeepsAll S0 S' ∧ Fresh S0 d' := by
  refine ⟨hk.trans h.keep (fun i hi _ => ⟨by omega, fun e => ?_⟩), fun i hi => ?_⟩
  · have := hd i e; omega
  · rcases h.data i hi with h' | h'
    · exact hd i h'
    · exact Nat.le_trans hk.1 h'

theorem IsOut.keeps {S S' : St} {P : Nat → Prop} {o : Nat} {d : Value} {bs : List Int} (h : IsOut S o d bs) (hL : Live S) (hk : Keeps S S' P) (h1 : P o) (h2 : ∀ i, Value.blkOf d = some i → P i) : IsOut S' o d bs :=
  ⟨by rw [hk.2 o (hL _ _ h.1) h1]; exact h.1, Own.keeps hL h.2.1 hk h2, h.2.2⟩

/-- Apart: two slices of the call's own lie in blocks of their own. -/
def Apart (v u : Value) : Prop := ∀ i, Value.blkOf v = some i → Value.blkOf u ≠ some i

theorem scrollPuts (x : Value) (n : Nat) (cs : List Value) (S : St) (hx : Sl S 2 x n cs) (hr : RowsOk pieceSh n cs) : ACalls Try.prog 4 [x] S fun r S' => r = .bool true := by
  obtain ⟨ps, hpl, rfl, hps⟩ := pieces_ok n cs hr
  refine ACalls.run hmix Try.func4 cF4 kF4 rfl fun hL Q hQ => ?_
  obtain ⟨ax, ex, hxv⟩ := hx.slice
  simp only [go_sem, i64_wrap_id, Int.reduceAdd, Int.reduceSub, Int.reduceNeg, Int.reduceMul, Nat.reduceSub, Nat.reduceEqDiff, Nat.reduceAdd, Nat.reduceMul, Nat.reduceLeDiff, ↓reduceIte, reduceCtorEq, Int.reduceToNat, Int.reduceLT, Int.reduceLE, Int.reduceEq, aF4]
  refine cK_of (awake05 S) ?_
  rintro r1 S1 hS1 hL1 ⟨rfl, hk1⟩
  by_cases hn : n ≤ 200
  · have hgt : ¬ ((n : Int) > 200) := by omega
    simp only [go_sem, i64_wrap_id, Int.reduceAdd, Int.reduceSub, Int.reduceNeg, Int.reduceMul, Nat.reduceSub, Nat.reduceEqDiff, Nat.reduceAdd, Nat.reduceMul, Nat.reduceLeDiff, ↓reduceIte, reduceCtorEq, Int.reduceToNat, Int.reduceLT, Int.reduceLE, Int.reduceEq, hxv, hgt]
    rw [← hxv]
    have hkn0 := Keeps.of_new S1 ⟨false, [.slice none 0 0]⟩ fun _ => True
    refine lK_of (fun t' S' => ∃ k d w, k ≤ n ∧ t' 0 = x ∧ t' 3 = ptr S1.next ∧ t' 4 = w ∧ t' 17 = .int .i64 n ∧ t' 18 = .int .i64 k ∧ IsOut S' S1.next d (wants (ps.take k)) ∧ OwnBs S' w (wants (ps.take k)) ∧
        KeepsAll S1 S' ∧ Fresh S1 d ∧ Fresh S1 w ∧ Apart d w ∧ Value.blkOf w ≠ some S1.next) (fun t' _ => (n - RowKit.intOf (t' 18)).toNat) ?_ ?_
    · refine ⟨0, .slice none 0 0, .slice none 0 0, by omega, ?_, ?_, ?_, ?_, ?_, ⟨by simp [St.blk_new], .inl ⟨rfl, rfl, rfl⟩, by simp [Value.blkOf]⟩, .inl ⟨rfl, rfl, rfl⟩, hkn0, fun d hd => by simp [Value.blkOf] at hd, fun d hd => by simp [Value.blkOf] at hd, fun d hd => by simp [Value.blkOf] at hd, by simp [Value.blkOf]⟩
      · simp only [go_sem, i64_wrap_id, Int.reduceAdd, Int.reduceSub, Int.reduceNeg, Int.reduceMul, Nat.reduceSub, Nat.reduceEqDiff, Nat.reduceAdd, Nat.reduceMul, Nat.reduceLeDiff, ↓reduceIte, reduceCtorEq, Int.reduceToNat, Int.reduceLT, Int.reduceLE, Int.reduceEq]
      · simp only [go_sem, i64_wrap_id, Int.reduceAdd, Int.reduceSub, Int.reduceNeg, Int.reduceMul, Nat.reduceSub, Nat.reduceEqDiff, Nat.reduceAdd, Nat.reduceMul, Nat.reduceLeDiff, ↓reduceIte, reduceCtorEq, Int.reduceToNat, Int.reduceLT, Int.reduceLE, Int.reduceEq]
      · simp only [go_sem, i64_wrap_id, Int.reduceAdd, Int.reduceSub, Int.reduceNeg, Int.reduceMul, Nat.reduceSub, Nat.reduceEqDiff, Nat.reduceAdd, Nat.reduceMul, Nat.reduceLeDiff, ↓reduceIte, reduceCtorEq, Int.reduceToNat, Int.reduceLT, Int.reduceLE, Int.reduceEq]
      · simp only [go_sem, i64_wrap_id, Int.reduceAdd, Int.reduceSub, Int.reduceNeg, Int.reduceMul, Nat.reduceSub, Nat.reduceEqDiff, Nat.reduceAdd, Nat.reduceMul, Nat.reduceLeDiff, ↓reduceIte, reduceCtorEq, Int.reduceToNat, Int.reduceLT, Int.reduceLE, Int.reduceEq]
      · simp only [go_sem, i64_wrap_id, Int.reduceAdd, Int.reduceSub, Int.reduceNeg, Int.reduceMul, Nat.reduceSub, Nat.reduceEqDiff, Nat.reduceAdd, Nat.reduceMul, Nat.reduceLeDiff, ↓reduceIte, reduceCtorEq, Int.reduceToNat, Int.reduceLT, Int.reduceLE, Int.reduceEq]; rfl
    · rintro t1 S2 Q1 ⟨k, d, w, hk, h0, h3, h4, h17, h18, hO, hW, hK, hfd, hfw, hap, hwo⟩ hL2 hN hE
      have hxS : Sl S2 2 x n (pieceCells ps) := Sl.keeps hL1 (Sl.keeps hL hx hk1 fun _ _ => trivial) hK fun _ _ => trivial
      have hwl := wants_length (ps.take k)
      have hwl' : (ps.take k).length ≤ 200 := by simp; omega
      by_cases hkn : k = n
      · subst hkn
        have : ¬ ((k : Int) < k) := by omega
        simp only [go_sem, i64_wrap_id, Int.reduceAdd, Int.reduceSub, Int.reduceNeg, Int.reduceMul, Nat.reduceSub, Nat.reduceEqDiff, Nat.reduceAdd, Nat.reduceMul, Nat.reduceLeDiff, ↓reduceIte, reduceCtorEq, Int.reduceToNat, Int.reduceLT, Int.reduceLE, Int.reduceEq, h18, h17, this]
        refine hE _ _ _ (by simp) ?_
        rw [List.take_of_length_le (by omega)] at hO hW hwl hwl'
        simp only [go_sem, i64_wrap_id, Int.reduceAdd, Int.reduceSub, Int.reduceNeg, Int.reduceMul, Nat.reduceSub, Nat.reduceEqDiff, Nat.reduceAdd, Nat.reduceMul, Nat.reduceLeDiff, ↓reduceIte, reduceCtorEq, Int.reduceToNat, Int.reduceLT, Int.reduceLE, Int.reduceEq, h3]
        refine cK_of (outBytes _ d _ S2 hO (by omega)) ?_
        rintro b S3 hS3 hL3 ⟨hB, hK3, hF3⟩
        obtain ⟨ab, eb, hbe⟩ := hB.sl.slice
        simp only [go_sem, i64_wrap_id, Int.reduceAdd, Int.reduceSub, Int.reduceNeg, Int.reduceMul, Nat.reduceSub, Nat.reduceEqDiff, Nat.reduceAdd, Nat.reduceMul, Nat.reduceLeDiff, ↓reduceIte, reduceCtorEq, Int.reduceToNat, Int.reduceLT, Int.reduceLE, Int.reduceEq, hbe]
        rw [← hbe]
        refine lK_of (fun t' S' => ∃ (j : Nat) (ys : List Int), ys.length = (wants ps).length ∧ j ≤ ys.length ∧ t' 3 = ptr S1.next ∧ t' 4 = w ∧ t' 6 = b ∧ t' 60 = .int .i64 ys.length ∧ t' 61 = .int .i64 j ∧ OwnBs S' b ys ∧ Keeps S3 S' (fun i => Value.blkOf b ≠ some i))
          (fun t' _ => ((wants ps).length - RowKit.intOf (t' 61)).toNat) ?_ ?_
        · refine ⟨0, wants ps, rfl, Nat.zero_le _, ?_, ?_, ?_, ?_, ?_, hB, Keeps.refl _ _⟩
          · simp only [go_sem, i64_wrap_id, Int.reduceAdd, Int.reduceSub, Int.reduceNeg, Int.reduceMul, Nat.reduceSub, Nat.reduceEqDiff, Nat.reduceAdd, Nat.reduceMul, Nat.reduceLeDiff, ↓reduceIte, reduceCtorEq, Int.reduceToNat, Int.reduceLT, Int.reduceLE, Int.reduceEq, h3]
          · simp only [go_sem, i64_wrap_id, Int.reduceAdd, Int.reduceSub, Int.reduceNeg, Int.reduceMul, Nat.reduceSub, Nat.reduceEqDiff, Nat.reduceAdd, Nat.reduceMul, Nat.reduceLeDiff, ↓reduceIte, reduceCtorEq, Int.reduceToNat, Int.reduceLT, Int.reduceLE, Int.reduceEq, h4]
          · simp only [go_sem, i64_wrap_id, Int.reduceAdd, Int.reduceSub, Int.reduceNeg, Int.reduceMul, Nat.reduceSub, Nat.reduceEqDiff, Nat.reduceAdd, Nat.reduceMul, Nat.reduceLeDiff, ↓reduceIte, reduceCtorEq, Int.reduceToNat, Int.reduceLT, Int.reduceLE, Int.reduceEq]
          · simp only [go_sem, i64_wrap_id, Int.reduceAdd, Int.reduceSub, Int.reduceNeg, Int.reduceMul, Nat.reduceSub, Nat.reduceEqDiff, Nat.reduceAdd, Nat.reduceMul, Nat.reduceLeDiff, ↓reduceIte, reduceCtorEq, Int.reduceToNat, Int.reduceLT, Int.reduceLE, Int.reduceEq]
          · simp only [go_sem, i64_wrap_id, Int.reduceAdd, Int.reduceSub, Int.reduceNeg, Int.reduceMul, Nat.reduceSub, Nat.reduceEqDiff, Nat.reduceAdd, Nat.reduceMul, Nat.reduceLeDiff, ↓reduceIte, reduceCtorEq, Int.reduceToNat, Int.reduceLT, Int.reduceLE, Int.reduceEq]; rfl
        · rintro t3 S4 Q3 ⟨j, ys, hyl, hj, g3, g4, g6, g60, g61, hB4, hK4⟩ hL4 hN4 hE4
          by_cases hjn : j = ys.length
          · have : ¬ ((j : Int) < ys.length) := by omega
            simp only [go_sem, i64_wrap_id, Int.reduceAdd, Int.reduceSub, Int.reduceNeg, Int.reduceMul, Nat.reduceSub, Nat.reduceEqDiff, Nat.reduceAdd, Nat.reduceMul, Nat.reduceLeDiff, ↓reduceIte, reduceCtorEq, Int.reduceToNat, Int.reduceLT, Int.reduceLE, Int.reduceEq, g60, g61, this]
            refine hE4 _ _ _ (by simp) ?_
            have hbo : Value.blkOf b ≠ some S1.next := fun e => by
              have h1 := hF3 _ e
              have h2 := hL2 _ _ hO.1
              omega
            have hbd : ∀ i, Value.blkOf d = some i → Value.blkOf b ≠ some i := fun i hi e => by
              have h1 := hF3 _ e
              have h2 := hO.2.1.sl.lt hL2 hi
              omega
            have hbw : ∀ i, Value.blkOf w = some i → Value.blkOf b ≠ some i := fun i hi e => by
              have h1 := hF3 _ e
              have h2 := hW.sl.lt hL2 hi
              omega
            have hKK : Keeps S2 S4 (fun i => Value.blkOf b ≠ some i) := Keeps.trans (P := fun i => Value.blkOf b ≠ some i) hK3.all hK4 (fun i hi hp => hp)
            have hO4 : IsOut S4 S1.next d (wants ps) := hO.keeps hL2 hKK hbo hbd
            have hW4 : OwnBs S4 w (wants ps) := Own.keeps hL2 hW hKK hbw
            simp only [go_sem, i64_wrap_id, Int.reduceAdd, Int.reduceSub, Int.reduceNeg, Int.reduceMul, Nat.reduceSub, Nat.reduceEqDiff, Nat.reduceAdd, Nat.reduceMul, Nat.reduceLeDiff, ↓reduceIte, reduceCtorEq, Int.reduceToNat, Int.reduceLT, Int.reduceLE, Int.reduceEq, g3, g4]
            have hs := b2s_bs hW4.sl
            refine ⟨?_, ?_⟩
            · refine cK_of (outBytes _ d _ S4 hO4 (by omega)) ?_
              rintro c S5 hS5 hL5 ⟨hC, hK5, hF5⟩
              have hW5 : OwnBs S5 w (wants ps) := Own.keeps hL4 hW4 hK5 fun _ _ => trivial
              simp only [go_sem, i64_wrap_id, Int.reduceAdd, Int.reduceSub, Int.reduceNeg, Int.reduceMul, Nat.reduceSub, Nat.reduceEqDiff, Nat.reduceAdd, Nat.reduceMul, Nat.reduceLeDiff, ↓reduceIte, reduceCtorEq, Int.reduceToNat, Int.reduceLT, Int.reduceLE, Int.reduceEq, g3, g4, b2s_bs hC.sl, b2s_bs hW5.sl]
              refine ⟨?_, ?_⟩ <;>
              · refine hQ _ _ _ ?_; (first | rw [k_body_ret] | rw [k_body_normal]); simp only [resVals, resVal, ev, Env.get_put, ↓reduceIte, Nat.reduceEqDiff, Option.bind_some, Option.map_some, reduceCtorEq, ldv_true, ldv_false, lloadV_agg, partL, List.toList_toArray, cellsOf_set, cellsOf_new, rd_set, rd_new, List.length_cons, List.length_nil, Nat.reduceAdd, Nat.reduceLeDiff, Nat.le_refl, List.take_succ_cons, List.take_zero, List.drop_zero, Nat.add_eq_left, Nat.left_eq_add, List.getElem?_cons_zero, List.getElem?_cons_succ, aF4]; rw [retQ_some]; simp only [oneOr]
            · simp only [go_sem, i64_wrap_id, Int.reduceAdd, Int.reduceSub, Int.reduceNeg, Int.reduceMul, Nat.reduceSub, Nat.reduceEqDiff, Nat.reduceAdd, Nat.reduceMul, Nat.reduceLeDiff, ↓reduceIte, reduceCtorEq, Int.reduceToNat, Int.reduceLT, Int.reduceLE, Int.reduceEq, g3, g4, hs]
              refine cK_of (outBytes _ d _ S4 hO4 (by omega)) ?_
              rintro c S5 hS5 hL5 ⟨hC, hK5, hF5⟩
              simp only [go_sem, i64_wrap_id, Int.reduceAdd, Int.reduceSub, Int.reduceNeg, Int.reduceMul, Nat.reduceSub, Nat.reduceEqDiff, Nat.reduceAdd, Nat.reduceMul, Nat.reduceLeDiff, ↓reduceIte, reduceCtorEq, Int.reduceToNat, Int.reduceLT, Int.reduceLE, Int.reduceEq, g3, g4, b2s_bs hC.sl]
              refine hQ _ _ _ ?_; (first | rw [k_body_ret] | rw [k_body_normal]); simp only [resVals, resVal, ev, Env.get_put, ↓reduceIte, Nat.reduceEqDiff, Option.bind_some, Option.map_some, reduceCtorEq, ldv_true, ldv_false, lloadV_agg, partL, List.toList_toArray, cellsOf_set, cellsOf_new, rd_set, rd_new, List.length_cons, List.length_nil, Nat.reduceAdd, Nat.reduceLeDiff, Nat.le_refl, List.take_succ_cons, List.take_zero, List.drop_zero, Nat.add_eq_left, Nat.left_eq_add, List.getElem?_cons_zero, List.getElem?_cons_succ, aF4]; rw [retQ_some]; simp only [oneOr]
          · obtain ⟨db, hbe', hbb, hbl⟩ := hB4.ne (by omega)
            have hlt : ((j : Int) < ys.length) := by omega
            have hj0 : (0 : Int) ≤ j := by omega
            have hj1 : IntKind.i64.wrap ((j : Int) + 1) = j + 1 := wrap64_id (by omega) (by omega)
            have hcell : rd S4 db j = some (.int .u8 (ys[j]'(by omega))) := by
              rw [rd_of_blk hbb, bytesV_get, List.getElem?_eq_getElem (by omega)]; rfl
            have hle : j + 1 ≤ (bytesV ys).length := by rw [bytesV_length]; omega
            simp only [go_sem, i64_wrap_id, Int.reduceAdd, Int.reduceSub, Int.reduceNeg, Int.reduceMul, Nat.reduceSub, Nat.reduceEqDiff, Nat.reduceAdd, Nat.reduceMul, Nat.reduceLeDiff, ↓reduceIte, reduceCtorEq, Int.reduceToNat, Int.reduceLT, Int.reduceLE, Int.reduceEq, g3, g4, g6, g60, g61, hlt, hbe', hj0, Int.toNat_natCast, hcell, hbb, hle, hj1, Nat.mul_one]
            refine hN4 _ _ ⟨j + 1, ys.set j (IntKind.u8.wrap ((ys[j]'(by omega)) + 1)), by simpa using hyl, by simp; omega, ?_, ?_, ?_, ?_, ?_, .inr ⟨db, by simpa using hbe', ?_, ?_⟩, ?_⟩ ?_
            · simp only [go_sem, i64_wrap_id, Int.reduceAdd, Int.reduceSub, Int.reduceNeg, Int.reduceMul, Nat.reduceSub, Nat.reduceEqDiff, Nat.reduceAdd, Nat.reduceMul, Nat.reduceLeDiff, ↓reduceIte, reduceCtorEq, Int.reduceToNat, Int.reduceLT, Int.reduceLE, Int.reduceEq, g3]
            · simp only [go_sem, i64_wrap_id, Int.reduceAdd, Int.reduceSub, Int.reduceNeg, Int.reduceMul, Nat.reduceSub, Nat.reduceEqDiff, Nat.reduceAdd, Nat.reduceMul, Nat.reduceLeDiff, ↓reduceIte, reduceCtorEq, Int.reduceToNat, Int.reduceLT, Int.reduceLE, Int.reduceEq, g4]
            · simp only [go_sem, i64_wrap_id, Int.reduceAdd, Int.reduceSub, Int.reduceNeg, Int.reduceMul, Nat.reduceSub, Nat.reduceEqDiff, Nat.reduceAdd, Nat.reduceMul, Nat.reduceLeDiff, ↓reduceIte, reduceCtorEq, Int.reduceToNat, Int.reduceLT, Int.reduceLE, Int.reduceEq, g6]
            · simp only [go_sem, i64_wrap_id, Int.reduceAdd, Int.reduceSub, Int.reduceNeg, Int.reduceMul, Nat.reduceSub, Nat.reduceEqDiff, Nat.reduceAdd, Nat.reduceMul, Nat.reduceLeDiff, ↓reduceIte, reduceCtorEq, Int.reduceToNat, Int.reduceLT, Int.reduceLE, Int.reduceEq, g60]; simp
            · simp only [go_sem, i64_wrap_id, Int.reduceAdd, Int.reduceSub, Int.reduceNeg, Int.reduceMul, Nat.reduceSub, Nat.reduceEqDiff, Nat.reduceAdd, Nat.reduceMul, Nat.reduceLeDiff, ↓reduceIte, reduceCtorEq, Int.reduceToNat, Int.reduceLT, Int.reduceLE, Int.reduceEq]; congr 1
            · rw [St.blk_set, if_pos rfl]
              simp [bytesV, List.map_set]
            · simp [bytesV]
            · exact hK4.set (fun i hi hp e => hp (by rw [hbe', e]; rfl)) _
            · simp only [go_sem, i64_wrap_id, Int.reduceAdd, Int.reduceSub, Int.reduceNeg, Int.reduceMul, Nat.reduceSub, Nat.reduceEqDiff, Nat.reduceAdd, Nat.reduceMul, Nat.reduceLeDiff, ↓reduceIte, reduceCtorEq, Int.reduceToNat, Int.reduceLT, Int.reduceLE, Int.reduceEq, g61, RowKit.intOf]
              omega
      · obtain ⟨dx, ox, ex, hxe, _, hc⟩ := hxS.ne (by omega)
        have hlt : ((k : Int) < n) := by omega
        have hk0 : (0 : Int) ≤ k := by omega
        have hk1 : IntKind.i64.wrap ((k : Int) + 1) = k + 1 := wrap64_id (by omega) (by omega)
        obtain ⟨e0, e1, e2⟩ := piece_rd hc hpl k (by omega)
        have hp := hps (ps[k]'(by omega)) (List.getElem_mem _)
        simp only [go_sem, i64_wrap_id, Int.reduceAdd, Int.reduceSub, Int.reduceNeg, Int.reduceMul, Nat.reduceSub, Nat.reduceEqDiff, Nat.reduceAdd, Nat.reduceMul, Nat.reduceLeDiff, ↓reduceIte, reduceCtorEq, Int.reduceToNat, Int.reduceLT, Int.reduceLE, Int.reduceEq, h0, h3, h4, h17, h18, hlt, hxe, hk0, Int.toNat_natCast, e0]
        refine iK_cut (fun t2 S3 => Live S3 ∧ ∃ d', t2 0 = x ∧ t2 3 = ptr S1.next ∧ t2 4 = w ∧ t2 5 = .int .i64 k ∧ t2 17 = .int .i64 n ∧ t2 18 = .int .i64 k ∧ IsOut S3 S1.next d' (wants (ps.take (k + 1))) ∧ OutStep S2 S1.next d S3 d') ?_ ?_
        · intro Q2 hN2 hE2
          refine iK_split (fun hz => ?_) (fun hz => ?_)
          · have hz := eq_of_beq hz
            simp only [go_sem, i64_wrap_id, Int.reduceAdd, Int.reduceSub, Int.reduceNeg, Int.reduceMul, Nat.reduceSub, Nat.reduceEqDiff, Nat.reduceAdd, Nat.reduceMul, Nat.reduceLeDiff, ↓reduceIte, reduceCtorEq, Int.reduceToNat, Int.reduceLT, Int.reduceLE, Int.reduceEq, h0, h3, h4, h17, h18, hlt, hxe, hk0, Int.toNat_natCast, e1, wrap8]
            refine cK_of (outByte _ d _ _ S2 hO (by omega) (by omega) (by omega)) ?_
            rintro r3 S3 hS3 hL3 ⟨rfl, d', hO3, hs3⟩
            simp only [go_sem, i64_wrap_id, Int.reduceAdd, Int.reduceSub, Int.reduceNeg, Int.reduceMul, Nat.reduceSub, Nat.reduceEqDiff, Nat.reduceAdd, Nat.reduceMul, Nat.reduceLeDiff, ↓reduceIte, reduceCtorEq, Int.reduceToNat, Int.reduceLT, Int.reduceLE, Int.reduceEq]
            refine hN2 _ _ ⟨hL3, d', ?_, ?_, ?_, ?_, ?_, ?_, ?_, hs3⟩
            · simp only [go_sem, i64_wrap_id, Int.reduceAdd, Int.reduceSub, Int.reduceNeg, Int.reduceMul, Nat.reduceSub, Nat.reduceEqDiff, Nat.reduceAdd, Nat.reduceMul, Nat.reduceLeDiff, ↓reduceIte, reduceCtorEq, Int.reduceToNat, Int.reduceLT, Int.reduceLE, Int.reduceEq, h0]
            · simp only [go_sem, i64_wrap_id, Int.reduceAdd, Int.reduceSub, Int.reduceNeg, Int.reduceMul, Nat.reduceSub, Nat.reduceEqDiff, Nat.reduceAdd, Nat.reduceMul, Nat.reduceLeDiff, ↓reduceIte, reduceCtorEq, Int.reduceToNat, Int.reduceLT, Int.reduceLE, Int.reduceEq, h3]
            · simp only [go_sem, i64_wrap_id, Int.reduceAdd, Int.reduceSub, Int.reduceNeg, Int.reduceMul, Nat.reduceSub, Nat.reduceEqDiff, Nat.reduceAdd, Nat.reduceMul, Nat.reduceLeDiff, ↓reduceIte, reduceCtorEq, Int.reduceToNat, Int.reduceLT, Int.reduceLE, Int.reduceEq, h4]
            · simp only [go_sem, i64_wrap_id, Int.reduceAdd, Int.reduceSub, Int.reduceNeg, Int.reduceMul, Nat.reduceSub, Nat.reduceEqDiff, Nat.reduceAdd, Nat.reduceMul, Nat.reduceLeDiff, ↓reduceIte, reduceCtorEq, Int.reduceToNat, Int.reduceLT, Int.reduceLE, Int.reduceEq]
            · simp only [go_sem, i64_wrap_id, Int.reduceAdd, Int.reduceSub, Int.reduceNeg, Int.reduceMul, Nat.reduceSub, Nat.reduceEqDiff, Nat.reduceAdd, Nat.reduceMul, Nat.reduceLeDiff, ↓reduceIte, reduceCtorEq, Int.reduceToNat, Int.reduceLT, Int.reduceLE, Int.reduceEq, h17]
            · simp only [go_sem, i64_wrap_id, Int.reduceAdd, Int.reduceSub, Int.reduceNeg, Int.reduceMul, Nat.reduceSub, Nat.reduceEqDiff, Nat.reduceAdd, Nat.reduceMul, Nat.reduceLeDiff, ↓reduceIte, reduceCtorEq, Int.reduceToNat, Int.reduceLT, Int.reduceLE, Int.reduceEq, h18]
            · rw [wants_take ps k (by omega), show pieceBytes (ps[k]'(by omega)).1 (ps[k]'(by omega)).2 = [(ps[k]'(by omega)).2 % 256] by rw [pieceBytes, if_pos hz]]
              exact hO3
          · have hz : ¬ (ps[k]'(by omega)).1 = 0 := by simpa using hz
            simp only [go_sem, i64_wrap_id, Int.reduceAdd, Int.reduceSub, Int.reduceNeg, Int.reduceMul, Nat.reduceSub, Nat.reduceEqDiff, Nat.reduceAdd, Nat.reduceMul, Nat.reduceLeDiff, ↓reduceIte, reduceCtorEq, Int.reduceToNat, Int.reduceLT, Int.reduceLE, Int.reduceEq]
            refine iK_split (fun hz1 => ?_) (fun hz1 => ?_)
            · have hz1 := eq_of_beq hz1
              simp only [go_sem, i64_wrap_id, Int.reduceAdd, Int.reduceSub, Int.reduceNeg, Int.reduceMul, Nat.reduceSub, Nat.reduceEqDiff, Nat.reduceAdd, Nat.reduceMul, Nat.reduceLeDiff, ↓reduceIte, reduceCtorEq, Int.reduceToNat, Int.reduceLT, Int.reduceLE, Int.reduceEq, h0, h3, h4, h17, h18, hlt, hxe, hk0, Int.toNat_natCast, e1, wrap32u]
              refine cK_of (outFour _ d _ _ S2 hO (by omega) (by omega) (by omega)) ?_
              rintro r3 S3 hS3 hL3 ⟨rfl, d', hO3, hs3⟩
              simp only [go_sem, i64_wrap_id, Int.reduceAdd, Int.reduceSub, Int.reduceNeg, Int.reduceMul, Nat.reduceSub, Nat.reduceEqDiff, Nat.reduceAdd, Nat.reduceMul, Nat.reduceLeDiff, ↓reduceIte, reduceCtorEq, Int.reduceToNat, Int.reduceLT, Int.reduceLE, Int.reduceEq]
              refine hN2 _ _ ⟨hL3, d', ?_, ?_, ?_, ?_, ?_, ?_, ?_, hs3⟩
              · simp only [go_sem, i64_wrap_id, Int.reduceAdd, Int.reduceSub, Int.reduceNeg, Int.reduceMul, Nat.reduceSub, Nat.reduceEqDiff, Nat.reduceAdd, Nat.reduceMul, Nat.reduceLeDiff, ↓reduceIte, reduceCtorEq, Int.reduceToNat, Int.reduceLT, Int.reduceLE, Int.reduceEq, h0]
              · simp only [go_sem, i64_wrap_id, Int.reduceAdd, Int.reduceSub, Int.reduceNeg, Int.reduceMul, Nat.reduceSub, Nat.reduceEqDiff, Nat.reduceAdd, Nat.reduceMul, Nat.reduceLeDiff, ↓reduceIte, reduceCtorEq, Int.reduceToNat, Int.reduceLT, Int.reduceLE, Int.reduceEq, h3]
              · simp only [go_sem, i64_wrap_id, Int.reduceAdd, Int.reduceSub, Int.reduceNeg, Int.reduceMul, Nat.reduceSub, Nat.reduceEqDiff, Nat.reduceAdd, Nat.reduceMul, Nat.reduceLeDiff, ↓reduceIte, reduceCtorEq, Int.reduceToNat, Int.reduceLT, Int.reduceLE, Int.reduceEq, h4]
              · simp only [go_sem, i64_wrap_id, Int.reduceAdd, Int.reduceSub, Int.reduceNeg, Int.reduceMul, Nat.reduceSub, Nat.reduceEqDiff, Nat.reduceAdd, Nat.reduceMul, Nat.reduceLeDiff, ↓reduceIte, reduceCtorEq, Int.reduceToNat, Int.reduceLT, Int.reduceLE, Int.reduceEq]
              · simp only [go_sem, i64_wrap_id, Int.reduceAdd, Int.reduceSub, Int.reduceNeg, Int.reduceMul, Nat.reduceSub, Nat.reduceEqDiff, Nat.reduceAdd, Nat.reduceMul, Nat.reduceLeDiff, ↓reduceIte, reduceCtorEq, Int.reduceToNat, Int.reduceLT, Int.reduceLE, Int.reduceEq, h17]
              · simp only [go_sem, i64_wrap_id, Int.reduceAdd, Int.reduceSub, Int.reduceNeg, Int.reduceMul, Nat.reduceSub, Nat.reduceEqDiff, Nat.reduceAdd, Nat.reduceMul, Nat.reduceLeDiff, ↓reduceIte, reduceCtorEq, Int.reduceToNat, Int.reduceLT, Int.reduceLE, Int.reduceEq, h18]
              · rw [wants_take ps k (by omega), show pieceBytes (ps[k]'(by omega)).1 (ps[k]'(by omega)).2 = be ((ps[k]'(by omega)).2 % 4294967296) 4 by rw [pieceBytes, if_neg hz, if_pos hz1]]
                exact hO3
            · have hz1 : ¬ (ps[k]'(by omega)).1 = 1 := by simpa using hz1
              simp only [go_sem, i64_wrap_id, Int.reduceAdd, Int.reduceSub, Int.reduceNeg, Int.reduceMul, Nat.reduceSub, Nat.reduceEqDiff, Nat.reduceAdd, Nat.reduceMul, Nat.reduceLeDiff, ↓reduceIte, reduceCtorEq, Int.reduceToNat, Int.reduceLT, Int.reduceLE, Int.reduceEq, h0, h3, h4, h17, h18, hlt, hxe, hk0, Int.toNat_natCast, e1]
              refine cK_of (outEight _ d _ _ S2 hO (by omega)) ?_
              rintro r3 S3 hS3 hL3 ⟨rfl, d', hO3, hs3⟩
              simp only [go_sem, i64_wrap_id, Int.reduceAdd, Int.reduceSub, Int.reduceNeg, Int.reduceMul, Nat.reduceSub, Nat.reduceEqDiff, Nat.reduceAdd, Nat.reduceMul, Nat.reduceLeDiff, ↓reduceIte, reduceCtorEq, Int.reduceToNat, Int.reduceLT, Int.reduceLE, Int.reduceEq]
              refine hN2 _ _ ⟨hL3, d', ?_, ?_, ?_, ?_, ?_, ?_, ?_, hs3⟩
              · simp only [go_sem, i64_wrap_id, Int.reduceAdd, Int.reduceSub, Int.reduceNeg, Int.reduceMul, Nat.reduceSub, Nat.reduceEqDiff, Nat.reduceAdd, Nat.reduceMul, Nat.reduceLeDiff, ↓reduceIte, reduceCtorEq, Int.reduceToNat, Int.reduceLT, Int.reduceLE, Int.reduceEq, h0]
              · simp only [go_sem, i64_wrap_id, Int.reduceAdd, Int.reduceSub, Int.reduceNeg, Int.reduceMul, Nat.reduceSub, Nat.reduceEqDiff, Nat.reduceAdd, Nat.reduceMul, Nat.reduceLeDiff, ↓reduceIte, reduceCtorEq, Int.reduceToNat, Int.reduceLT, Int.reduceLE, Int.reduceEq, h3]
              · simp only [go_sem, i64_wrap_id, Int.reduceAdd, Int.reduceSub, Int.reduceNeg, Int.reduceMul, Nat.reduceSub, Nat.reduceEqDiff, Nat.reduceAdd, Nat.reduceMul, Nat.reduceLeDiff, ↓reduceIte, reduceCtorEq, Int.reduceToNat, Int.reduceLT, Int.reduceLE, Int.reduceEq, h4]
              · simp only [go_sem, i64_wrap_id, Int.reduceAdd, Int.reduceSub, Int.reduceNeg, Int.reduceMul, Nat.reduceSub, Nat.reduceEqDiff, Nat.reduceAdd, Nat.reduceMul, Nat.reduceLeDiff, ↓reduceIte, reduceCtorEq, Int.reduceToNat, Int.reduceLT, Int.reduceLE, Int.reduceEq]
              · simp only [go_sem, i64_wrap_id, Int.reduceAdd, Int.reduceSub, Int.reduceNeg, Int.reduceMul, Nat.reduceSub, Nat.reduceEqDiff, Nat.reduceAdd, Nat.reduceMul, Nat.reduceLeDiff, ↓reduceIte, reduceCtorEq, Int.reduceToNat, Int.reduceLT, Int.reduceLE, Int.reduceEq, h17]
              · simp only [go_sem, i64_wrap_id, Int.reduceAdd, Int.reduceSub, Int.reduceNeg, Int.reduceMul, Nat.reduceSub, Nat.reduceEqDiff, Nat.reduceAdd, Nat.reduceMul, Nat.reduceLeDiff, ↓reduceIte, reduceCtorEq, Int.reduceToNat, Int.reduceLT, Int.reduceLE, Int.reduceEq, h18]
              · rw [wants_take ps k (by omega), show pieceBytes (ps[k]'(by omega)).1 (ps[k]'(by omega)).2 = be ((ps[k]'(by omega)).2 % 18446744073709551616) 8 by rw [pieceBytes, if_neg hz, if_neg hz1]]
                exact hO3
        · rintro t2 S3 ⟨hL3, d', g0, g3, g4, g5, g17, g18, hO3, hs3⟩
          obtain ⟨hK3, hfd3⟩ := hs3.old hK (Nat.le_refl _) hfd
          have e2' : cellsOf S3 dx (ox + k * 2) 2 = some [.int .u8 (ps[k]'(by omega)).1, .int .i64 (ps[k]'(by omega)).2] := by
            have hdx : dx < S1.next := by
              have := Sl.lt hL hx (d := dx) (by rw [hxe]; rfl)
              omega
            rw [cellsOf_congr (S := S2) (by rw [hK3.2 dx hdx trivial, hK.2 dx hdx trivial])]
            exact e2
          have hap3 : Apart d' w := by
            intro i hi e
            rcases hs3.data i hi with h | h
            · exact hap i h e
            · have := hW.sl.lt hL2 e
              omega
          have hW3 : OwnBs S3 w (wants (ps.take k)) := Own.keeps hL2 hW hs3.keep fun i hi => ⟨fun e => hwo (e ▸ hi), fun e => hap i e hi⟩
          simp only [go_sem, i64_wrap_id, Int.reduceAdd, Int.reduceSub, Int.reduceNeg, Int.reduceMul, Nat.reduceSub, Nat.reduceEqDiff, Nat.reduceAdd, Nat.reduceMul, Nat.reduceLeDiff, ↓reduceIte, reduceCtorEq, Int.reduceToNat, Int.reduceLT, Int.reduceLE, Int.reduceEq, g0, g3, g4, g5, g17, g18, hlt, hxe, hk0, Int.toNat_natCast, e2']
          refine cK_of (refPiece _ _ S3) ?_
          rintro r4 S4 hS4 hL4 ⟨hP, hK4, hF4⟩
          simp only [go_sem, i64_wrap_id, Int.reduceAdd, Int.reduceSub, Int.reduceNeg, Int.reduceMul, Nat.reduceSub, Nat.reduceEqDiff, Nat.reduceAdd, Nat.reduceMul, Nat.reduceLeDiff, ↓reduceIte, reduceCtorEq, Int.reduceToNat, Int.reduceLT, Int.reduceLE, Int.reduceEq, g0, g3, g4, g5, g17, g18]
          have hW4 : OwnBs S4 w (wants (ps.take k)) := Own.keeps hL3 hW3 hK4 fun i hi => trivial
          have hpb := pieceBytes_length (ps[k]'(by omega)).1 (ps[k]'(by omega)).2
          refine hK_of (append_bs hW4 hP.sl (by omega)) ?_
          rintro v5 S5 ⟨hW5, hK5, hd5⟩
          simp only [go_sem, i64_wrap_id, Int.reduceAdd, Int.reduceSub, Int.reduceNeg, Int.reduceMul, Nat.reduceSub, Nat.reduceEqDiff, Nat.reduceAdd, Nat.reduceMul, Nat.reduceLeDiff, ↓reduceIte, reduceCtorEq, Int.reduceToNat, Int.reduceLT, Int.reduceLE, Int.reduceEq, g0, g3, g4, g5, g17, g18, hk1]
          have hK4' : KeepsAll S1 S4 := hK3.trans hK4 fun _ _ _ => trivial
          refine hN _ _ ⟨k + 1, d', v5, by omega, ?_, ?_, ?_, ?_, ?_, ?_, ?_, ?_, hfd3, ?_, ?_, ?_⟩ ?_
          · simp only [go_sem, i64_wrap_id, Int.reduceAdd, Int.reduceSub, Int.reduceNeg, Int.reduceMul, Nat.reduceSub, Nat.reduceEqDiff, Nat.reduceAdd, Nat.reduceMul, Nat.reduceLeDiff, ↓reduceIte, reduceCtorEq, Int.reduceToNat, Int.reduceLT, Int.reduceLE, Int.reduceEq, g0]
          · simp only [go_sem, i64_wrap_id, Int.reduceAdd, Int.reduceSub, Int.reduceNeg, Int.reduceMul, Nat.reduceSub, Nat.reduceEqDiff, Nat.reduceAdd, Nat.reduceMul, Nat.reduceLeDiff, ↓reduceIte, reduceCtorEq, Int.reduceToNat, Int.reduceLT, Int.reduceLE, Int.reduceEq, g3]
          · simp only [go_sem, i64_wrap_id, Int.reduceAdd, Int.reduceSub, Int.reduceNeg, Int.reduceMul, Nat.reduceSub, Nat.reduceEqDiff, Nat.reduceAdd, Nat.reduceMul, Nat.reduceLeDiff, ↓reduceIte, reduceCtorEq, Int.reduceToNat, Int.reduceLT, Int.reduceLE, Int.reduceEq]
          · simp only [go_sem, i64_wrap_id, Int.reduceAdd, Int.reduceSub, Int.reduceNeg, Int.reduceMul, Nat.reduceSub, Nat.reduceEqDiff, Nat.reduceAdd, Nat.reduceMul, Nat.reduceLeDiff, ↓reduceIte, reduceCtorEq, Int.reduceToNat, Int.reduceLT, Int.reduceLE, Int.reduceEq, g17]
          · simp only [go_sem, i64_wrap_id, Int.reduceAdd, Int.reduceSub, Int.reduceNeg, Int.reduceMul, Nat.reduceSub, Nat.reduceEqDiff, Nat.reduceAdd, Nat.reduceMul, Nat.reduceLeDiff, ↓reduceIte, reduceCtorEq, Int.reduceToNat, Int.reduceLT, Int.reduceLE, Int.reduceEq]; congr 1
          · exact hO3.keeps hL3 (Keeps.trans (P := fun i => Value.blkOf w ≠ some i) hK4.all hK5 (fun i hi hp => hp)) hwo hap3
          · rw [wants_take ps k (by omega)]; exact hW5
          · refine hK4'.trans hK5 (fun i hi _ e => ?_)
            have := hfw i e
            omega
          · intro i hi
            rcases hd5 i hi with h | h
            · exact hfw i h
            · exact Nat.le_trans hK4'.1 h
          · intro i hi e
            have h1 := hO3.2.1.sl.lt hL3 hi
            rcases hd5 i e with h | h
            · exact hap3 i hi h
            · have := hK4.1
              omega
          · intro e
            have h1 := hL3 _ _ hO3.1
            rcases hd5 _ e with h | h
            · exact hwo h
            · have := hK4.1
              omega
          · simp only [go_sem, i64_wrap_id, Int.reduceAdd, Int.reduceSub, Int.reduceNeg, Int.reduceMul, Nat.reduceSub, Nat.reduceEqDiff, Nat.reduceAdd, Nat.reduceMul, Nat.reduceLeDiff, ↓reduceIte, reduceCtorEq, Int.reduceToNat, Int.reduceLT, Int.reduceLE, Int.reduceEq, h18, RowKit.intOf]
            omega
  · have hgt : ((n : Int) > 200) := by omega
    simp only [go_sem, i64_wrap_id, Int.reduceAdd, Int.reduceSub, Int.reduceNeg, Int.reduceMul, Nat.reduceSub, Nat.reduceEqDiff, Nat.reduceAdd, Nat.reduceMul, Nat.reduceLeDiff, ↓reduceIte, reduceCtorEq, Int.reduceToNat, Int.reduceLT, Int.reduceLE, Int.reduceEq, hxv, hgt]
    refine cK_of (awake05 S1) ?_
    rintro r1 S1 hS1 hL1 ⟨rfl, hk1⟩
    simp only [go_sem, i64_wrap_id, Int.reduceAdd, Int.reduceSub, Int.reduceNeg, Int.reduceMul, Nat.reduceSub, Nat.reduceEqDiff, Nat.reduceAdd, Nat.reduceMul, Nat.reduceLeDiff, ↓reduceIte, reduceCtorEq, Int.reduceToNat, Int.reduceLT, Int.reduceLE, Int.reduceEq]
    refine hQ _ _ _ ?_; (first | rw [k_body_ret] | rw [k_body_normal]); simp only [resVals, resVal, ev, Env.get_put, ↓reduceIte, Nat.reduceEqDiff, Option.bind_some, Option.map_some, reduceCtorEq, ldv_true, ldv_false, lloadV_agg, partL, List.toList_toArray, cellsOf_set, cellsOf_new, rd_set, rd_new, List.length_cons, List.length_nil, Nat.reduceAdd, Nat.reduceLeDiff, Nat.le_refl, List.take_succ_cons, List.take_zero, List.drop_zero, Nat.add_eq_left, Nat.left_eq_add, List.getElem?_cons_zero, List.getElem?_cons_succ, aF4]; rw [retQ_some]; simp only [oneOr]
end Go.Proofs.Ytbgnaeagdneikaa
