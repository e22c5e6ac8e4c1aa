/- The law TopGround: a ground that is painted last, over all the view, is all that is left. -/
import Derived.Test.YtegaklgjcicnfaaGreatQ0
import Derived.Test.YtegaklgjcicnfaaGreatKD
set_option linter.unusedSimpArgs false
set_option linter.unusedVariables false
namespace Go.Proofs.YtegaklgjcicnfaaGreat
open Go Go.Proofs.YtegaklgjcicnfaaGreat.Abs
def stpL (l : List Nd) (j : Nat) : List Nd := (l.take j).map strip ++ l.drop j
theorem stpL_len {l : List Nd} {j : Nat} (h : j ≤ l.length) : (stpL l j).length = l.length := by unfold stpL; simp; omega
theorem stpL_at {l : List Nd} {j : Nat} (h : j < l.length) : stpL l j = (l.take j).map strip ++ l[j] :: l.drop (j + 1) := by unfold stpL; rw [List.drop_eq_getElem_cons h]
theorem stpL_succ {l : List Nd} {j : Nat} (h : j < l.length) : stpL l (j + 1) = (l.take j).map strip ++ strip l[j] :: l.drop (j + 1) := by
 unfold stpL
 rw [List.take_succ_eq_append_getElem h, List.map_append, List.append_assoc]; rfl
theorem stpL_ok {l : List Nd} (h : ∀ x ∈ l, x.Ok) (j : Nat) : ∀ x ∈ stpL l j, x.Ok := fun x hx => by
 unfold stpL at hx
 rcases List.mem_append.1 hx with hx | hx
 ·obtain ⟨y, hy, rfl⟩ := List.mem_map.1 hx
  exact strip_ok (h y (List.mem_of_mem_take hy))
 ·exact h x (List.mem_of_mem_drop hx)
theorem strip_cells {x : Nd} (h : x.Ok) : (x.cells.set 43 (.bool false)).set 44 (.int .i64 0) = (strip x).cells := by
 obtain ⟨A, hA, hl⟩ : ∃ A, A = [Value.bool x.s.shown, .int .i64 x.s.pos] ++ lenCells x.s.lens ++ x.s.border.map (Value.int .i64) ∧ A.length = 42 := by
  refine ⟨_, rfl, ?_⟩
  have h1 := h.s.c.len
  unfold Sty.cells at h1
  rw [List.length_append] at h1
  simp only [List.length_cons, List.length_nil] at h1
  omega
 have e1 : x.cells = A ++ [.bool x.s.rtl, .bool x.s.hasZ, .int .i64 x.s.z, .bool x.s.clip, .int .i64 x.s.back, .int .i64 x.s.line, .int .i64 x.p] := by
  unfold Nd.cells Sty.cells
  rw [hA, List.append_assoc (_ ++ _ ++ _)]; rfl
 have e2 : (strip x).cells = A ++ [.bool x.s.rtl, .bool false, .int .i64 0, .bool x.s.clip, .int .i64 x.s.back, .int .i64 x.s.line, .int .i64 x.p] := by
  unfold Nd.cells Sty.cells strip
  rw [hA, List.append_assoc (_ ++ _ ++ _)]; rfl
 rw [e1, e2, List.set_append_right _ _ (by omega), List.set_append_right _ _ (by omega), hl]
 rfl
theorem strip_set {l : List Nd} (h : ∀ x ∈ l, x.Ok) {j : Nat} (hj : j < l.length) : ((ndCells (stpL l j)).set (j * 49 + 43) (.bool false)).set (j * 49 + 44) (.int .i64 0) = ndCells (stpL l (j + 1)) := by
 have hx := h _ (List.getElem_mem hj)
 have hc : ∀ (a b : List Nd), ndCells (a ++ b) = ndCells a ++ ndCells b := fun a b => by simp [ndCells]
 have hd : ∀ (x : Nd) (b : List Nd), ndCells (x :: b) = x.cells ++ ndCells b := fun x b => by simp [ndCells]
 have hl : (ndCells ((l.take j).map strip)).length = j * 49 := by
  rw [ndCells_length _ fun x hx => by obtain ⟨y, hy, rfl⟩ := List.mem_map.1 hx; exact strip_ok (h y (List.mem_of_mem_take hy))]
  simp; omega
 have hxl := Nd.cells_length hx
 rw [stpL_at hj, stpL_succ hj, hc, hc, hd, hd, ← strip_cells hx, List.set_append_right _ _ (by omega), hl, List.set_append_right _ _ (by omega), hl, Nat.add_sub_cancel_left, Nat.add_sub_cancel_left,
  List.set_append_left _ _ (by omega), List.set_append_left _ _ (by rw [List.length_set]; omega)]
section
variable {l : List Nd} {v0 v1 : Int} {bs : List Value} {ns : List Nat}
/-- All that is left of it. -/
theorem ground_left (hf : TForm (gL l)) (h0 : 0 < l.length) (hs : shownAt l 0 = true) (hv : ViewOk v0 v1) (g0 : 1 ≤ v0) (g1 : 1 ≤ v1) (hp : Painted (gL l) ns)
  (hg : ∀ n (h : n < (gL l).length), n + 1 = (gL l).length → madeL (gL l) 0 = true → outL (gL l) n = true → holdOf (gL l) n = -1 → PlainC (gL l)[n].s.cells → bxAt bs n = gbox v0 v1) :
  cullL (itsOf (gL l) bs (clipsTo (gL l) bs v0 v1 (gL l).length) ns) = [gIt l.length v0 v1] := by
 obtain ⟨ns', rfl⟩ := gL_painted hf h0 hs hp
 have hlen := gL_len l
 have hml : l.length < (gL l).length := by omega
 have hbx : bxAt bs l.length = gbox v0 v1 := hg l.length hml (by omega) (gL_made0 hf h0 hs) (gL_out hf h0 hs) (gL_hold hf h0 hs) (by
  rw [nS_get hml, gL_s]; exact gS_plain)
 have hedge : edgeR bs l.length = ⟨0, 0, v0, v1⟩ := by unfold edgeR; rw [hbx]; exact gbox_edge hv
 have hclip : gR (clipsTo (gL l) bs v0 v1 (gL l).length) l.length = ⟨0, 0, v0, v1⟩ := by
  rw [clips_at _ _ hml, clip_self]
  unfold clipOf
  rw [if_neg (by rw [gL_made hf h0 hs]; decide), if_pos (gL_hold hf h0 hs)]
  exact view_view g0 g1
 have hit : itemsOf (gL l) bs (clipsTo (gL l) bs v0 v1 (gL l).length) l.length = [gIt l.length v0 v1] := by
  unfold itemsOf
  rw [hedge, hclip, gL_s]
  rfl
 have hap : itsOf (gL l) bs (clipsTo (gL l) bs v0 v1 (gL l).length) (ns' ++ [l.length]) = itsOf (gL l) bs (clipsTo (gL l) bs v0 v1 (gL l).length) ns' ++ [gIt l.length v0 v1] := by
  unfold itsOf
  rw [List.flatMap_append, List.flatMap_cons, List.flatMap_nil, List.append_nil, hit]
 rw [hap]
 exact cull_last g0 g1 fun i hi => its_in hv.1 hv.2.2.1 hi
end
set_option maxHeartbeats 4000000 in
theorem ground8 (x : Value) (l : List Nd) (v0 v1 : Int) (S : St) (h : Ns S x l) (hok : ∀ x ∈ l, x.Ok) : ACalls Tryz.prog 8 [x, .agg #[.int .i64 v0, .int .i64 v1]] S fun r S' => r = .bool true := by
 refine run_of hmix Tryz.func8 cF8 rfl fun hL Q hQ => ?_
 obtain ⟨xa, xe, rfl⟩ := h.slice
 simp only [go_sem, seval, aF8]
 refine cK_of (awake9 S) ?_
 rintro v S1 _ hL1 ⟨rfl, k1⟩
 have h1 := Sl.keeps hL h k1 fun _ _ => trivial
 simp only [go_sem, seval]
 refine cK_of (may10 _ l 10 S1 h1 hok (by decide)) ?_
 rintro v S2 _ hL2 ⟨rfl, k2⟩
 cases hm : (decide ((l.length : Int) ≤ 10) && (tchk l == 0))
 case' false =>
  simp only [go_sem, seval]
  refine cK_of (awake9 S2) ?_
  rintro v S3 _ hL3 ⟨rfl, k3⟩
  simp only [go_sem, seval]
  refine fin_at hQ rfl ?_; simp only [go_sem, seval, aF8]; rw [retQ_some]; simp only [oneOr]
 have hl10 : l.length ≤ 10 ∧ tchk l = 0 := by simp at hm; omega
 have h0 := (tform_of hl10.2).1.1
 have h2 := Sl.keeps hL1 h1 k2 fun _ _ => trivial
 obtain ⟨ld, lo, le', hle', _, lc⟩ := h2.ne h0
 cases hle'
 have rs := shown_at hok lc h0
 rw [Nat.zero_mul, Nat.add_zero] at rs
 have l0 : (0 : Int) < l.length := by omega
 cases hs : shownAt l 0
 case' false =>
  rw [hs] at rs
  simp only [go_sem, seval, Int.le_refl, l0, rs]
  refine cK_of (awake9 S2) ?_
  rintro v S3 _ hL3 ⟨rfl, k3⟩
  simp only [go_sem, seval]
  refine fin_at hQ rfl ?_; simp only [go_sem, seval, aF8]; rw [retQ_some]; simp only [oneOr]
 rw [hs] at rs
 have hs' := hs
 by_cases g0 : v0 < 1
 case' pos =>
  simp only [go_sem, seval, Int.le_refl, l0, rs, g0]
  refine cK_of (awake9 S2) ?_
  rintro v S3 _ hL3 ⟨rfl, k3⟩
  simp only [go_sem, seval]
  refine fin_at hQ rfl ?_; simp only [go_sem, seval, aF8]; rw [retQ_some]; simp only [oneOr]
 by_cases g1 : v1 < 1
 case' pos =>
  simp only [go_sem, seval, Int.le_refl, l0, rs, g0, g1]
  refine cK_of (awake9 S2) ?_
  rintro v S3 _ hL3 ⟨rfl, k3⟩
  simp only [go_sem, seval]
  refine fin_at hQ rfl ?_; simp only [go_sem, seval, aF8]; rw [retQ_some]; simp only [oneOr]
 simp only [go_sem, seval, Int.le_refl, l0, rs, g0, g1]
 refine cK_of (plain21 S2) ?_
 rintro v S3 _ hL3 ⟨rfl, hS3⟩
 obtain rfl := hS3.symm
 simp only [go_sem, seval, plainL, iV, List.map_cons, List.map_nil, List.cons_append, List.nil_append, z39]
 refine lK_keep [0,3,5,9,42] fun t1 hk' => ?_; simp only [go_sem, seval] at hk'; have hk := hk'; clear hk'
 refine lK_unroll ?_
 simp only [go_sem, seval, hk]
 refine lK_keep [0,3,5,9,42] fun t1 hk' => ?_; simp only [go_sem, seval, hk] at hk'; clear hk; have hk := hk'; clear hk'
 refine lK_unroll ?_
 simp only [go_sem, seval, hk]
 refine lK_keep [0,3,5,9,42] fun t1 hk' => ?_; simp only [go_sem, seval, hk] at hk'; clear hk; have hk := hk'; clear hk'
 refine lK_unroll ?_
 simp only [go_sem, seval, hk]
 refine lK_keep [0,3,5,9,42] fun t1 hk' => ?_; simp only [go_sem, seval, hk] at hk'; clear hk; have hk := hk'; clear hk'
 refine lK_unroll ?_
 simp only [go_sem, seval, hk]
 refine lK_keep [0,3,5,9,42] fun t1 hk' => ?_; simp only [go_sem, seval, hk] at hk'; clear hk; have hk := hk'; clear hk'
 refine lK_unroll ?_
 simp only [go_sem, seval, hk]
 refine hK_keep [0,3,5,9] fun t1 hs5' => ?_; simp only [go_sem, seval, hk] at hs5'; have hs5 := hs5'; clear hs5'
 clear hk
 obtain ⟨S3, hS3⟩ : ∃ S3, S3 = S2.new ⟨false, []⟩ := ⟨_, rfl⟩
 have k3 : KeepsAll S2 S3 := by rw [hS3]; exact Keeps.of_new _ _ _
 have hL3' : Live S3 := by rw [hS3]; exact hL2.new _
 have n3 : S3.next = S2.next + 1 := by rw [hS3]; rfl
 have hx3 : Own S3 49 (.slice (some ⟨S2.next, 0, none⟩) 0 49) 0 [] := .inr ⟨S2.next, rfl, by rw [hS3, St.blk_new, if_pos rfl], rfl⟩
 rw [← hS3]
 refine hK_of (appS (bytes := 384) hL3' (by decide) hx3 (Sl.keeps hL2 h2 k3 fun _ _ => trivial) (by omega)) ?_
 rintro v S4 ⟨_, hA⟩
 have hA1 := hA.own
 rw [Nat.zero_add, List.nil_append] at hA1
 have k4 : KeepsAll S2 S4 := k3.trans hA.keep fun i hi _ => by simp [Value.blkOf]; omega
 have hL4 := hA.live
 obtain ⟨d, hvd, hbd, _⟩ := hA1.ne h0
 have hd : S2.next ≤ d := by
  rcases hA.new d (by rw [hvd]; rfl) with h | h
  ·simp [Value.blkOf] at h; omega
  ·omega
 subst hvd
 have hst0 : stpL l 0 = l := by unfold stpL; simp
 simp only [go_sem, seval, hs5]
 refine lK_of (fun t' S' => Live S' ∧ KeepsAll S2 S' ∧ ∃ j : Nat, j ≤ l.length ∧ S'.blk d = some ⟨false, ndCells (stpL l j)⟩ ∧ t' 5 = t1 5 ∧ Slots t' [(0, .slice (some ⟨ld, lo, none⟩) l.length xe), (3, .agg #[.int .i64 v0, .int .i64 v1]), (7, .slice (some ⟨d, 0, none⟩) l.length 49), (9, undef), (54, .int .i64 l.length), (55, .int .i64 j)]) (fun t' _ => l.length - (RowKit.intOf (t' 55)).toNat) ?_ ?_
 ·refine ⟨hL4, k4, 0, by omega, by rw [hst0]; exact hbd, ?_, ?_⟩
  ·simp only [go_sem, seval]
  ·simp only [go_sem, seval, Int.natCast_add, Int.natCast_succ, hs5]
 rintro t2 S5 Q1 ⟨hL5, k5, j, hj, hb5, ht5, hs⟩ _ hN hE
 rw [hs5.2.2.1] at ht5
 simp only [slots_cons, slots_nil] at hs
 by_cases hjn : j = l.length
 case' neg =>
  have hj' : j < l.length := by omega
  have hjl : (j : Int) < l.length := by omega
  have hj0 : (0 : Int) ≤ j := by omega
  have hw1 : IntKind.i64.wrap ((j : Int) + 1) = ((j + 1 : Nat) : Int) := by rw [wrap64_id (by omega) (by omega)]; omega
  have hcl : (ndCells (stpL l j)).length = l.length * 49 := by rw [ndCells_length _ (stpL_ok hok j), stpL_len (by omega)]
  have f1 : j * 49 + 43 + 1 ≤ (ndCells (stpL l j)).length := by omega
  have f2 : j * 49 + 44 + 1 ≤ (ndCells (stpL l j)).length := by omega
  simp only [go_sem, seval, hs, hjl, hj0, Int.toNat_natCast, hb5, f1, f2, List.length_set, hw1]
  refine hN _ _ ⟨(hL5.set _ _ (hL5 _ _ hb5)).set _ _ (hL5 _ _ hb5), ?_, j + 1, by omega, ?_, ?_, ?_⟩ ?_
  ·exact (k5.set (fun i hi _ => by omega) _).set (fun i hi _ => by omega) _
  ·rw [St.blk_set, if_pos rfl, strip_set hok hj']
  ·simp only [go_sem, seval, ht5, hs5]
  ·simp only [go_sem, seval, Int.natCast_add, Int.natCast_succ, hs]
  ·simp only [go_sem, seval, hs]
   simp [RowKit.intOf]
   omega
 subst hjn
 simp only [go_sem, seval, hs, Int.lt_irrefl]
 refine hE _ _ _ (by simp) ?_
 have hstl : stpL l l.length = l.map strip := by unfold stpL; simp
 rw [hstl] at hb5
 have hok' : ∀ x ∈ l.map strip, x.Ok := fun x hx => by obtain ⟨y, hy, rfl⟩ := List.mem_map.1 hx; exact strip_ok (hok y hy)
 have ho5 : Own S5 49 (.slice (some ⟨d, 0, none⟩) l.length 49) l.length (ndCells (l.map strip)) := .inr ⟨d, rfl, hb5, by rw [ndCells_length _ hok']; simp⟩
 have e1 : ndCells [⟨gS, 0⟩] = [.bool true, .int .i64 3, .int .i64 1, .int .i64 0, .int .i64 1, .int .i64 0, .int .i64 1, .int .i64 0, .int .i64 1, .int .i64 0, .int .i64 0, .int .i64 0, .int .i64 0, .int .i64 0, .int .i64 0, .int .i64 0, .int .i64 0, .int .i64 0, .int .i64 0, .int .i64 0, .int .i64 0, .int .i64 0, .int .i64 0, .int .i64 0, .int .i64 0, .int .i64 0, .int .i64 0, .int .i64 0, .int .i64 0, .int .i64 0, .int .i64 1, .int .i64 0, .int .i64 1, .int .i64 0, .int .i64 1, .int .i64 0, .int .i64 1, .int .i64 0, .int .i64 0, .int .i64 0, .int .i64 0, .int .i64 0, .bool false, .bool true, .int .i64 1073741824, .bool false, .int .i64 9, .int .i64 0, .int .i64 0] := rfl
 simp only [go_sem, seval, hs, ht5, z41]
 rw [← e1]
 refine hK_keep [0,3,9,75] fun t1 hk' => ?_; simp only [go_sem, seval, hs] at hk'; have hk := hk'; clear hk'
 refine hK_of (appN (bytes := 384) hL5 (by decide) ho5 rfl (by omega)) ?_
 rintro v S6 ⟨⟨wa, we, rfl⟩, hB⟩
 have k6 : KeepsAll S2 S6 := k5.trans hB.keep fun i hi _ => by simp [Value.blkOf]; omega
 have hN6 : Ns S6 (.slice wa (l.length + 1) we) (gL l) := by
  have := hB.own.sl
  unfold Ns
  rw [gL_len, show ndCells (gL l) = ndCells (l.map strip) ++ ndCells [⟨gS, 0⟩] by simp [gL, ndCells]]
  exact this
 simp only [go_sem, seval, hk]
 refine cK_keep [0,3,9] fun t1 hk' => ?_; simp only [go_sem, seval, hk] at hk'; clear hk; have hk := hk'; clear hk'
 refine cK_of (tree11 _ (gL l) v0 v1 S6 hN6 (gL_ok hok) (by rw [gL_len]; omega)) ?_
 rintro v S7 _ hL7 ⟨k7, b, f, c, e, rfl, ⟨b0, b1, b2, rfl⟩, ⟨f0, f1, f2, rfl⟩, hcS, hT⟩
 rcases hT with ⟨he, _, _, rfl⟩ | ⟨rfl, bs, ns, T⟩
 ·have he' : (e != 0) = true := by simpa using he
  simp only [go_sem, seval, hk, he']
  refine fin_at hQ rfl ?_; simp only [go_sem, seval, aF8, hk]; rw [retQ_some]; simp only [oneOr]
 have hf := tform_of T.chk
 have hc := T.cull
 rw [ground_left hf h0 hs' T.view (by omega) (by omega) T.pnt T.grd] at hc
 obtain ⟨cd, co, ce, rfl, _, hcc⟩ := hc.ne (by simp)
 have r0 : rd S7 cd co = some (.int .i64 (l.length : Nat)) := by
  have := rd_of_cells (j := 0) hcc (by simp)
  rw [Nat.add_zero] at this
  rw [this]; rfl
 have r1 : rd S7 cd (co + 14) = some (.int .i64 9) := by rw [rd_of_cells hcc (by simp)]; rfl
 simp only [go_sem, seval, hk, Nat.zero_mul, r0, r1]
 refine fin_at hQ rfl ?_; simp only [go_sem, seval, aF8, hk]; rw [retQ_some]; simp only [oneOr]
theorem ground8' (x : Value) (n : Nat) (cs ws : List Value) (S : St) (hx : Sl S 49 x n cs) (hr : RowsOk ndSh n cs) (hf : FlatOk viewSh ws) : ACalls Tryz.prog 8 [x, .agg ws.toArray] S fun r S' => r = .bool true := by
 obtain ⟨l, hX, hl⟩ := Ns.of_rows hx hr
 obtain ⟨w0, r0, rfl, ⟨v0, rfl, _⟩, hf1⟩ := flat_cons hf
 obtain ⟨w1, r1, rfl, ⟨v1, rfl, _⟩, hf2⟩ := flat_cons hf1
 obtain rfl := flat_nil hf2
 exact ground8 x l v0 v1 S hX hl
end Go.Proofs.YtegaklgjcicnfaaGreat
