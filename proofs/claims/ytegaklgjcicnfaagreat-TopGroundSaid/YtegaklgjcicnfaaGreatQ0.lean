/- A ground that is painted last, over all the view: plain laws. -/
import Derived.Test.YtegaklgjcicnfaaGreatP0
set_option linter.unusedSimpArgs false
set_option linter.unusedVariables false
namespace Go.Proofs.YtegaklgjcicnfaaGreat
open Go Go.Proofs.YtegaklgjcicnfaaGreat.Abs
def gS : Sty := ⟨true, 3, [(1, 0), (1, 0), (1, 0), (1, 0), (0, 0), (0, 0), (0, 0), (0, 0), (0, 0), (0, 0), (0, 0), (0, 0), (0, 0), (0, 0), (1, 0), (1, 0), (1, 0), (1, 0)], [0, 0, 0, 0], false, true, 1073741824, false, 9, 0⟩
theorem gS_ok : gS.Ok := ⟨rfl, rfl, by unfold InI64; decide, by unfold InI64; decide, by unfold InI64; decide, by unfold InI64; decide, by unfold InI64; decide, by unfold InI64; decide⟩
theorem gS_plain : PlainC gS.cells := ⟨by decide, by decide, by decide, by decide, by decide, by decide, by decide, by decide, by decide, by decide⟩
def strip (x : Nd) : Nd := ⟨{ x.s with hasZ := false, z := 0 }, x.p⟩
def gL (l : List Nd) : List Nd := l.map strip ++ [⟨gS, 0⟩]
theorem strip_ok {x : Nd} (h : x.Ok) : (strip x).Ok :=
 ⟨⟨h.s.lens, h.s.border, h.s.rl, h.s.rb, h.s.rp, by unfold InI64 strip; simp, h.s.rk, h.s.rn⟩, h.p⟩
theorem gL_ok {l : List Nd} (h : ∀ x ∈ l, x.Ok) : ∀ x ∈ gL l, x.Ok := fun x hx => by
 unfold gL at hx
 rcases List.mem_append.1 hx with hx | hx
 ·obtain ⟨y, hy, rfl⟩ := List.mem_map.1 hx
  exact strip_ok (h y hy)
 ·rw [List.mem_singleton] at hx
  subst hx
  exact ⟨gS_ok, by unfold InI64; decide⟩
theorem gL_len (l : List Nd) : (gL l).length = l.length + 1 := by simp [gL]
theorem gL_last (l : List Nd) : (gL l)[l.length]? = some ⟨gS, 0⟩ := by
 unfold gL
 rw [List.getElem?_append_right (by simp)]
 simp
theorem gL_at {l : List Nd} {k : Nat} (h : k < l.length) : (gL l)[k]? = some (strip l[k]) := by
 unfold gL
 rw [List.getElem?_append_left (by simpa using h)]
 simp [h]
theorem gL_s (l : List Nd) : nS (gL l) l.length = gS := by unfold nS; rw [gL_last]
theorem gL_p (l : List Nd) : par (gL l) l.length = 0 := by unfold par; rw [gL_last]
theorem gL_z {l : List Nd} {k : Nat} (h : k < l.length) : zL (gL l) k = 0 := by unfold zL nS; rw [gL_at h]; rfl
theorem gL_zg (l : List Nd) : zL (gL l) l.length = 1073741824 := by unfold zL; rw [gL_s]; rfl
section
variable {l : List Nd}
theorem gL_made0 (hf : TForm (gL l)) (h0 : 0 < l.length) (hs : shownAt l 0 = true) : madeL (gL l) 0 = true := by
 have hp := (hf.1.2 0 (by rw [gL_len]; omega)).1 rfl
 rw [madeL_eq hf.1.2.tr (by rw [gL_len]; omega)]
 rw [show par (gL l) (0 : Nat) = -1 from hp, if_pos (by decide), Bool.and_true]
 unfold shownAt at hs ⊢
 rw [gL_at h0]
 rw [List.getElem?_eq_getElem h0] at hs
 exact hs
theorem gL_made (hf : TForm (gL l)) (h0 : 0 < l.length) (hs : shownAt l 0 = true) : madeL (gL l) l.length = true := by
 rw [madeL_eq hf.1.2.tr (by rw [gL_len]; omega), gL_p, if_neg (by decide), Int.toNat_zero, gL_made0 hf h0 hs, Bool.and_true]
 unfold shownAt
 rw [gL_last]; rfl
theorem gL_pos (l : List Nd) : posAt (gL l) l.length = 3 := by unfold posAt; rw [gL_last]; rfl
theorem gL_out (hf : TForm (gL l)) (h0 : 0 < l.length) (hs : shownAt l 0 = true) : outL (gL l) l.length = true := by
 unfold outL
 rw [gL_made hf h0 hs, gL_pos]
 simp [h0]
theorem gL_hold (hf : TForm (gL l)) (h0 : 0 < l.length) (hs : shownAt l 0 = true) : holdOf (gL l) l.length = -1 := by
 unfold holdOf
 rw [if_neg (by rw [gL_made hf h0 hs]; decide), if_neg (by rw [gL_out hf h0 hs]; decide), gL_pos, if_pos rfl]
theorem gL_forms (hf : TForm (gL l)) (h0 : 0 < l.length) (hs : shownAt l 0 = true) : formsL (gL l) l.length = true ∧ leadsL (gL l) l.length = true := by
 have hl : leadsL (gL l) l.length = true := by
  unfold leadsL posd
  rw [gL_made hf h0 hs, gL_pos]
  simp [h0]
 refine ⟨?_, hl⟩
 unfold formsL
 rw [hl, gL_s]
 simp [gS]
theorem memb_lt' {j n m : Nat} (h : m ∈ memb l j n) : m < j := by
 unfold memb at h
 simp only [List.mem_filter, List.mem_range] at h
 exact h.1
/-- The last node, with a Z above all: it is painted last. -/
theorem gL_painted (hf : TForm (gL l)) (h0 : 0 < l.length) (hs : shownAt l 0 = true) {ns : List Nat} (h : Painted (gL l) ns) : ∃ ns', ns = ns' ++ [l.length] := by
 have htr := hf.1.2.tr
 have hm0 := gL_made0 hf h0 hs
 have hlen := gL_len l
 obtain ⟨hfm, hld⟩ := gL_forms hf h0 hs
 have hg : l.length ∈ prt (gL l) (gL l).length 0 := by
  unfold prt
  simp only [List.mem_filter, List.mem_range, Bool.and_eq_true, decide_eq_true_eq, beq_iff_eq]
  refine ⟨by omega, ⟨hld, h0⟩, ?_⟩
  rw [ctx_step htr (by omega) (p := 0) (gL_p l), if_pos (forms0 hm0)]
 have one : ∀ ns', EmC (gL l) l.length ns' → ns' = [l.length] := fun ns' h => by
  have hp : prt (gL l) (gL l).length l.length = [] := List.eq_nil_iff_forall_not_mem.2 fun m hm => by have := prt_gt htr (Nat.le_refl _) hm; omega
  have hm : memb (gL l) (gL l).length l.length = [] := List.eq_nil_iff_forall_not_mem.2 fun m hm => by have := memb_gt htr (Nat.le_refl _) hm; have := memb_lt' hm; omega
  cases h with
  | mk _ neg pos h1 =>
   rw [hp] at h1
   have h2 := h1.eq_nil
   simp only [List.map_eq_nil_iff, List.append_eq_nil_iff] at h2
   rw [h2.1, h2.2, hm]
   rfl
 cases h.2 hm0 with
 | mk _ neg pos hp hs hn hz hfc hgg =>
  obtain ⟨q, hq, hq1⟩ := List.mem_map.1 (hp.mem_iff.2 hg)
  have hzq : zL (gL l) q.1 = 1073741824 := by rw [hq1]; exact gL_zg l
  have hqp : q ∈ pos := by
   rcases List.mem_append.1 hq with h | h
   ·have := hn q h; omega
   ·exact h
  have hq2 : q.2 = [l.length] := one _ (by have := hfc q hq (by rw [hq1]; exact hfm); rw [hq1] at this; exact this)
  obtain ⟨A, B, hAB⟩ := List.append_of_mem hqp
  have hB : B = [] := List.eq_nil_iff_forall_not_mem.2 fun b hb => by
   have hbp : b ∈ pos := by rw [hAB]; simp [hb]
   have hbm := hp.mem_iff.1 (List.mem_map.2 ⟨b, List.mem_append_right _ hbp, rfl⟩)
   have hbl := (prt_gt htr (Nat.le_refl _) hbm).2
   have hk : keyLt (gL l) q.1 b.1 := by
    rw [hAB, List.map_append, List.map_append, List.pairwise_append] at hs
    have h2 := hs.2.1
    rw [List.pairwise_append, List.map_cons, List.pairwise_cons] at h2
    exact h2.2.1.1 _ (List.mem_map.2 ⟨b, hb, rfl⟩)
   unfold keyLt at hk
   rw [hzq, hq1] at hk
   by_cases e : b.1 = l.length
   ·rw [e, gL_zg] at hk; omega
   ·rw [gL_z (show b.1 < l.length by omega)] at hk; omega
  refine ⟨0 :: neg.flatMap (·.2) ++ memb (gL l) (gL l).length 0 ++ A.flatMap (·.2), ?_⟩
  rw [hAB, hB, List.flatMap_append, List.flatMap_cons, List.flatMap_nil, hq2, List.append_nil, ← List.append_assoc]
end
/-! ### all else is behind it -/
structure RIn (v0 v1 : Int) (r : Rc) : Prop where
 a : 0 ≤ r.a
 b : 0 ≤ r.b
 c : r.c ≤ v0
 d : r.d ≤ v1
section
variable {v0 v1 : Int}
theorem rin0 (h0 : 0 ≤ v0) (h1 : 0 ≤ v1) : RIn v0 v1 ⟨0, 0, 0, 0⟩ := ⟨Int.le_refl _, Int.le_refl _, h0, h1⟩
theorem RIn.meet' (h0 : 0 ≤ v0) (h1 : 0 ≤ v1) {r : Rc} (s : Rc) (h : RIn v0 v1 r) : RIn v0 v1 (meetR r s) := by
 unfold meetR
 split
 ·exact rin0 h0 h1
 ·have := h.a; have := h.b; have := h.c; have := h.d
  refine ⟨?_, ?_, ?_, ?_⟩ <;> (unfold meetM; simp only; split <;> omega)
theorem clips_in {l : List Nd} {bs : List Value} (h0 : 0 ≤ v0) (h1 : 0 ≤ v1) : ∀ (j k : Nat), RIn v0 v1 (gR (clipsTo l bs v0 v1 j) k)
 | 0, k => by simp only [clipsTo, gR, List.getD_nil]; exact rin0 h0 h1
 | j + 1, k => by
  have ih := clips_in (l := l) (bs := bs) h0 h1 j
  by_cases h2 : k < j
  ·have : gR (clipsTo l bs v0 v1 (j + 1)) k = gR (clipsTo l bs v0 v1 j) k := by
    simp [gR, clipsTo, List.getD_eq_getElem?_getD, List.getElem?_append_left, clipsTo_len, h2]
   rw [this]; exact ih k
  ·by_cases h3 : k = j
   ·subst h3
    rw [clip_self]
    unfold clipOf
    split
    ·exact rin0 h0 h1
    split
    ·exact RIn.meet' h0 h1 _ ⟨Int.le_refl _, Int.le_refl _, Int.le_refl _, Int.le_refl _⟩
    split
    ·exact RIn.meet' h0 h1 _ (ih _)
    ·exact ih _
   ·have : gR (clipsTo l bs v0 v1 (j + 1)) k = ⟨0, 0, 0, 0⟩ := by
     unfold gR
     rw [List.getD_eq_getElem?_getD, List.getElem?_eq_none (by rw [clipsTo_len]; omega)]
     rfl
    rw [this]; exact rin0 h0 h1
theorem inside_view {r c : Rc} (h : RIn v0 v1 c) : insideR (meetR r c) ⟨0, 0, v0, v1⟩ = true := by
 have := h.a; have := h.b; have := h.c; have := h.d
 unfold meetR
 split
 ·rfl
 ·rename_i he
  unfold insideR
  have e : emptyR (meetM r c) = false := by simpa using he
  rw [e, Bool.false_or]
  unfold meetM
  simp only [Bool.and_eq_true, decide_eq_true_eq, ge_iff_le]
  refine ⟨⟨⟨?_, ?_⟩, ?_⟩, ?_⟩ <;> (split <;> omega)
theorem its_in {l : List Nd} {bs : List Value} (h0 : 0 ≤ v0) (h1 : 0 ≤ v1) {ns : List Nat} {i : It} (hi : i ∈ itsOf l bs (clipsTo l bs v0 v1 l.length) ns) : RIn v0 v1 i.c := by
 obtain ⟨n, _, hn⟩ := List.mem_flatMap.1 hi
 unfold itemsOf at hn
 rcases List.mem_append.1 hn with hn | hn
 ·split at hn
  ·rw [List.mem_singleton] at hn; subst hn; exact clips_in h0 h1 _ _
  ·cases hn
 ·split at hn
  ·rw [List.mem_singleton] at hn; subst hn; exact clips_in h0 h1 _ _
  ·cases hn
theorem view_view (h0 : 1 ≤ v0) (h1 : 1 ≤ v1) : meetR ⟨0, 0, v0, v1⟩ ⟨0, 0, v0, v1⟩ = ⟨0, 0, v0, v1⟩ := by
 have e : meetM ⟨0, 0, v0, v1⟩ ⟨0, 0, v0, v1⟩ = ⟨0, 0, v0, v1⟩ := by unfold meetM; simp
 unfold meetR
 rw [e, if_neg]
 unfold emptyR
 simp
 omega
def gIt (m : Nat) (v0 v1 : Int) : It := ⟨m, 0, ⟨0, 0, v0, v1⟩, ⟨0, 0, 0, 0⟩, ⟨0, 0, v0, v1⟩, 9⟩
theorem gbox_edge (hv : ViewOk v0 v1) : rcOf (edgesL (gbox v0 v1)) = ⟨0, 0, v0, v1⟩ := by
 obtain ⟨a, b, c, d⟩ := hv
 have e : edgesL (gbox v0 v1) = [0, 0, W64 (W64 (W64 (W64 (W64 (0 + 0) + 0) + v0) + 0) + 0), W64 (W64 (W64 (W64 (W64 (0 + 0) + 0) + v1) + 0) + 0)] := rfl
 have w0 : W64 v0 = v0 := wrap64_id (by omega) (by omega)
 have w1 : W64 v1 = v1 := wrap64_id (by omega) (by omega)
 rw [e]
 simp only [Int.add_zero, w64_0, Int.zero_add, w0, w1]
 rfl
/-- What hides all before it is all that is left. -/
theorem cull_last {X : List It} {m : Nat} (h0 : 1 ≤ v0) (h1 : 1 ≤ v1) (h : ∀ i ∈ X, RIn v0 v1 i.c) : cullL (X ++ [gIt m v0 v1]) = [gIt m v0 v1] := by
 have hseen : seenR (gIt m v0 v1) = ⟨0, 0, v0, v1⟩ := view_view h0 h1
 have hat : ∀ k, k < X.length → ∃ i, gI (X ++ [gIt m v0 v1]) k = i ∧ RIn v0 v1 i.c := fun k hk => by
  refine ⟨_, rfl, ?_⟩
  rw [gI_get (by simp; omega), List.getElem_append_left hk]
  exact h _ (List.getElem_mem hk)
 have hid : ∀ k, k < X.length → hidP (X ++ [gIt m v0 v1]) k = true := fun k hk => by
  obtain ⟨i, hi, hc⟩ := hat k hk
  unfold hidP
  rw [hi]
  have : ((X ++ [gIt m v0 v1]).drop (k + 1)).any (hides (seenR i)) = true := by
   rw [List.any_eq_true]
   refine ⟨gIt m v0 v1, ?_, ?_⟩
   ·rw [List.drop_append_of_le_length (by omega)]; simp
   ·unfold hides
    rw [hseen, Bool.and_eq_true]
    exact ⟨rfl, inside_view hc⟩
  rw [this, Bool.or_true]
 have hlast : gI (X ++ [gIt m v0 v1]) X.length = gIt m v0 v1 := by
  rw [gI_get (by simp)]; simp
 have hno : hidP (X ++ [gIt m v0 v1]) X.length = false := by
  unfold hidP
  rw [hlast, hseen, List.drop_of_length_le (by simp)]
  have : emptyR ⟨0, 0, v0, v1⟩ = false := by unfold emptyR; simp; omega
  rw [this]; rfl
 have hto : ∀ k, k ≤ X.length → cullTo (X ++ [gIt m v0 v1]) k = [] := fun k => by
  induction k with
  | zero => intro _; rfl
  | succ k ih => intro hk; rw [cullTo_succ, ih (by omega), hid k (by omega)]; rfl
 unfold cullL
 rw [List.length_append, List.length_singleton, cullTo_succ, hto _ (Nat.le_refl _), hno, hlast]
 rfl
end
end Go.Proofs.YtegaklgjcicnfaaGreat
