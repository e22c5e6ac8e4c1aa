/- What a box covers, by the law's own sums; what clips it. -/
import Derived.Test.YtegaklgjcicnfaaGreatHB
import Derived.Test.YtegaklgjcicnfaaGreatK0
set_option linter.unusedSimpArgs false
set_option linter.unusedVariables false
namespace Go.Proofs.YtegaklgjcicnfaaGreat
open Go Go.Proofs.YtegaklgjcicnfaaGreat.Abs
theorem w64_l (a b : Int) : W64 (W64 a + b) = W64 (a + b) := by unfold W64; rw [IntKind.wrap_i64, IntKind.wrap_i64, IntKind.wrap_i64]; omega
theorem w64_r (a b : Int) : W64 (a + W64 b) = W64 (a + b) := by unfold W64; rw [IntKind.wrap_i64, IntKind.wrap_i64, IntKind.wrap_i64]; omega
theorem w64_s (a b : Int) : W64 (W64 a - b) = W64 (a - b) := by unfold W64; rw [IntKind.wrap_i64, IntKind.wrap_i64, IntKind.wrap_i64]; omega
def tallB (cs : List Value) : Int := W64 (W64 (W64 (W64 (ig cs 17 + ig cs 13) + ig cs 4) + ig cs 15) + ig cs 19)
def cxB (cs : List Value) : Int := W64 (W64 (ig cs 1 + ig cs 20) + ig cs 16)
def cyB (cs : List Value) : Int := W64 (W64 (ig cs 2 + ig cs 17) + ig cs 13)
/-- A border box, a padding box, by the law's sums. -/
def lawE (cs : List Value) : Rc := ⟨ig cs 1, ig cs 2, W64 (W64 (W64 (W64 (W64 (ig cs 1 + ig cs 20) + ig cs 16) + ig cs 3) + ig cs 14) + ig cs 18), W64 (ig cs 2 + tallB cs)⟩
def lawP (cs : List Value) : Rc := ⟨W64 (cxB cs - ig cs 16), W64 (cyB cs - ig cs 13), W64 (W64 (cxB cs + ig cs 3) + ig cs 14), W64 (W64 (cyB cs + ig cs 4) + ig cs 15)⟩
theorem ig_z51 (k : Nat) (hk : k < 21) : ig z51 k = 0 := by
 have : ∀ k : Fin 21, ig z51 k = 0 := by decide
 exact this ⟨k, hk⟩
theorem w64_0 : W64 0 = 0 := by decide
theorem lawE_edge {cs : List Value} (h : BoxOk cs) : rcOf (edgesL cs) = lawE cs := by
 unfold edgesL
 cases hb : bg cs 0
 ·rw [if_pos rfl, h.2 hb]
  unfold lawE tallB rcOf
  simp only [ig_z51, Nat.reduceLT, Int.add_zero, w64_0, List.getD_cons_zero, List.getD_cons_succ]
 ·rw [if_neg (by decide)]
  unfold lawE tallB rcOf
  simp only [List.getD_cons_zero, List.getD_cons_succ, w64_l, w64_r, Int.add_assoc]
theorem lawP_pad {cs : List Value} (h : BoxOk cs) : rcOf (padsL cs) = lawP cs := by
 unfold padsL
 cases hb : bg cs 0
 ·rw [if_pos rfl, h.2 hb]
  unfold lawP cxB cyB rcOf
  simp only [ig_z51, Nat.reduceLT, Int.add_zero, Int.sub_zero, w64_0, List.getD_cons_zero, List.getD_cons_succ]
 ·rw [if_neg (by decide)]
  unfold lawP cxB cyB rcOf
  have e1 : ig cs 1 + (ig cs 20 + ig cs 16) - ig cs 16 = ig cs 1 + ig cs 20 := by omega
  have e2 : ig cs 2 + (ig cs 17 + ig cs 13) - ig cs 13 = ig cs 2 + ig cs 17 := by omega
  simp only [List.getD_cons_zero, List.getD_cons_succ, w64_l, w64_s, Int.add_assoc, e1, e2]
section
variable {l : List Nd} {bs : List Value} {v0 v1 : Int}
theorem posd_made {n : Nat} (h : posd l n = true) : madeL l n = true := by unfold posd at h; simp only [Bool.and_eq_true] at h; exact h.1
theorem firstPosd_nat {a : Int} (h : 0 ≤ firstPosd l a) : madeL l (firstPosd l a).toNat = true := by
 unfold firstPosd at h ⊢
 split at h
 ·rename_i b hb
  have h1 := List.find?_some hb
  exact posd_made h1
 ·omega
theorem hold_made (htr : Tr (par l) l.length) {n : Nat} (hn : n < l.length) (h : 0 ≤ holdOf l n) : madeL l (holdOf l n).toNat = true := by
 unfold holdOf at h ⊢
 split at h
 ·omega
 rename_i hm
 rw [if_neg hm]
 split at h
 ·rename_i ho
  rw [if_pos ho]
  have hm' : madeL l n = true := by simpa using hm
  exact made_up htr hn hm' (p := (par l n).toNat) (by omega)
 rename_i ho
 rw [if_neg ho]
 split at h
 ·omega
 rename_i h3
 rw [if_neg h3]
 exact firstPosd_nat h
theorem clips_at : ∀ (j n : Nat), n < j → gR (clipsTo l bs v0 v1 j) n = gR (clipsTo l bs v0 v1 (n + 1)) n
 | 0, n, h => by omega
 | j + 1, n, h => by
  by_cases e : n = j
  ·rw [e]
  ·rw [← clips_at j n (by omega)]
   simp [gR, clipsTo, List.getD_eq_getElem?_getD, List.getElem?_append_left, clipsTo_len, show n < j by omega]
theorem clip_self (n : Nat) : gR (clipsTo l bs v0 v1 (n + 1)) n = clipOf l bs v0 v1 (gR (clipsTo l bs v0 v1 n)) n := by
 simp [gR, clipsTo, List.getD_eq_getElem?_getD, List.getElem?_append_right, clipsTo_len]
/-- Is a point within all boxes that clip and hold one, from a holder on? -/
def hinF (l : List Nd) (bs : List Value) (x y : Int) : Nat → Int → Bool
 | 0, _ => true
 | f + 1, a => if a < 0 then true else (!(nS l a.toNat).clip || holdsR (padR bs a.toNat) x y) && hinF l bs x y f (holdOf l a.toNat)
def hin (l : List Nd) (bs : List Value) (x y : Int) (a : Int) : Bool := hinF l bs x y (a + 1).toNat a
theorem hinF_eq (htr : Tr (par l) l.length) (x y : Int) : ∀ (f g : Nat) (a : Int), a < l.length → a + 1 ≤ f → a + 1 ≤ g → hinF l bs x y f a = hinF l bs x y g a
 | 0, 0, _, _, _, _ => rfl
 | 0, g + 1, a, _, h, _ => by rw [hinF, hinF, if_pos (by omega)]
 | f + 1, 0, a, _, _, h => by rw [hinF, hinF, if_pos (by omega)]
 | f + 1, g + 1, a, hl, hf, hg => by
  rw [hinF, hinF]
  by_cases ha : a < 0
  ·rw [if_pos ha, if_pos ha]
  ·have := holdOf_lt' htr (n := a.toNat) (by omega)
   rw [if_neg ha, if_neg ha, hinF_eq htr x y f g _ (by omega) (by omega) (by omega)]
theorem hin_neg {x y a : Int} (h : a < 0) : hin l bs x y a = true := by
 unfold hin
 rw [show (a + 1).toNat = 0 by omega]; rfl
theorem hin_pos (htr : Tr (par l) l.length) {x y : Int} {n : Nat} (hn : n < l.length) : hin l bs x y n = ((!(nS l n).clip || holdsR (padR bs n) x y) && hin l bs x y (holdOf l n)) := by
 have := holdOf_lt' htr hn
 unfold hin
 rw [show ((n : Int) + 1).toNat = n + 1 by omega, hinF, if_neg (by omega), Int.toNat_natCast, hinF_eq htr x y n (holdOf l n + 1).toNat _ (by omega) (by omega) (by omega)]
/-- What clips a box: the view, and each box that clips and holds it. -/
theorem clip_holds (htr : Tr (par l) l.length) (x y : Int) : ∀ (d n : Nat), n ≤ d → n < l.length → madeL l n = true → holdsR (gR (clipsTo l bs v0 v1 l.length) n) x y = (holdsR ⟨0, 0, v0, v1⟩ x y && hin l bs x y (holdOf l n))
 | d, n, hd, hn, hm => by
  have hlt := holdOf_lt' htr hn
  rw [clips_at _ _ hn, clip_self]
  unfold clipOf
  rw [if_neg (by rw [hm]; decide)]
  by_cases hv : holdOf l n = -1
  ·rw [if_pos hv, holds_meet, hin_neg (by omega), Bool.and_self, Bool.and_true]
  rw [if_neg hv]
  obtain ⟨h, hh⟩ : ∃ h : Nat, holdOf l n = h := ⟨(holdOf l n).toNat, by omega⟩
  have hmh := hold_made htr hn (by omega)
  rw [hh] at hlt hmh ⊢
  rw [Int.toNat_natCast] at hmh ⊢
  have e : gR (clipsTo l bs v0 v1 n) h = gR (clipsTo l bs v0 v1 l.length) h := by rw [clips_at n h (by omega), clips_at l.length h (by omega)]
  rw [hin_pos htr (n := h) (by omega)]
  match d, hd with
  | 0, hd => omega
  | d + 1, hd =>
   have ih := clip_holds htr x y d h (by omega) (by omega) hmh
   cases hc : (nS l h).clip
   ·rw [if_neg (by decide), e, ih]; simp
   ·rw [if_pos rfl, holds_meet, e, ih]
    simp
    cases holdsR ⟨0, 0, v0, v1⟩ x y <;> cases holdsR (padR bs h) x y <;> cases hin l bs x y (holdOf l h) <;> rfl
end
end Go.Proofs.YtegaklgjcicnfaaGreat
