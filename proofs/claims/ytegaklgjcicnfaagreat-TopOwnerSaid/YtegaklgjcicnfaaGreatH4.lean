/- Who owns a point, of all and of what is left. -/
import Derived.Test.YtegaklgjcicnfaaGreatH3
import Derived.Test.YtegaklgjcicnfaaGreatHB
set_option linter.unusedSimpArgs false
set_option linter.unusedVariables false
namespace Go.Proofs.YtegaklgjcicnfaaGreat
open Go Go.Proofs.YtegaklgjcicnfaaGreat.Abs
theorem inside_holds {r s : Rc} {x y : Int} (h : insideR r s = true) (hr : holdsR r x y = true) : holdsR s x y = true := by
 have he := holds_not_empty hr
 unfold insideR at h
 rw [he] at h
 simp at h
 rw [holdsR_iff] at hr ⊢
 omega
theorem shows_seen {i : It} {x y : Int} (h : showsB i x y = true) : holdsR (seenR i) x y = true := by
 unfold showsB at h
 unfold seenR
 rw [holds_meet]
 simp only [Bool.and_eq_true] at h ⊢
 exact ⟨h.1, h.2.1⟩
theorem seen_shows {i : It} {x y : Int} (hk : (i.k == 0) = true) (h : holdsR (seenR i) x y = true) : showsB i x y = true := by
 unfold seenR at h
 rw [holds_meet] at h
 have hk0 : i.k = 0 := by simpa using hk
 have hk1 : (i.k == 1) = false := by rw [hk0]; rfl
 unfold showsB
 simp only [Bool.and_eq_true] at h ⊢
 exact ⟨h.1, h.2, by rw [hk1]; rfl⟩
theorem own_none {its : List It} {x y : Int} : ∀ j, (∀ k, k < j → showsB (gI its k) x y = false) → ownTo its x y j = -1
 | 0, _ => rfl
 | j + 1, h => by
  unfold ownTo
  rw [h j (by omega), if_neg (by decide)]
  exact own_none j fun k hk => h k (by omega)
theorem own_some {its : List It} {x y : Int} : ∀ j p, p < j → showsB (gI its p) x y = true → (∀ k, p < k → k < j → showsB (gI its k) x y = false) → ownTo its x y j = p
 | 0, p, h, _, _ => by omega
 | j + 1, p, h, hp, hk => by
  unfold ownTo
  by_cases e : p = j
  ·subst e; rw [if_pos hp]
  ·rw [hk j (by omega) (by omega), if_neg (by decide)]
   exact own_some j p (by omega) hp fun k h1 h2 => hk k h1 (by omega)
theorem own_cases (its : List It) (x y : Int) : ∀ j, (∀ k, k < j → showsB (gI its k) x y = false) ∨ ∃ p, p < j ∧ showsB (gI its p) x y = true ∧ ∀ k, p < k → k < j → showsB (gI its k) x y = false
 | 0 => .inl fun k hk => by omega
 | j + 1 => by
  cases hj : showsB (gI its j) x y
  ·rcases own_cases its x y j with h | ⟨p, h1, h2, h3⟩
   ·refine .inl fun k hk => ?_
    by_cases e : k = j
    ·rw [e]; exact hj
    ·exact h k (by omega)
   ·refine .inr ⟨p, by omega, h2, fun k hk hk' => ?_⟩
    by_cases e : k = j
    ·rw [e]; exact hj
    ·exact h3 k hk (by omega)
  ·exact .inr ⟨j, by omega, hj, fun k hk hk' => by omega⟩
/-- What is left is some of what was there. -/
theorem cull_some (its : List It) (j : Nat) : ∀ d, ∃ B : List It, cullTo its (j + d) = cullTo its j ++ B ∧ ∀ i ∈ B, ∃ k, j ≤ k ∧ k < j + d ∧ i = gI its k
 | 0 => ⟨[], by simp, by simp⟩
 | d + 1 => by
  obtain ⟨B, h1, h2⟩ := cull_some its j d
  rw [← Nat.add_assoc, cullTo_succ, h1]
  split
  ·exact ⟨B, by simp, fun i hi => by obtain ⟨k, a, b, c⟩ := h2 i hi; exact ⟨k, a, by omega, c⟩⟩
  ·refine ⟨B ++ [gI its (j + d)], by simp, fun i hi => ?_⟩
   rcases List.mem_append.1 hi with hi | hi
   ·obtain ⟨k, a, b, c⟩ := h2 i hi; exact ⟨k, a, by omega, c⟩
   ·exact ⟨j + d, by omega, by omega, by simpa using hi⟩
theorem shows_left {its : List It} {x y : Int} {p : Nat} (hp : p < its.length) (h : showsB (gI its p) x y = true) (hk : ∀ k, p < k → k < its.length → showsB (gI its k) x y = false) : hidP its p = false := by
 have hs := shows_seen h
 unfold hidP
 rw [holds_not_empty hs, Bool.false_or, Bool.eq_false_iff]
 intro ha
 obtain ⟨i, hi, hh⟩ := List.any_eq_true.1 ha
 obtain ⟨q, hq, rfl⟩ := List.mem_iff_getElem.1 hi
 rw [List.length_drop] at hq
 rw [List.getElem_drop] at hh
 have h1 := hk (p + 1 + q) (by omega) (by omega)
 rw [gI_get (by omega)] at h1
 unfold hides at hh
 rw [Bool.and_eq_true] at hh
 rw [seen_shows hh.1 (inside_holds hh.2 hs)] at h1
 cases h1
/-- The owner of what was culled is the owner of all. -/
theorem own_cull (its : List It) (x y : Int) : (ownTo its x y its.length = -1 ∧ ownTo (cullL its) x y (cullL its).length = -1) ∨ ∃ p q, p < its.length ∧ q < (cullL its).length ∧ ownTo its x y its.length = (p : Nat) ∧ ownTo (cullL its) x y (cullL its).length = (q : Nat) ∧ gI (cullL its) q = gI its p := by
 rcases own_cases its x y its.length with h | ⟨p, hp, h1, h2⟩
 ·refine .inl ⟨own_none _ h, own_none _ fun k hk => ?_⟩
  obtain ⟨B, e, hB⟩ := cull_some its 0 its.length
  rw [Nat.zero_add] at e
  have hc : cullL its = B := e
  rw [hc] at hk ⊢
  rw [gI_get hk]
  obtain ⟨j, _, hj, e⟩ := hB _ (List.getElem_mem hk)
  rw [e]
  exact h j (by omega)
 ·have hh := shows_left hp h1 h2
  obtain ⟨B, e, hB⟩ := cull_some its (p + 1) (its.length - (p + 1))
  rw [show p + 1 + (its.length - (p + 1)) = its.length by omega] at e
  rw [cullTo_succ, hh, if_neg (by decide)] at e
  have hc : cullL its = cullTo its p ++ [gI its p] ++ B := e
  have hq := cull_at hp hh
  obtain ⟨hlt, hca⟩ := List.getElem?_eq_some_iff.1 hq
  have hg : gI (cullL its) (cullTo its p).length = gI its p := by rw [gI_get hlt]; exact hca
  refine .inr ⟨p, (cullTo its p).length, hp, hlt, own_some _ _ hp h1 h2, own_some _ _ hlt (by rw [hg]; exact h1) fun k hk hk' => ?_, hg⟩
  rw [gI_get hk']
  have hm : (cullL its)[k] ∈ B := by
   have h3 : (cullL its)[k]? = B[k - ((cullTo its p).length + 1)]? := by
    rw [hc, List.getElem?_append_right (by simp; omega)]
    simp
   rw [List.getElem?_eq_getElem hk'] at h3
   exact List.mem_iff_getElem?.2 ⟨_, h3.symm⟩
  obtain ⟨j, hj, hj', e⟩ := hB _ hm
  rw [e]
  exact h2 j (by omega) (by omega)
end Go.Proofs.YtegaklgjcicnfaaGreat
