/- The law TopCulls: what is culled is what was there, without just what is hidden. -/
import Derived.Test.YtegaklgjcicnfaaGreatGK
set_option linter.unusedSimpArgs false
set_option linter.unusedVariables false
namespace Go.Proofs.YtegaklgjcicnfaaGreat
open Go Go.Proofs.YtegaklgjcicnfaaGreat.Abs
theorem view_sm {v0 v1 : Int} (h : ViewOk v0 v1) : RSm ⟨0, 0, v0, v1⟩ := ⟨Int.le_refl 0, Int.le_refl 0, h.2.1, h.2.2.2⟩
theorem clips_sm {l : List Nd} {bs : List Value} {v0 v1 : Int} (h : ViewOk v0 v1) : ∀ (j k : Nat), RSm (gR (clipsTo l bs v0 v1 j) k)
 | 0, k => by simp only [clipsTo, gR, List.getD_nil]; exact rsm0
 | j + 1, k => by
  have ih := clips_sm (l := l) (bs := bs) h j
  by_cases h1 : k < j
  ·have : gR (clipsTo l bs v0 v1 (j + 1)) k = gR (clipsTo l bs v0 v1 j) k := by
    simp [gR, clipsTo, List.getD_eq_getElem?_getD, List.getElem?_append_left, clipsTo_len, h1]
   rw [this]; exact ih k
  ·by_cases h2 : k = j
   ·subst h2
    have : gR (clipsTo l bs v0 v1 (k + 1)) k = clipOf l bs v0 v1 (gR (clipsTo l bs v0 v1 k)) k := by
     simp [gR, clipsTo, List.getD_eq_getElem?_getD, List.getElem?_append_right, clipsTo_len]
    rw [this]
    unfold clipOf
    split
    ·exact rsm0
    split
    ·exact RSm.meet' _ (view_sm h)
    split
    ·exact RSm.meet' _ (ih _)
    ·exact ih _
   ·have : gR (clipsTo l bs v0 v1 (j + 1)) k = ⟨0, 0, 0, 0⟩ := by
     unfold gR
     rw [List.getD_eq_getElem?_getD, List.getElem?_eq_none (by rw [clipsTo_len]; omega)]
     rfl
    rw [this]; exact rsm0
theorem items_sm {l : List Nd} {bs : List Value} {cl : List Rc} (h : ∀ k, RSm (gR cl k)) (ns : List Nat) : ∀ i ∈ itsOf l bs cl ns, RSm i.c := fun i hi => by
 obtain ⟨n, _, hn⟩ := List.mem_flatMap.1 hi
 unfold itemsOf at hn
 rcases List.mem_append.1 hn with hn | hn
 ·split at hn
  ·rw [List.mem_singleton] at hn; subst hn; exact h n
  ·cases hn
 ·split at hn
  ·rw [List.mem_singleton] at hn; subst hn; exact h n
  ·cases hn
theorem its_sm {l : List Nd} {bs : List Value} {v0 v1 : Int} (h : ViewOk v0 v1) (ns : List Nat) {k : Nat} (hk : k < (itsOf l bs (clipsTo l bs v0 v1 l.length) ns).length) : RSm (gI (itsOf l bs (clipsTo l bs v0 v1 l.length) ns) k).c := by
 rw [gI_get hk]
 exact items_sm (clips_sm h l.length) ns _ (List.getElem_mem hk)
theorem cull_at {its : List It} {k : Nat} (hk : k < its.length) (h : hidP its k = false) : (cullL its)[(cullTo its k).length]? = some (gI its k) := by
 have key : ∀ d, k + 1 + d ≤ its.length → (cullTo its (k + 1 + d))[(cullTo its k).length]? = some (gI its k) := by
  intro d
  induction d with
  | zero => intro _; rw [Nat.add_zero, cullTo_succ, h, List.getElem?_append_right (Nat.le_refl _), Nat.sub_self]; rfl
  | succ d ih =>
   intro hd
   have := ih (by omega)
   rw [show k + 1 + (d + 1) = k + 1 + d + 1 by omega, cullTo_succ, List.getElem?_append_left (List.getElem?_eq_some_iff.1 this).1]
   exact this
 have := key (its.length - (k + 1)) (by omega)
 rw [show k + 1 + (its.length - (k + 1)) = its.length by omega] at this
 exact this
/-- A rendered tree, told for the laws: whether it went well or not. -/
structure Ren (S' : St) (f c : Value) (e : Int) (its : List It) : Prop where
 full : Its S' f its
 cull : Its S' c (cullL its)
 sm : ∀ k, k < its.length → RSm (gI its k).c
 nl : its.length ≤ 1000000000
 er : e ≠ 0 → its = []
theorem TreeP.ren {l : List Nd} {v0 v1 : Int} {S : St} {r : Value} {S' : St} (h : TreeP l v0 v1 S r S') : KeepsAll S S' ∧ ∃ b f c e its, r = .tuple #[.agg #[b, f, c], .int .i64 e] ∧ (∃ x y z, b = .slice x y z) ∧ Ren S' f c e its := by
 obtain ⟨hk, b, f, c, e, rfl, hb, _, _, h2⟩ := h
 rcases h2 with ⟨he, _, rfl, rfl⟩ | ⟨rfl, bs, ns, T⟩
 ·exact ⟨hk, b, _, _, e, [], rfl, hb, .inl ⟨rfl, rfl, rfl⟩, .inl ⟨rfl, rfl, rfl⟩, fun k hk => by simp at hk, by simp, fun _ => rfl⟩
 ·have := itsOf_len l bs (clipsTo l bs v0 v1 l.length) ns
  have := T.nl
  exact ⟨hk, b, f, c, 0, _, rfl, hb, T.full, T.cull, fun k hk => its_sm T.view ns hk, by omega, fun h => absurd rfl h⟩
end Go.Proofs.YtegaklgjcicnfaaGreat
