/- The law TopOrder: of any two items that one is painted first that stands first by its way. -/
import Derived.Test.YtegaklgjcicnfaaGreatK2
import Derived.Test.YtegaklgjcicnfaaGreatGJ
import Derived.Test.YtegaklgjcicnfaaGreatHA
set_option linter.unusedSimpArgs false
set_option linter.unusedVariables false
namespace Go.Proofs.YtegaklgjcicnfaaGreat
open Go Go.Proofs.YtegaklgjcicnfaaGreat.Abs
section
variable {l : List Nd}
/-- Is a spot first? -/
def lessB (l : List Nd) (n m : Nat) (a b : Int) : Bool := if n = m then decide (a < b) else wayB (wayL l n) (wayL l m)
/-- The items, in order. -/
theorem its_order {bs : List Value} {cl : List Rc} {ns : List Nat} (h : ns.Pairwise (WLt l)) : (itsOf l bs cl ns).Pairwise fun a b => lessB l a.n.toNat b.n.toNat a.k b.k = true := by
 unfold itsOf
 rw [List.pairwise_flatMap]
 refine ⟨fun n _ => ?_, h.imp fun hab a ha b hb => ?_⟩
 ·unfold itemsOf
  rw [List.pairwise_append]
  refine ⟨by split <;> simp, by split <;> simp, fun a ha b hb => ?_⟩
  split at ha
  ·split at hb
   ·rw [List.mem_singleton] at ha hb
    subst ha; subst hb
    unfold lessB
    simp
   ·simp at hb
  ·simp at ha
 ·have hne := hab
  unfold WLt at hab
  have e1 := items_n ha
  have e2 := items_n hb
  unfold lessB
  rw [e1, e2, Int.toNat_natCast, Int.toNat_natCast, if_neg, hab]
  rintro rfl
  rw [wayB_irr] at hab; cases hab
theorem its_made {bs : List Value} {cl : List Rc} {ns : List Nat} (h : ∀ m, m ∈ ns ↔ m < l.length ∧ madeL l m = true) {i : It} (hi : i ∈ itsOf l bs cl ns) : ∃ m : Nat, i.n = m ∧ m < l.length ∧ madeL l m = true := by
 obtain ⟨n, hn, hi⟩ := List.mem_flatMap.1 hi
 exact ⟨n, items_n hi, (h n).1 hn⟩
end
end Go.Proofs.YtegaklgjcicnfaaGreat
