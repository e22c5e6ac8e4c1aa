/- The answer's rectangles, and what is hidden by it; a list that may be. -/
import Derived.Test.YtegaklgjcicnfaaGreatHA
import Derived.Test.YtegaklgjcicnfaaGreatHB
set_option linter.unusedSimpArgs false
set_option linter.unusedVariables false
namespace Go.Proofs.YtegaklgjcicnfaaGreat
open Go Go.Proofs.YtegaklgjcicnfaaGreat.Abs
/-- Of numbers that aren't too great. -/
structure RSm (r : Rc) : Prop where
 a : 0 ≤ r.a
 b : 0 ≤ r.b
 c : r.c ≤ 1099511627776
 d : r.d ≤ 1099511627776
theorem rsm0 : RSm ⟨0, 0, 0, 0⟩ := ⟨by decide, by decide, by decide, by decide⟩
theorem RSm.meet' {r : Rc} (s : Rc) (h : RSm r) : RSm (meetR r s) := by
 unfold meetR
 split
 ·exact rsm0
 ·have := h.a; have := h.b; have := h.c; have := h.d
  refine ⟨?_, ?_, ?_, ?_⟩ <;> (unfold meetM; simp only; split <;> omega)
end Go.Proofs.YtegaklgjcicnfaaGreat
namespace Go.Proofs.YtegaklgjcicnfaaGreat
open Go Go.Proofs.YtegaklgjcicnfaaGreat.Abs
end Go.Proofs.YtegaklgjcicnfaaGreat
