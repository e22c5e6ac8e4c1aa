/- The answer's rectangles, and what is hidden by it; a list that may be. -/
import Derived.Test.YtegaklgjcicnfaaGreatHA
set_option linter.unusedSimpArgs false
set_option linter.unusedVariables false
namespace Go.Proofs.YtegaklgjcicnfaaGreat
open Go Go.Proofs.YtegaklgjcicnfaaGreat.Abs
def holdsR (r : Rc) (x y : Int) : Bool := decide (r.a ≤ x) && (decide (x < r.c) && (decide (r.b ≤ y) && decide (y < r.d)))
theorem holds14 (r : Rc) (x y : Int) (S : St) : ACalls Tryz.prog 14 [r.v, .int .i64 x, .int .i64 y] S fun v S' => v = .bool (holdsR r x y) ∧ S' = S := by
 refine ACalls.run hmix Tryz.func14 cF14 kF14 rfl fun hL Q hQ => ?_
 unfold holdsR at hQ
 by_cases h1 : r.a ≤ x
 case' neg =>
  simp only [go_sem, seval, aF14, Rc.v, decide_eq_false h1]
  refine fin_at hQ rfl ?_; simp only [go_sem, seval, aF14]; rw [retQ_some]; simp only [oneOr]
  exact ⟨by simp [decide_eq_false h1], trivial⟩
 by_cases h2 : x < r.c
 case' neg =>
  simp only [go_sem, seval, aF14, Rc.v, decide_eq_true h1, decide_eq_false h2]
  refine fin_at hQ rfl ?_; simp only [go_sem, seval, aF14]; rw [retQ_some]; simp only [oneOr]
  exact ⟨by simp [decide_eq_false h2], trivial⟩
 by_cases h3 : r.b ≤ y
 case' neg =>
  simp only [go_sem, seval, aF14, Rc.v, decide_eq_true h1, decide_eq_true h2, decide_eq_false h3]
  refine fin_at hQ rfl ?_; simp only [go_sem, seval, aF14]; rw [retQ_some]; simp only [oneOr]
  exact ⟨by simp [decide_eq_false h3], trivial⟩
 simp only [go_sem, seval, aF14, Rc.v, decide_eq_true h1, decide_eq_true h2, decide_eq_true h3]
 refine fin_at hQ rfl ?_; simp only [go_sem, seval, aF14]; rw [retQ_some]; simp only [oneOr]
 exact ⟨by simp [decide_eq_true h1, decide_eq_true h2, decide_eq_true h3], trivial⟩
/-- Of numbers that aren't too great. -/
structure RSm (r : Rc) : Prop where
 a : 0 ≤ r.a
 b : 0 ≤ r.b
 c : r.c ≤ 1099511627776
 d : r.d ≤ 1099511627776
theorem rsm0 : RSm ⟨0, 0, 0, 0⟩ := ⟨by decide, by decide, by decide, by decide⟩
theorem RSm.meet' {r : Rc} (s : Rc) (h : RSm r) : RSm (meetR r s) := by
 unfold meetR
 split
 ·exact rsm0
 ·have := h.a; have := h.b; have := h.c; have := h.d
  refine ⟨?_, ?_, ?_, ?_⟩ <;> (unfold meetM; simp only; split <;> omega)
end Go.Proofs.YtegaklgjcicnfaaGreat
namespace Go.Proofs.YtegaklgjcicnfaaGreat
open Go Go.Proofs.YtegaklgjcicnfaaGreat.Abs
end Go.Proofs.YtegaklgjcicnfaaGreat
