/- Points in rectangles; at which points an item shows. -/
import Derived.Test.YtegaklgjcicnfaaGreatHA
import Derived.Test.YtegaklgjcicnfaaGreatKD
set_option linter.unusedSimpArgs false
set_option linter.unusedVariables false
namespace Go.Proofs.YtegaklgjcicnfaaGreat
open Go Go.Proofs.YtegaklgjcicnfaaGreat.Abs
def holdsR (r : Rc) (x y : Int) : Bool := decide (r.a ≤ x) && (decide (x < r.c) && (decide (r.b ≤ y) && decide (y < r.d)))
theorem holds14 (r : Rc) (x y : Int) (S : St) : ACalls Tryz.prog 14 [r.v, .int .i64 x, .int .i64 y] S fun v S' => v = .bool (holdsR r x y) ∧ S' = S := by
 refine run_of hmix Tryz.func14 cF14 rfl fun hL Q hQ => ?_
 unfold holdsR at hQ
 by_cases h1 : r.a ≤ x
 case' neg =>
  simp only [go_sem, seval, aF14, Rc.v, decide_eq_false h1]
  refine fin_at hQ rfl ?_; simp only [go_sem, seval, aF14]; rw [retQ_some]; simp only [oneOr]
  exact ⟨by simp [decide_eq_false h1], trivial⟩
 by_cases h2 : x < r.c
 case' neg =>
  simp only [go_sem, seval, aF14, Rc.v, decide_eq_true h1, decide_eq_false h2]
  refine fin_at hQ rfl ?_; simp only [go_sem, seval, aF14]; rw [retQ_some]; simp only [oneOr]
  exact ⟨by simp [decide_eq_false h2], trivial⟩
 by_cases h3 : r.b ≤ y
 case' neg =>
  simp only [go_sem, seval, aF14, Rc.v, decide_eq_true h1, decide_eq_true h2, decide_eq_false h3]
  refine fin_at hQ rfl ?_; simp only [go_sem, seval, aF14]; rw [retQ_some]; simp only [oneOr]
  exact ⟨by simp [decide_eq_false h3], trivial⟩
 simp only [go_sem, seval, aF14, Rc.v, decide_eq_true h1, decide_eq_true h2, decide_eq_true h3]
 refine fin_at hQ rfl ?_; simp only [go_sem, seval, aF14]; rw [retQ_some]; simp only [oneOr]
 exact ⟨by simp [decide_eq_true h1, decide_eq_true h2, decide_eq_true h3], trivial⟩
theorem It.hc (i : It) : (i.cells.drop 6).take 4 = i.h.cells := rfl
end Go.Proofs.YtegaklgjcicnfaaGreat
