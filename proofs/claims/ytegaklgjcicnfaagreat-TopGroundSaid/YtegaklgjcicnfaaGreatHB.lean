/- Points in rectangles; at which points an item shows. -/
import Derived.Test.YtegaklgjcicnfaaGreatHA
set_option linter.unusedSimpArgs false
set_option linter.unusedVariables false
namespace Go.Proofs.YtegaklgjcicnfaaGreat
open Go Go.Proofs.YtegaklgjcicnfaaGreat.Abs
def holdsR (r : Rc) (x y : Int) : Bool := decide (r.a ≤ x) && (decide (x < r.c) && (decide (r.b ≤ y) && decide (y < r.d)))
theorem It.hc (i : It) : (i.cells.drop 6).take 4 = i.h.cells := rfl
end Go.Proofs.YtegaklgjcicnfaaGreat
