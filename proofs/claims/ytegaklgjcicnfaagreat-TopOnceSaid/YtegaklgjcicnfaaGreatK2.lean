/- The answer's order. -/
import Derived.Test.YtegaklgjcicnfaaGreatK1
set_option linter.unusedSimpArgs false
set_option linter.unusedVariables false
namespace Go.Proofs.YtegaklgjcicnfaaGreat
open Go Go.Proofs.YtegaklgjcicnfaaGreat.Abs
section
variable {l : List Nd}
end
end Go.Proofs.YtegaklgjcicnfaaGreat
