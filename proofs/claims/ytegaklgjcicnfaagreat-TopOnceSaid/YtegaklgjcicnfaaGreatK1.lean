/- The answer's groups, contexts and ways. -/
import Derived.Test.YtegaklgjcicnfaaGreatK0
import Derived.Test.YtegaklgjcicnfaaGreatI0
set_option linter.unusedSimpArgs false
set_option linter.unusedVariables false
namespace Go.Proofs.YtegaklgjcicnfaaGreat
open Go Go.Proofs.YtegaklgjcicnfaaGreat.Abs
section
variable {S : St} {l : List Nd}
def Stp.cells (s : Stp) : List Value := [.int .i64 s.y, .int .i64 s.z, .int .i64 s.n]
end
end Go.Proofs.YtegaklgjcicnfaaGreat
