/- The law TopOrder. -/
import Derived.Test.YtegaklgjcicnfaaGreatK3
set_option linter.unusedSimpArgs false
set_option linter.unusedVariables false
namespace Go.Proofs.YtegaklgjcicnfaaGreat
open Go Go.Proofs.YtegaklgjcicnfaaGreat.Abs
theorem It.nul (i : It) : i.cells[0]? = some (.int .i64 i.n) := rfl
/-- A rendered tree, told for the laws on order: whether it went well or not. -/
structure RenO (l : List Nd) (S' : St) (f : Value) (e : Int) (its : List It) : Prop where
 full : Its S' f its
 nl : its.length ≤ 1000000000
 er : e ≠ 0 → its = []
 ord : its.Pairwise fun a b => lessB l a.n.toNat b.n.toNat a.k b.k = true
 made : ∀ i ∈ its, ∃ m : Nat, i.n = m ∧ m < l.length ∧ madeL l m = true
end Go.Proofs.YtegaklgjcicnfaaGreat
