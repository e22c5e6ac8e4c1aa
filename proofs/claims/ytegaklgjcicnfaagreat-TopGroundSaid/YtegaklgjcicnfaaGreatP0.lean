/- What a box covers, by the law's own sums; what clips it. -/
import Derived.Test.YtegaklgjcicnfaaGreatHB
import Derived.Test.YtegaklgjcicnfaaGreatK0
set_option linter.unusedSimpArgs false
set_option linter.unusedVariables false
namespace Go.Proofs.YtegaklgjcicnfaaGreat
open Go Go.Proofs.YtegaklgjcicnfaaGreat.Abs
theorem w64_0 : W64 0 = 0 := by decide
section
variable {l : List Nd} {bs : List Value} {v0 v1 : Int}
theorem clips_at : ∀ (j n : Nat), n < j → gR (clipsTo l bs v0 v1 j) n = gR (clipsTo l bs v0 v1 (n + 1)) n
 | 0, n, h => by omega
 | j + 1, n, h => by
  by_cases e : n = j
  ·rw [e]
  ·rw [← clips_at j n (by omega)]
   simp [gR, clipsTo, List.getD_eq_getElem?_getD, List.getElem?_append_left, clipsTo_len, show n < j by omega]
theorem clip_self (n : Nat) : gR (clipsTo l bs v0 v1 (n + 1)) n = clipOf l bs v0 v1 (gR (clipsTo l bs v0 v1 n)) n := by
 simp [gR, clipsTo, List.getD_eq_getElem?_getD, List.getElem?_append_right, clipsTo_len]
/-- Is a point within all boxes that clip and hold one, from a holder on? -/
def hinF (l : List Nd) (bs : List Value) (x y : Int) : Nat → Int → Bool
 | 0, _ => true
 | f + 1, a => if a < 0 then true else (!(nS l a.toNat).clip || holdsR (padR bs a.toNat) x y) && hinF l bs x y f (holdOf l a.toNat)
def hin (l : List Nd) (bs : List Value) (x y : Int) (a : Int) : Bool := hinF l bs x y (a + 1).toNat a
end
end Go.Proofs.YtegaklgjcicnfaaGreat
