/- The answer's tree: who is made, who is above, who is positioned. -/
import Derived.Test.YtegaklgjcicnfaaGreatGJ
set_option linter.unusedSimpArgs false
set_option linter.unusedVariables false
namespace Go.Proofs.YtegaklgjcicnfaaGreat
open Go Go.Proofs.YtegaklgjcicnfaaGreat.Abs
section
variable {S : St} {l : List Nd}
theorem cell_at {d o : Nat} (hok : ∀ x ∈ l, x.Ok) (h : cellsOf S d o (l.length * 49) = some (ndCells l)) {j : Nat} (hj : j < l.length) {k : Nat} {v : Value} (hk : k < 48) (hv : (nS l j).cells[k]? = some v) : rd S d (o + j * 49 + k) = some v := by
 rw [rd_of_cells (nodes_at hok h j hj) (by omega)]
 unfold Nd.cells
 rw [List.getElem?_append_left (by rw [(hok _ (List.getElem_mem hj)).s.len]; omega), nS_get hj]
 exact hv
theorem nS_shown (l : List Nd) (j : Nat) (hj : j < l.length) : (nS l j).shown = shownAt l j := by unfold nS shownAt; rw [List.getElem?_eq_getElem hj]
theorem shown_at {d o : Nat} (hok : ∀ x ∈ l, x.Ok) (h : cellsOf S d o (l.length * 49) = some (ndCells l)) {j : Nat} (hj : j < l.length) : rd S d (o + j * 49) = some (.bool (shownAt l j)) := by
 have := cell_at hok h hj (k := 0) (by omega) (nS_ok hok hj).c.shown
 rw [nS_shown l j hj] at this
 exact this
end
end Go.Proofs.YtegaklgjcicnfaaGreat
