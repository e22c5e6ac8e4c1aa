/- The answer's tree: who is made, who is above, who is positioned. -/
import Derived.Test.YtegaklgjcicnfaaGreatGJ
import Derived.Test.YtegaklgjcicnfaaGreatKD
set_option linter.unusedSimpArgs false
set_option linter.unusedVariables false
namespace Go.Proofs.YtegaklgjcicnfaaGreat
open Go Go.Proofs.YtegaklgjcicnfaaGreat.Abs
section
variable {S : St} {l : List Nd}
theorem cell_at {d o : Nat} (hok : ∀ x ∈ l, x.Ok) (h : cellsOf S d o (l.length * 49) = some (ndCells l)) {j : Nat} (hj : j < l.length) {k : Nat} {v : Value} (hk : k < 48) (hv : (nS l j).cells[k]? = some v) : rd S d (o + j * 49 + k) = some v := by
 rw [rd_of_cells (nodes_at hok h j hj) (by omega)]
 unfold Nd.cells
 rw [List.getElem?_append_left (by rw [(hok _ (List.getElem_mem hj)).s.len]; omega), nS_get hj]
 exact hv
theorem nS_shown (l : List Nd) (j : Nat) (hj : j < l.length) : (nS l j).shown = shownAt l j := by unfold nS shownAt; rw [List.getElem?_eq_getElem hj]
theorem shown_at {d o : Nat} (hok : ∀ x ∈ l, x.Ok) (h : cellsOf S d o (l.length * 49) = some (ndCells l)) {j : Nat} (hj : j < l.length) : rd S d (o + j * 49) = some (.bool (shownAt l j)) := by
 have := cell_at hok h hj (k := 0) (by omega) (nS_ok hok hj).c.shown
 rw [nS_shown l j hj] at this
 exact this
theorem made12 (x : Value) (h : Ns S x l) (hok : ∀ x ∈ l, x.Ok) (htr : Tr (par l) l.length) {n : Nat} (hn : n < l.length) : ACalls Tryz.prog 12 [x, .int .i64 n] S fun r S' => r = .bool (madeL l n) ∧ S' = S := by
 refine run_of hmix Tryz.func12 cF12 rfl fun hL Q hQ => ?_
 obtain ⟨d, o, e, rfl, he, hc⟩ := h.ne (by omega)
 have f0 : ¬ (n : Int) < 0 := by omega
 have f1 : ¬ (n : Int) ≥ l.length := by omega
 simp only [go_sem, seval, aF12, decide_eq_false f0, decide_eq_false f1]
 refine lK_of (fun t' S' => S' = S ∧ ∃ a : Int, -1 ≤ a ∧ a < l.length ∧ ((chain (par l) a).all fun a => shownAt l a.toNat) = madeL l n ∧ Slots t' [(0, .slice (some ⟨d, o, none⟩) l.length e), (1, .int .i64 a)]) (fun t' _ => (RowKit.intOf (t' 1) + 1).toNat) ?_ ?_
 ·refine ⟨rfl, n, by omega, by omega, rfl, ?_⟩
  simp only [go_sem, seval, Int.natCast_add, Int.natCast_succ]
 rintro t1 S1 Q1 ⟨rfl, a, ha1, ha2, hfa, hs⟩ hL1 hN hE
 simp only [slots_cons, slots_nil] at hs
 by_cases ha : a < 0
 ·have hg : ¬ (0 ≤ a) := by omega
  simp only [go_sem, seval, hs, ge_iff_le, hg]
  refine hE _ _ _ (by simp) ?_
  simp only [go_sem, seval, hs]
  refine fin_at hQ rfl ?_; simp only [go_sem, seval, aF12, hs]; rw [retQ_some]; simp only [oneOr]
  rw [chain_neg _ ha] at hfa
  exact ⟨by rw [← hfa]; rfl, trivial⟩
 obtain ⟨k, rfl⟩ : ∃ k : Nat, a = k := ⟨a.toNat, by omega⟩
 have hkl : k < l.length := by omega
 have hkl' : (k : Int) < l.length := by omega
 have hk0 : (0 : Int) ≤ k := by omega
 have hpk := htr k hkl
 rw [chain_pos htr (by omega) (by omega), List.all_cons, Int.toNat_natCast] at hfa
 have r0 := shown_at hok hc hkl
 have r1 := par_at hok hc k hkl
 cases hsh : shownAt l k
 ·rw [hsh] at r0 hfa
  simp only [go_sem, seval, hs, ge_iff_le, hk0, hkl', Int.toNat_natCast, r0]
  refine hE _ _ _ (by simp) ?_
  simp only [go_sem, seval, hs]
  refine fin_at hQ rfl ?_; simp only [go_sem, seval, aF12, hs]; rw [retQ_some]; simp only [oneOr]
  exact ⟨by rw [← hfa]; rfl, trivial⟩
 ·rw [hsh, Bool.true_and] at hfa
  rw [hsh] at r0
  simp only [go_sem, seval, hs, ge_iff_le, hk0, hkl', Int.toNat_natCast, r0, r1]
  refine hN _ _ ⟨rfl, par l k, by omega, by omega, hfa, ?_⟩ ?_
  ·simp only [go_sem, seval, Int.natCast_add, Int.natCast_succ, hs]
  ·simp only [go_sem, seval, hs]
   simp [RowKit.intOf]
   omega
end
end Go.Proofs.YtegaklgjcicnfaaGreat
