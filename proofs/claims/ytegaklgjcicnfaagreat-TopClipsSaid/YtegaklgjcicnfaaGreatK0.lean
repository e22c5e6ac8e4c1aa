/- The answer's tree: who is made, who is above, who is positioned. -/
import Derived.Test.YtegaklgjcicnfaaGreatGJ
import Derived.Test.YtegaklgjcicnfaaGreatKD
set_option linter.unusedSimpArgs false
set_option linter.unusedVariables false
namespace Go.Proofs.YtegaklgjcicnfaaGreat
open Go Go.Proofs.YtegaklgjcicnfaaGreat.Abs
theorem find_at {p : Int → Bool} : ∀ {cs : List Int} {j : Nat} (hj : j < cs.length), (cs.take j).all (fun a => !p a) = true → p cs[j] = true → cs.find? p = some cs[j]
 | c :: cs, 0, _, _, h => by rw [List.find?_cons_of_pos (by exact h)]; rfl
 | c :: cs, j + 1, hj, h1, h => by
  rw [List.take_succ_cons, List.all_cons, Bool.and_eq_true] at h1
  rw [List.find?_cons_of_neg (by simpa using h1.1), List.getElem_cons_succ]
  exact find_at (by simpa using hj) h1.2 h
theorem find_no {p : Int → Bool} {cs : List Int} (h : cs.all (fun a => !p a) = true) : cs.find? p = none := by
 rw [List.find?_eq_none]
 intro a ha
 have := List.all_eq_true.1 h a ha
 simpa using this
section
variable {S : St} {l : List Nd}
theorem cell_at {d o : Nat} (hok : ∀ x ∈ l, x.Ok) (h : cellsOf S d o (l.length * 49) = some (ndCells l)) {j : Nat} (hj : j < l.length) {k : Nat} {v : Value} (hk : k < 48) (hv : (nS l j).cells[k]? = some v) : rd S d (o + j * 49 + k) = some v := by
 rw [rd_of_cells (nodes_at hok h j hj) (by omega)]
 unfold Nd.cells
 rw [List.getElem?_append_left (by rw [(hok _ (List.getElem_mem hj)).s.len]; omega), nS_get hj]
 exact hv
theorem nS_shown (l : List Nd) (j : Nat) (hj : j < l.length) : (nS l j).shown = shownAt l j := by unfold nS shownAt; rw [List.getElem?_eq_getElem hj]
theorem nS_pos (l : List Nd) (j : Nat) (hj : j < l.length) : (nS l j).pos = posAt l j := by unfold nS posAt; rw [List.getElem?_eq_getElem hj]
theorem shown_at {d o : Nat} (hok : ∀ x ∈ l, x.Ok) (h : cellsOf S d o (l.length * 49) = some (ndCells l)) {j : Nat} (hj : j < l.length) : rd S d (o + j * 49) = some (.bool (shownAt l j)) := by
 have := cell_at hok h hj (k := 0) (by omega) (nS_ok hok hj).c.shown
 rw [nS_shown l j hj] at this
 exact this
theorem position_at {d o : Nat} (hok : ∀ x ∈ l, x.Ok) (h : cellsOf S d o (l.length * 49) = some (ndCells l)) {j : Nat} (hj : j < l.length) : rd S d (o + j * 49 + 1) = some (.int .i64 (posAt l j)) := by
 have := cell_at hok h hj (k := 1) (by omega) (nS_ok hok hj).c.pos
 rw [nS_pos l j hj] at this
 exact this
theorem made12 (x : Value) (h : Ns S x l) (hok : ∀ x ∈ l, x.Ok) (htr : Tr (par l) l.length) {n : Nat} (hn : n < l.length) : ACalls Tryz.prog 12 [x, .int .i64 n] S fun r S' => r = .bool (madeL l n) ∧ S' = S := by
 refine run_of hmix Tryz.func12 cF12 rfl fun hL Q hQ => ?_
 obtain ⟨d, o, e, rfl, he, hc⟩ := h.ne (by omega)
 have f0 : ¬ (n : Int) < 0 := by omega
 have f1 : ¬ (n : Int) ≥ l.length := by omega
 simp only [go_sem, seval, aF12, decide_eq_false f0, decide_eq_false f1]
 refine lK_of (fun t' S' => S' = S ∧ ∃ a : Int, -1 ≤ a ∧ a < l.length ∧ ((chain (par l) a).all fun a => shownAt l a.toNat) = madeL l n ∧ Slots t' [(0, .slice (some ⟨d, o, none⟩) l.length e), (1, .int .i64 a)]) (fun t' _ => (RowKit.intOf (t' 1) + 1).toNat) ?_ ?_
 ·refine ⟨rfl, n, by omega, by omega, rfl, ?_⟩
  simp only [go_sem, seval, Int.natCast_add, Int.natCast_succ]
 rintro t1 S1 Q1 ⟨rfl, a, ha1, ha2, hfa, hs⟩ hL1 hN hE
 simp only [slots_cons, slots_nil] at hs
 by_cases ha : a < 0
 ·have hg : ¬ (0 ≤ a) := by omega
  simp only [go_sem, seval, hs, ge_iff_le, hg]
  refine hE _ _ _ (by simp) ?_
  simp only [go_sem, seval, hs]
  refine fin_at hQ rfl ?_; simp only [go_sem, seval, aF12, hs]; rw [retQ_some]; simp only [oneOr]
  rw [chain_neg _ ha] at hfa
  exact ⟨by rw [← hfa]; rfl, trivial⟩
 obtain ⟨k, rfl⟩ : ∃ k : Nat, a = k := ⟨a.toNat, by omega⟩
 have hkl : k < l.length := by omega
 have hkl' : (k : Int) < l.length := by omega
 have hk0 : (0 : Int) ≤ k := by omega
 have hpk := htr k hkl
 rw [chain_pos htr (by omega) (by omega), List.all_cons, Int.toNat_natCast] at hfa
 have r0 := shown_at hok hc hkl
 have r1 := par_at hok hc k hkl
 cases hsh : shownAt l k
 ·rw [hsh] at r0 hfa
  simp only [go_sem, seval, hs, ge_iff_le, hk0, hkl', Int.toNat_natCast, r0]
  refine hE _ _ _ (by simp) ?_
  simp only [go_sem, seval, hs]
  refine fin_at hQ rfl ?_; simp only [go_sem, seval, aF12, hs]; rw [retQ_some]; simp only [oneOr]
  exact ⟨by rw [← hfa]; rfl, trivial⟩
 ·rw [hsh, Bool.true_and] at hfa
  rw [hsh] at r0
  simp only [go_sem, seval, hs, ge_iff_le, hk0, hkl', Int.toNat_natCast, r0, r1]
  refine hN _ _ ⟨rfl, par l k, by omega, by omega, hfa, ?_⟩ ?_
  ·simp only [go_sem, seval, Int.natCast_add, Int.natCast_succ, hs]
  ·simp only [go_sem, seval, hs]
   simp [RowKit.intOf]
   omega
theorem up30 (x : Value) (h : Ns S x l) (hok : ∀ x ∈ l, x.Ok) (htr : Tr (par l) l.length) {n : Nat} (hn : n < l.length) (hl : l.length ≤ 1000000) : ACalls Tryz.prog 30 [x, .int .i64 n] S fun r S' => Own S' 1 r (chain (par l) (par l n)).length (iV (chain (par l) (par l n))) ∧ KeepsAll S S' ∧ Fresh S r := by
 refine run_of hmix Tryz.func30 cF30 rfl fun hL Q hQ => ?_
 obtain ⟨d, o, e, rfl, he, hc⟩ := h.ne (by omega)
 have f0 : ¬ (n : Int) < 0 := by omega
 have f1 : ¬ (n : Int) ≥ l.length := by omega
 have n0 : (0 : Int) ≤ n := by omega
 have nl : (n : Int) < l.length := by omega
 have rp := par_at hok hc n hn
 have hpn := htr n hn
 simp only [go_sem, seval, aF30, decide_eq_false f0, decide_eq_false f1, n0, nl, Int.toNat_natCast, rp]
 refine lK_of (fun t' S' => ∃ (a : Int) (us : List Int) (x : Value), Live S' ∧ KeepsAll S S' ∧ -1 ≤ a ∧ a < l.length ∧ us ++ chain (par l) a = chain (par l) (par l n) ∧ us.length + a ≤ l.length ∧ Own S' 1 x us.length (iV us) ∧ Fresh S x ∧ Slots t' [(0, .slice (some ⟨d, o, none⟩) l.length e), (5, x), (6, .int .i64 a)]) (fun t' _ => (RowKit.intOf (t' 6) + 1).toNat) ?_ ?_
 ·refine ⟨par l n, [], .slice none 0 0, hL, Keeps.refl _ _, by omega, by omega, rfl, by simp; omega, .inl ⟨rfl, rfl, rfl⟩, fun i hi => by simp [Value.blkOf] at hi, ?_⟩
  simp only [go_sem, seval, Int.natCast_add, Int.natCast_succ]
 rintro t1 S1 Q1 ⟨a, us, x, hL1, k1, ha1, ha2, hfa, hlen, ho, hf, hs⟩ _ hN hE
 simp only [slots_cons, slots_nil] at hs
 by_cases ha : a < 0
 ·have hg : ¬ (0 ≤ a) := by omega
  simp only [go_sem, seval, hs, ge_iff_le, hg]
  refine hE _ _ _ (by simp) ?_
  simp only [go_sem, seval, hs]
  refine fin_at hQ rfl ?_; simp only [go_sem, seval, aF30, hs]; rw [retQ_some]; simp only [oneOr]
  rw [chain_neg _ ha, List.append_nil] at hfa
  rw [← hfa]
  exact ⟨ho, k1, hf⟩
 obtain ⟨k, rfl⟩ : ∃ k : Nat, a = k := ⟨a.toNat, by omega⟩
 have hkl : k < l.length := by omega
 have hkl' : (k : Int) < l.length := by omega
 have hk0 : (0 : Int) ≤ k := by omega
 have hpk := htr k hkl
 rw [chain_pos htr (by omega) (by omega), Int.toNat_natCast] at hfa
 simp only [go_sem, seval, hs, ge_iff_le, hk0]
 obtain ⟨xa, xe, rfl⟩ := ho.sl.slice
 refine hK_of (appN (bytes := 8) (ds := [.int .i64 (k : Int)]) hL1 (by decide) ho rfl (by omega)) ?_
 rintro v S3 ⟨⟨wa, we, rfl⟩, hA⟩
 have k3 := hA.keeps hf k1
 have h3 := Sl.keeps hL h k3 fun _ _ => trivial
 obtain ⟨d', o', e', he', _, hc3⟩ := h3.ne (by omega)
 cases he'
 have r1 := par_at hok hc3 k hkl
 have e1 : iV (us ++ [(k : Int)]) = iV us ++ [.int .i64 (k : Int)] := by simp [iV]
 simp only [go_sem, seval, hs, hk0, hkl', Int.toNat_natCast, r1]
 refine hN _ _ ⟨par l k, us ++ [(k : Int)], _, hA.live, k3, by omega, by omega, by rw [List.append_assoc]; exact hfa, by simp; omega, by rw [e1, List.length_append]; exact hA.own, hA.fresh hf k1.1, ?_⟩ ?_
 ·simp only [go_sem, seval, Int.natCast_add, Int.natCast_succ, hs]
 ·simp only [go_sem, seval, hs]
  simp [RowKit.intOf]
  omega
theorem positioned31 (x : Value) (h : Ns S x l) (hok : ∀ x ∈ l, x.Ok) (htr : Tr (par l) l.length) {n : Nat} (hn : n < l.length) : ACalls Tryz.prog 31 [x, .int .i64 n] S fun r S' => r = .bool (posd l n) ∧ S' = S := by
 refine run_of hmix Tryz.func31 cF31 rfl fun hL Q hQ => ?_
 obtain ⟨d, o, e, rfl, he, hc⟩ := h.ne (by omega)
 have n0 : (0 : Int) ≤ n := by omega
 have nl : (n : Int) < l.length := by omega
 have rp := position_at hok hc hn
 unfold posd at hQ
 by_cases h0 : n = 0
 ·have hg : ¬ ((0 : Int) < n) := by omega
  simp only [go_sem, seval, aF31, gt_iff_lt, hg]
  refine fin_at hQ rfl ?_; simp only [go_sem, seval, aF31]; rw [retQ_some]; simp only [oneOr]
  exact ⟨by simp [h0], trivial⟩
 have hg : (0 : Int) < n := by omega
 have hg' : decide (0 < n) = true := by simp; omega
 simp only [go_sem, seval, aF31, gt_iff_lt, hg]
 refine cK_of (made12 _ h hok htr hn) ?_
 rintro v S1 _ hL1 ⟨rfl, hS1⟩
 obtain rfl := hS1.symm
 cases hm : madeL l n
 ·simp only [go_sem, seval]
  refine fin_at hQ rfl ?_; simp only [go_sem, seval, aF31]; rw [retQ_some]; simp only [oneOr]
  exact ⟨by simp [hm], trivial⟩
 ·simp only [go_sem, seval, n0, nl, Int.toNat_natCast, rp]
  refine fin_at hQ rfl ?_; simp only [go_sem, seval, aF31]; rw [retQ_some]; simp only [oneOr]
  exact ⟨by simp [hm, hg'], trivial⟩
end
end Go.Proofs.YtegaklgjcicnfaaGreat
