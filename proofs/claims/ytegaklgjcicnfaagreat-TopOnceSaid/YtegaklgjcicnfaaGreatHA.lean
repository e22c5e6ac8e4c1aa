/- A list that may be; an item's node; lists of nodes as they are handed in. -/
import Derived.Test.YtegaklgjcicnfaaGreatGJ
import Derived.Test.YtegaklgjcicnfaaGreatKD
set_option linter.unusedSimpArgs false
set_option linter.unusedVariables false
namespace Go.Proofs.YtegaklgjcicnfaaGreat
open Go Go.Proofs.YtegaklgjcicnfaaGreat.Abs
theorem may10 (x : Value) (l : List Nd) (k : Int) (S : St) (h : Ns S x l) (hok : ∀ x ∈ l, x.Ok) (hk0 : k ≤ 1000000) : ACalls Tryz.prog 10 [x, .int .i64 k] S fun r S' => (r = .bool (decide ((l.length : Int) ≤ k) && (tchk l == 0))) ∧ KeepsAll S S' := by
 refine run_of hmix Tryz.func10 cF10 rfl fun hL Q hQ => ?_
 obtain ⟨a, e, rfl⟩ := h.slice
 by_cases hk : (l.length : Int) ≤ k
 ·simp only [go_sem, seval, aF10, decide_eq_true hk]
  refine cK_of (check54 _ l S h hok (by omega)) ?_
  rintro v S1 _ hL1 ⟨k1, rfl⟩
  simp only [go_sem, seval]
  refine fin_at hQ rfl ?_; simp only [go_sem, seval, aF10]; rw [retQ_some]; simp only [oneOr]
  exact ⟨by simp [hk], k1⟩
 ·simp only [go_sem, seval, aF10, decide_eq_false hk]
  refine fin_at hQ rfl ?_; simp only [go_sem, seval, aF10]; rw [retQ_some]; simp only [oneOr]
  exact ⟨by simp [hk], Keeps.refl _ _⟩
def ndSh : List Cel := styleSh ++ [.int .i64]
theorem nd_ok (cs : List Value) (h : FlatOk ndSh cs) : ∃ x : Nd, cs = x.cells ∧ x.Ok := by
 obtain ⟨a, b, rfl, h1, h2⟩ := flat_split h
 obtain ⟨s, hs, rfl⟩ := sty_of h1
 obtain ⟨v, b2, rfl, ⟨p, rfl, w⟩, h3⟩ := flat_cons h2
 obtain rfl := flat_nil h3
 exact ⟨⟨s, p⟩, rfl, hs, wf64 w⟩
theorem nds_ok : ∀ (n : Nat) (cs : List Value), RowsOk ndSh n cs → ∃ l : List Nd, l.length = n ∧ cs = ndCells l ∧ ∀ x ∈ l, x.Ok := by
 intro n
 induction n with
 | zero =>
  intro cs h
  have : cs = [] := List.eq_nil_of_length_eq_zero (by simpa using h.1)
  exact ⟨[], rfl, this, by simp⟩
 | succ n ih =>
  intro cs h
  have h0 := h.2 0 (by omega)
  have hl := h.1
  have hsl : ndSh.length = 49 := rfl
  rw [hsl] at h0 hl
  rw [Nat.zero_mul, List.drop_zero] at h0
  obtain ⟨x, hx, hox⟩ := nd_ok _ h0
  have hr : RowsOk ndSh n (cs.drop 49) := by
   refine ⟨by rw [hsl, List.length_drop]; omega, fun i hi => ?_⟩
   have := h.2 (i + 1) (by omega)
   rw [hsl] at this ⊢
   rw [List.drop_drop]
   rwa [show 49 + i * 49 = (i + 1) * 49 by omega]
  obtain ⟨l, h1, h2, h3⟩ := ih _ hr
  refine ⟨x :: l, by simp [h1], ?_, fun y hy => ?_⟩
  ·rw [← List.take_append_drop 49 cs, hx, h2]
   simp [ndCells]
  ·rcases List.mem_cons.1 hy with rfl | hy
   ·exact hox
   ·exact h3 y hy
theorem Ns.of_rows {S : St} {x : Value} {n : Nat} {cs : List Value} (hx : Sl S 49 x n cs) (hr : RowsOk ndSh n cs) : ∃ l : List Nd, Ns S x l ∧ ∀ z ∈ l, z.Ok := by
 obtain ⟨l, h1, rfl, h3⟩ := nds_ok n cs hr
 subst h1
 exact ⟨l, hx, h3⟩
def viewSh : List Cel := [.int .i64, .int .i64]
theorem items_n {l : List Nd} {bs : List Value} {cl : List Rc} {n : Nat} {i : It} (hi : i ∈ itemsOf l bs cl n) : i.n = n := by
 unfold itemsOf at hi
 rcases List.mem_append.1 hi with hi | hi
 ·split at hi
  ·rw [List.mem_singleton] at hi; subst hi; rfl
  ·cases hi
 ·split at hi
  ·rw [List.mem_singleton] at hi; subst hi; rfl
  ·cases hi
end Go.Proofs.YtegaklgjcicnfaaGreat
