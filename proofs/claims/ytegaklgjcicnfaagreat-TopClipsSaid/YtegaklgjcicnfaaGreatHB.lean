/- Points in rectangles; at which points an item shows. -/
import Derived.Test.YtegaklgjcicnfaaGreatHA
import Derived.Test.YtegaklgjcicnfaaGreatKD
set_option linter.unusedSimpArgs false
set_option linter.unusedVariables false
namespace Go.Proofs.YtegaklgjcicnfaaGreat
open Go Go.Proofs.YtegaklgjcicnfaaGreat.Abs
def holdsR (r : Rc) (x y : Int) : Bool := decide (r.a ≤ x) && (decide (x < r.c) && (decide (r.b ≤ y) && decide (y < r.d)))
theorem holds14 (r : Rc) (x y : Int) (S : St) : ACalls Tryz.prog 14 [r.v, .int .i64 x, .int .i64 y] S fun v S' => v = .bool (holdsR r x y) ∧ S' = S := by
 refine run_of hmix Tryz.func14 cF14 rfl fun hL Q hQ => ?_
 unfold holdsR at hQ
 by_cases h1 : r.a ≤ x
 case' neg =>
  simp only [go_sem, seval, aF14, Rc.v, decide_eq_false h1]
  refine fin_at hQ rfl ?_; simp only [go_sem, seval, aF14]; rw [retQ_some]; simp only [oneOr]
  exact ⟨by simp [decide_eq_false h1], trivial⟩
 by_cases h2 : x < r.c
 case' neg =>
  simp only [go_sem, seval, aF14, Rc.v, decide_eq_true h1, decide_eq_false h2]
  refine fin_at hQ rfl ?_; simp only [go_sem, seval, aF14]; rw [retQ_some]; simp only [oneOr]
  exact ⟨by simp [decide_eq_false h2], trivial⟩
 by_cases h3 : r.b ≤ y
 case' neg =>
  simp only [go_sem, seval, aF14, Rc.v, decide_eq_true h1, decide_eq_true h2, decide_eq_false h3]
  refine fin_at hQ rfl ?_; simp only [go_sem, seval, aF14]; rw [retQ_some]; simp only [oneOr]
  exact ⟨by simp [decide_eq_false h3], trivial⟩
 simp only [go_sem, seval, aF14, Rc.v, decide_eq_true h1, decide_eq_true h2, decide_eq_true h3]
 refine fin_at hQ rfl ?_; simp only [go_sem, seval, aF14]; rw [retQ_some]; simp only [oneOr]
 exact ⟨by simp [decide_eq_true h1, decide_eq_true h2, decide_eq_true h3], trivial⟩
theorem lt_ite {x a b : Int} : (x < if a < b then a else b) ↔ (x < a ∧ x < b) := by split <;> omega
theorem ite_le {x a b : Int} : ((if a > b then a else b) ≤ x) ↔ (a ≤ x ∧ b ≤ x) := by split <;> omega
theorem holdsR_iff {r : Rc} {x y : Int} : holdsR r x y = true ↔ r.a ≤ x ∧ x < r.c ∧ r.b ≤ y ∧ y < r.d := by unfold holdsR; simp
theorem holds_meetM (r s : Rc) (x y : Int) : holdsR (meetM r s) x y = true ↔ (holdsR r x y = true ∧ holdsR s x y = true) := by
 rw [holdsR_iff, holdsR_iff, holdsR_iff]
 unfold meetM
 simp only [lt_ite, ite_le]
 omega
theorem holds_not_empty {r : Rc} {x y : Int} (h : holdsR r x y = true) : emptyR r = false := by
 rw [holdsR_iff] at h
 unfold emptyR
 simp
 omega
theorem holds_meet (r s : Rc) (x y : Int) : holdsR (meetR r s) x y = (holdsR r x y && holdsR s x y) := by
 rw [Bool.eq_iff_iff, Bool.and_eq_true, ← holds_meetM]
 unfold meetR
 split
 ·rename_i he
  constructor
  ·intro h; rw [holdsR_iff] at h; simp only at h; omega
  ·intro h; rw [holds_not_empty h] at he; cases he
 ·exact Iff.rfl
def showsB (i : It) (x y : Int) : Bool := holdsR i.r x y && (holdsR i.c x y && !((i.k == 1) && holdsR i.h x y))
theorem It.hc (i : It) : (i.cells.drop 6).take 4 = i.h.cells := rfl
set_option maxHeartbeats 1000000 in
theorem shows18 (i : It) (x y : Int) (S : St) : ACalls Tryz.prog 18 [.agg i.cells.toArray, .int .i64 x, .int .i64 y] S fun v S' => v = .bool (showsB i x y) ∧ S' = S := by
 refine run_of hmix Tryz.func18 cF18 rfl fun hL Q hQ => ?_
 have hv : ∀ r : Rc, Value.agg #[.int .i64 r.a, .int .i64 r.b, .int .i64 r.c, .int .i64 r.d] = r.v := fun _ => rfl
 unfold showsB at hQ
 have rest : ∀ (t : Env) (hole : Bool), Slots t [(1, .int .i64 x), (2, .int .i64 y), (3, .agg i.cells.toArray), (7, .bool hole)] → hole = ((i.k == 1) && holdsR i.h x y) → True := fun _ _ _ _ => trivial
 cases hk : i.k == 1
 ·simp only [go_sem, seval, aF18, It.cells_eq, hk]
  refine cK_of (holds14 i.r x y S) ?_
  rintro v S1 _ hL1 ⟨rfl, hS1⟩
  obtain rfl := hS1.symm
  cases h1 : holdsR i.r x y
  ·simp only [go_sem, seval]
   refine fin_at hQ rfl ?_; simp only [go_sem, seval, aF18]; rw [retQ_some]; simp only [oneOr]
   exact ⟨by simp [h1], trivial⟩
  ·simp only [go_sem, seval]
   refine cK_of (holds14 i.c x y S) ?_
   rintro v S1 _ hL1' ⟨rfl, hS1⟩
   obtain rfl := hS1.symm
   cases h2 : holdsR i.c x y
   ·simp only [go_sem, seval]
    refine fin_at hQ rfl ?_; simp only [go_sem, seval, aF18]; rw [retQ_some]; simp only [oneOr]
    exact ⟨by simp [h1, h2], trivial⟩
   ·simp only [go_sem, seval]
    refine fin_at hQ rfl ?_; simp only [go_sem, seval, aF18]; rw [retQ_some]; simp only [oneOr]
    exact ⟨by simp [h1, h2, hk], trivial⟩
 ·simp only [go_sem, seval, aF18, It.cells_eq, hk]
  refine cK_of (holds14 i.h x y S) ?_
  rintro v S1 _ hL1 ⟨rfl, hS1⟩
  obtain rfl := hS1.symm
  simp only [go_sem, seval]
  refine cK_of (holds14 i.r x y S) ?_
  rintro v S1 _ hL1' ⟨rfl, hS1⟩
  obtain rfl := hS1.symm
  cases h1 : holdsR i.r x y
  ·simp only [go_sem, seval]
   refine fin_at hQ rfl ?_; simp only [go_sem, seval, aF18]; rw [retQ_some]; simp only [oneOr]
   exact ⟨by simp [h1], trivial⟩
  ·simp only [go_sem, seval]
   refine cK_of (holds14 i.c x y S) ?_
   rintro v S1 _ hL1' ⟨rfl, hS1⟩
   obtain rfl := hS1.symm
   cases h2 : holdsR i.c x y
   ·simp only [go_sem, seval]
    refine fin_at hQ rfl ?_; simp only [go_sem, seval, aF18]; rw [retQ_some]; simp only [oneOr]
    exact ⟨by simp [h1, h2], trivial⟩
   ·simp only [go_sem, seval]
    refine fin_at hQ rfl ?_; simp only [go_sem, seval, aF18]; rw [retQ_some]; simp only [oneOr]
    exact ⟨by simp [h1, h2, hk], trivial⟩
end Go.Proofs.YtegaklgjcicnfaaGreat
