/- Who owns a point; the law TopOwner. -/
import Derived.Test.YtegaklgjcicnfaaGreatH2
import Derived.Test.YtegaklgjcicnfaaGreatHB
import Derived.Test.YtegaklgjcicnfaaGreatKD
set_option linter.unusedSimpArgs false
set_option linter.unusedVariables false
namespace Go.Proofs.YtegaklgjcicnfaaGreat
open Go Go.Proofs.YtegaklgjcicnfaaGreat.Abs
/-- The last one that shows, of the first so many. -/
def ownTo (its : List It) (x y : Int) : Nat → Int
 | 0 => -1
 | j + 1 => if showsB (gI its j) x y = true then (j : Int) else ownTo its x y j
set_option maxHeartbeats 1000000 in
theorem owner19 (v : Value) (its : List It) (x y : Int) (S : St) (h : Its S v its) (hl : its.length ≤ 1000000000) : ACalls Tryz.prog 19 [v, .int .i64 x, .int .i64 y] S fun r S' => r = .int .i64 (ownTo its x y its.length) ∧ S' = S := by
 refine run_of hmix Tryz.func19 cF19 rfl fun hL Q hQ => ?_
 obtain ⟨va, e, rfl⟩ := h.slice
 simp only [go_sem, seval, aF19]
 refine lK_of (fun t' S' => S' = S ∧ ∃ j : Nat, j ≤ its.length ∧ Slots t' [(0, .slice va its.length e), (1, .int .i64 x), (2, .int .i64 y), (7, .int .i64 (ownTo its x y j)), (10, .int .i64 its.length), (11, .int .i64 j)]) (fun t' _ => its.length - (RowKit.intOf (t' 11)).toNat) ?_ ?_
 ·refine ⟨rfl, 0, by omega, ?_⟩
  simp only [go_sem, seval, Int.natCast_add, Int.natCast_succ, show ownTo its x y 0 = -1 from rfl]
 rintro t1 S1 Q1 ⟨rfl, j, hj, hs⟩ hL1 hN hE
 simp only [slots_cons, slots_nil] at hs
 by_cases hjn : j = its.length
 ·subst hjn
  simp only [go_sem, seval, hs, Int.lt_irrefl]
  refine hE _ _ _ (by simp) ?_
  simp only [go_sem, seval, hs]
  refine fin_at hQ rfl ?_; simp only [go_sem, seval, aF19, hs]; rw [retQ_some]; simp only [oneOr]
  exact ⟨trivial, trivial⟩
 have hjl : (j : Int) < its.length := by omega
 have hj' : j < its.length := by omega
 have hj0 : (0 : Int) ≤ j := by omega
 have hw1 : IntKind.i64.wrap ((j : Int) + 1) = ((j + 1 : Nat) : Int) := by rw [wrap64_id (by omega) (by omega)]; omega
 obtain ⟨d, o, e', he, _, hc⟩ := h.ne (by omega)
 cases he
 have hx := its_at (e := e) hc hj'
 simp only [go_sem, seval, hs, hjl, hj0, Int.toNat_natCast, hx]
 refine cK_of (shows18 (gI its j) x y S1) ?_
 rintro v S2 _ hL2 ⟨rfl, hS2⟩
 obtain rfl := hS2.symm
 have hstep : ownTo its x y (j + 1) = if showsB (gI its j) x y = true then (j : Int) else ownTo its x y j := rfl
 cases hsh : showsB (gI its j) x y
 ·rw [hsh, if_neg (by decide)] at hstep
  simp only [go_sem, seval, hs, hw1]
  refine hN _ _ ⟨rfl, j + 1, by omega, ?_⟩ ?_
  ·simp only [go_sem, seval, Int.natCast_add, Int.natCast_succ, hs, hstep]
  ·simp only [go_sem, seval, hs]
   simp [RowKit.intOf]
   omega
 ·rw [hsh, if_pos rfl] at hstep
  simp only [go_sem, seval, hs, hw1]
  refine hN _ _ ⟨rfl, j + 1, by omega, ?_⟩ ?_
  ·simp only [go_sem, seval, Int.natCast_add, Int.natCast_succ, hs, hstep]
  ·simp only [go_sem, seval, hs]
   simp [RowKit.intOf]
   omega
end Go.Proofs.YtegaklgjcicnfaaGreat
