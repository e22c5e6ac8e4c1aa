/- The law TopOrder: of any two items that one is painted first that stands first by its way. -/
import Derived.Test.YtegaklgjcicnfaaGreatK2
import Derived.Test.YtegaklgjcicnfaaGreatGJ
import Derived.Test.YtegaklgjcicnfaaGreatHA
import Derived.Test.YtegaklgjcicnfaaGreatKD
set_option linter.unusedSimpArgs false
set_option linter.unusedVariables false
namespace Go.Proofs.YtegaklgjcicnfaaGreat
open Go Go.Proofs.YtegaklgjcicnfaaGreat.Abs
section
variable {l : List Nd}
/-- Is a spot first? -/
def lessB (l : List Nd) (n m : Nat) (a b : Int) : Bool := if n = m then decide (a < b) else wayB (wayL l n) (wayL l m)
theorem way_len (hf : TForm l) (htr : Tr (par l) l.length) {n : Nat} (hn : n < l.length) (hm : madeL l n = true) : (wayL l n).length ≤ l.length + 2 ∧ 0 < (wayL l n).length := by
 obtain ⟨g, hg, hgn⟩ := grp_nat htr hf n n (Nat.le_refl _) hn hm
 have hcl := ctx_lt htr (m := g) (by omega)
 have hlen := ctxs_len (l := l) (ctxL l g)
 unfold wayL
 rw [if_neg (by rw [hm]; decide), hg, Int.toNat_natCast]
 simp only [List.length_append, List.length_cons, List.length_nil]
 split <;> simp <;> omega
set_option maxHeartbeats 2000000 in
theorem less13 (x : Value) {S : St} (h : Ns S x l) (hok : ∀ x ∈ l, x.Ok) (hf : TForm l) (htr : Tr (par l) l.length) {n m : Nat} (hn : n < l.length) (hm : m < l.length) (hl : l.length ≤ 1000000) (hmn : madeL l n = true) (hmm : madeL l m = true) (a b : Int) :
  ACalls Tryz.prog 13 [x, .agg #[.int .i64 n, .int .i64 a], .agg #[.int .i64 m, .int .i64 b]] S fun r S' => r = .bool (lessB l n m a b) ∧ KeepsAll S S' := by
 refine run_of hmix Tryz.func13 cF13 rfl fun hL Q hQ => ?_
 simp only [go_sem, seval, aF13]
 refine cK_of (made12 _ h hok htr hn) ?_
 rintro v S1 _ hL1 ⟨rfl, hS1⟩
 obtain rfl := hS1.symm
 rw [hmn]
 simp only [go_sem, seval]
 refine cK_of (made12 _ h hok htr hm) ?_
 rintro v S1 _ hL1' ⟨rfl, hS1⟩
 obtain rfl := hS1.symm
 rw [hmm]
 unfold lessB at hQ
 by_cases hnm : n = m
 ·have e1 : ((n : Int) == m) = true := by simp [hnm]
  simp only [go_sem, seval, e1]
  refine fin_at hQ rfl ?_; simp only [go_sem, seval, aF13]; rw [retQ_some]; simp only [oneOr]
  exact ⟨by rw [if_pos hnm], Keeps.refl _ _⟩
 have e1 : ((n : Int) == m) = false := by simp; omega
 simp only [go_sem, seval, e1]
 refine cK_of (way28 x h hok hf htr hn hl hmn) ?_
 rintro v S2 _ hL2 ⟨o2, k2, f2⟩
 have h2 := Sl.keeps hL h k2 fun _ _ => trivial
 simp only [go_sem, seval]
 refine cK_of (way28 x h2 hok hf htr hm hl hmm) ?_
 rintro w S3 _ hL3 ⟨o3, k3, f3⟩
 have o2' := o2.keeps hL2 k3 fun _ _ => trivial
 have K3 : KeepsAll S S3 := k2.trans k3 fun _ _ _ => trivial
 have lx := way_len hf htr hn hmn
 have ly := way_len hf htr hm hmm
 have hq' : ∀ r : Bool, r = wayB (wayL l n) (wayL l m) → (Value.bool r = .bool (if n = m then decide (a < b) else wayB (wayL l n) (wayL l m)) ∧ KeepsAll S S3) := fun r hr => ⟨by rw [if_neg hnm, hr], K3⟩
 obtain ⟨xs, hxs⟩ : ∃ xs, xs = wayL l n := ⟨_, rfl⟩
 obtain ⟨ys, hys⟩ : ∃ ys, ys = wayL l m := ⟨_, rfl⟩
 rw [← hxs] at o2' lx hq' hQ
 rw [← hys] at o3 ly hq' hQ
 obtain ⟨dx, rfl, hbx, _⟩ := o2'.ne lx.2
 obtain ⟨dy, rfl, hby, _⟩ := o3.ne ly.2
 simp only [go_sem, seval]
 refine lK_of (fun t' S' => S' = S3 ∧ ∃ k : Nat, k ≤ xs.length ∧ k ≤ ys.length ∧ wayB (xs.drop k) (ys.drop k) = wayB xs ys ∧ Slots t' [(7, .slice (some ⟨dx, 0, none⟩) xs.length 3), (8, .slice (some ⟨dy, 0, none⟩) ys.length 3), (9, .int .i64 k)]) (fun t' _ => xs.length - (RowKit.intOf (t' 9)).toNat) ?_ ?_
 ·refine ⟨rfl, 0, by omega, by omega, rfl, ?_⟩
  simp only [go_sem, seval, Int.natCast_add, Int.natCast_succ]
 rintro t1 S4 Q1 ⟨rfl, k, hkx, hky, hw, hs⟩ _ hN hE
 simp only [slots_cons, slots_nil] at hs
 have k0 : (0 : Int) ≤ k := by omega
 by_cases h1 : k < xs.length
 case' neg =>
  have h1' : ¬ ((k : Int) < xs.length) := by omega
  simp only [go_sem, seval, hs, h1']
  refine hE _ _ _ (by simp) ?_
  simp only [go_sem, seval, hs]
  refine fin_at hQ rfl ?_; simp only [go_sem, seval, aF13, hs]; rw [retQ_some]; simp only [oneOr]
  refine hq' _ ?_
  rw [← hw, List.drop_of_length_le (by omega)]
  by_cases h2 : k < ys.length
  ·rw [List.drop_eq_getElem_cons h2]
   simp [wayB]
   omega
  ·rw [List.drop_of_length_le (by omega)]
   simp [wayB]
   omega
 have h1' : (k : Int) < xs.length := by omega
 by_cases h2 : k < ys.length
 case' neg =>
  have h2' : ¬ ((k : Int) < ys.length) := by omega
  simp only [go_sem, seval, hs, h1', h2']
  refine hE _ _ _ (by simp) ?_
  simp only [go_sem, seval, hs]
  refine fin_at hQ rfl ?_; simp only [go_sem, seval, aF13, hs]; rw [retQ_some]; simp only [oneOr]
  refine hq' _ ?_
  rw [← hw, show ys.drop k = [] from List.drop_of_length_le (by omega), List.drop_eq_getElem_cons h1]
  simp [wayB]
  omega
 have h2' : (k : Int) < ys.length := by omega
 have rx := stp_at hbx h1
 have ry := stp_at hby h2
 have hw1 : IntKind.i64.wrap ((k : Int) + 1) = ((k + 1 : Nat) : Int) := by rw [wrap64_id (by omega) (by omega)]; omega
 rw [List.drop_eq_getElem_cons h1, List.drop_eq_getElem_cons h2, wayB] at hw
 cases he : stpE xs[k] ys[k]
 ·rw [he, if_neg (by decide)] at hw
  simp only [go_sem, seval, hs, h1', h2', k0, Int.toNat_natCast, rx, ry, flat_stp, he]
  refine cK_of (less29 xs[k] ys[k] S4) ?_
  rintro v S5 _ hL5 ⟨rfl, hS5⟩
  obtain rfl := hS5.symm
  simp only [go_sem, seval, hs]
  refine hE _ _ _ (by simp) ?_
  simp only [go_sem, seval, hs]
  refine fin_at hQ rfl ?_; simp only [go_sem, seval, aF13, hs]; rw [retQ_some]; simp only [oneOr]
  exact hq' _ hw
 ·rw [he, if_pos rfl] at hw
  simp only [go_sem, seval, hs, h1', h2', k0, Int.toNat_natCast, rx, ry, flat_stp, he, hw1]
  refine hN _ _ ⟨rfl, k + 1, by omega, by omega, hw, ?_⟩ ?_
  ·simp only [go_sem, seval, Int.natCast_add, Int.natCast_succ, hs]
  ·simp only [go_sem, seval, hs]
   simp [RowKit.intOf]
   omega
/-- The items, in order. -/
theorem its_order {bs : List Value} {cl : List Rc} {ns : List Nat} (h : ns.Pairwise (WLt l)) : (itsOf l bs cl ns).Pairwise fun a b => lessB l a.n.toNat b.n.toNat a.k b.k = true := by
 unfold itsOf
 rw [List.pairwise_flatMap]
 refine ⟨fun n _ => ?_, h.imp fun hab a ha b hb => ?_⟩
 ·unfold itemsOf
  rw [List.pairwise_append]
  refine ⟨by split <;> simp, by split <;> simp, fun a ha b hb => ?_⟩
  split at ha
  ·split at hb
   ·rw [List.mem_singleton] at ha hb
    subst ha; subst hb
    unfold lessB
    simp
   ·simp at hb
  ·simp at ha
 ·have hne := hab
  unfold WLt at hab
  have e1 := items_n ha
  have e2 := items_n hb
  unfold lessB
  rw [e1, e2, Int.toNat_natCast, Int.toNat_natCast, if_neg, hab]
  rintro rfl
  rw [wayB_irr] at hab; cases hab
theorem its_made {bs : List Value} {cl : List Rc} {ns : List Nat} (h : ∀ m, m ∈ ns ↔ m < l.length ∧ madeL l m = true) {i : It} (hi : i ∈ itsOf l bs cl ns) : ∃ m : Nat, i.n = m ∧ m < l.length ∧ madeL l m = true := by
 obtain ⟨n, hn, hi⟩ := List.mem_flatMap.1 hi
 exact ⟨n, items_n hi, (h n).1 hn⟩
end
end Go.Proofs.YtegaklgjcicnfaaGreat
