/- Rectangles; items. -/
import Derived.Test.YtegaklgjcicnfaaGreatGG
set_option linter.unusedSimpArgs false
set_option linter.unusedVariables false
namespace Go.Proofs.YtegaklgjcicnfaaGreat
open Go Go.Proofs.YtegaklgjcicnfaaGreat.Abs
structure Rc where
 a : Int
 b : Int
 c : Int
 d : Int
def Rc.cells (r : Rc) : List Value := iV [r.a, r.b, r.c, r.d]
def Rc.v (r : Rc) : Value := .agg #[.int .i64 r.a, .int .i64 r.b, .int .i64 r.c, .int .i64 r.d]
def emptyR (r : Rc) : Bool := decide (r.a ≥ r.c) || decide (r.b ≥ r.d)
def meetM (r s : Rc) : Rc := ⟨if s.a > r.a then s.a else r.a, if s.b > r.b then s.b else r.b, if s.c < r.c then s.c else r.c, if s.d < r.d then s.d else r.d⟩
def meetR (r s : Rc) : Rc := if emptyR (meetM r s) = true then ⟨0, 0, 0, 0⟩ else meetM r s
def insideR (r s : Rc) : Bool := emptyR r || (decide (r.a ≥ s.a) && decide (r.c ≤ s.c) && decide (r.b ≥ s.b) && decide (r.d ≤ s.d))
theorem empty93 (r : Rc) (S : St) : ACalls Tryz.prog 93 [r.v] S fun v S' => v = .bool (emptyR r) ∧ S' = S := by
 refine run_of hmix Tryz.func93 cF93 rfl fun hL Q hQ => ?_
 unfold emptyR at hQ
 by_cases h1 : r.a ≥ r.c
 ·simp only [go_sem, seval, aF93, Rc.v, decide_eq_true h1]
  refine fin_at hQ rfl ?_; simp only [go_sem, seval, aF93]; rw [retQ_some]; simp only [oneOr]
  exact ⟨by simp [decide_eq_true h1], trivial⟩
 ·simp only [go_sem, seval, aF93, Rc.v, decide_eq_false h1]
  refine fin_at hQ rfl ?_; simp only [go_sem, seval, aF93]; rw [retQ_some]; simp only [oneOr]
  exact ⟨by simp [decide_eq_false h1], trivial⟩
theorem meet54 (r s : Rc) (S : St) : ACalls Tryz.prog 54 [r.v, s.v] S fun v S' => v = (meetR r s).v ∧ S' = S := by
 refine run_of hmix Tryz.func54 cF54 rfl fun hL Q hQ => ?_
 simp only [go_sem, seval, aF54, Rc.v]
 refine cK_of (empty93 (meetM r s) S) ?_
 rintro v S1 _ hL1 ⟨rfl, hS1⟩
 obtain rfl := hS1.symm
 cases he : emptyR (meetM r s)
 ·have hm : meetR r s = meetM r s := by unfold meetR; rw [he]; rfl
  simp only [go_sem, seval]
  refine fin_at hQ rfl ?_; simp only [go_sem, seval, aF54]; rw [retQ_some]; simp only [oneOr]
  exact ⟨by rw [hm]; rfl, trivial⟩
 ·simp only [go_sem, seval]
  refine fin_at hQ rfl ?_; simp only [go_sem, seval, aF54]; rw [retQ_some]; simp only [oneOr]
  exact ⟨by unfold meetR; rw [if_pos he]; rfl, trivial⟩
theorem inside95 (r s : Rc) (S : St) : ACalls Tryz.prog 95 [r.v, s.v] S fun v S' => v = .bool (insideR r s) ∧ S' = S := by
 refine run_of hmix Tryz.func95 cF95 rfl fun hL Q hQ => ?_
 simp only [go_sem, seval, aF95, Rc.v]
 refine cK_of (empty93 r S) ?_
 rintro v S1 _ hL1 ⟨rfl, hS1⟩
 obtain rfl := hS1.symm
 unfold insideR at hQ
 cases he : emptyR r
 case' true =>
  simp only [go_sem, seval]
  refine fin_at hQ rfl ?_; simp only [go_sem, seval, aF95]; rw [retQ_some]; simp only [oneOr]
  exact ⟨by simp [he], trivial⟩
 by_cases h1 : r.a ≥ s.a
 case' neg =>
  simp only [go_sem, seval, decide_eq_false h1]
  refine fin_at hQ rfl ?_; simp only [go_sem, seval, aF95]; rw [retQ_some]; simp only [oneOr]
  exact ⟨by simp [he, decide_eq_false h1], trivial⟩
 by_cases h2 : r.c ≤ s.c
 case' neg =>
  simp only [go_sem, seval, decide_eq_true h1, decide_eq_false h2]
  refine fin_at hQ rfl ?_; simp only [go_sem, seval, aF95]; rw [retQ_some]; simp only [oneOr]
  exact ⟨by simp [he, decide_eq_false h2], trivial⟩
 by_cases h3 : r.b ≥ s.b
 case' neg =>
  simp only [go_sem, seval, decide_eq_true h1, decide_eq_true h2, decide_eq_false h3]
  refine fin_at hQ rfl ?_; simp only [go_sem, seval, aF95]; rw [retQ_some]; simp only [oneOr]
  exact ⟨by simp [he, decide_eq_false h3], trivial⟩
 simp only [go_sem, seval, decide_eq_true h1, decide_eq_true h2, decide_eq_true h3]
 refine fin_at hQ rfl ?_; simp only [go_sem, seval, aF95]; rw [retQ_some]; simp only [oneOr]
 exact ⟨by simp [he, decide_eq_true h1, decide_eq_true h2, decide_eq_true h3], trivial⟩
/-- An item. -/
structure It where
 n : Int
 k : Int
 r : Rc
 h : Rc
 c : Rc
 col : Int
def It.ints (i : It) : List Int := [i.n, i.k, i.r.a, i.r.b, i.r.c, i.r.d, i.h.a, i.h.b, i.h.c, i.h.d, i.c.a, i.c.b, i.c.c, i.c.d, i.col]
def It.cells (i : It) : List Value := iV i.ints
theorem It.cells_eq (i : It) : i.cells = [.int .i64 i.n, .int .i64 i.k, .int .i64 i.r.a, .int .i64 i.r.b, .int .i64 i.r.c, .int .i64 i.r.d, .int .i64 i.h.a, .int .i64 i.h.b, .int .i64 i.h.c, .int .i64 i.h.d, .int .i64 i.c.a, .int .i64 i.c.b, .int .i64 i.c.c, .int .i64 i.c.d, .int .i64 i.col] := rfl
theorem It.len (i : It) : i.cells.length = 15 := rfl
theorem It.full (i : It) : i.cells.take 15 = i.cells := rfl
theorem It.one (i : It) : i.cells[1]? = some (.int .i64 i.k) := rfl
theorem It.rc (i : It) : (i.cells.drop 2).take 4 = i.r.cells := rfl
theorem It.cc (i : It) : (i.cells.drop 10).take 4 = i.c.cells := rfl
theorem It.ow (i : It) : Go.Proofs.YtegaklgjcicnfaaGreat.Abs.ow z45 0 i.cells = i.cells := ow_all _ _ (by rw [z45_length]; rfl)
def itC (l : List It) : List Value := l.flatMap It.cells
theorem itC_app (l m : List It) : itC (l ++ m) = itC l ++ itC m := by simp [itC]
theorem itC_at : ∀ (l : List It) (j : Nat) (h : j < l.length), ((itC l).drop (j * 15)).take 15 = l[j].cells
 | i :: l, 0, _ => by
  show ((i.cells ++ itC l).drop 0).take 15 = i.cells
  rw [List.drop_zero, List.take_left' (It.len i)]
 | i :: l, j + 1, h => by
  show ((i.cells ++ itC l).drop ((j + 1) * 15)).take 15 = _
  rw [show (j + 1) * 15 = i.cells.length + j * 15 by rw [It.len]; omega, ← List.drop_drop, List.drop_left]
  exact itC_at l j (by simpa using h)
def seenR (i : It) : Rc := meetR i.r i.c
theorem seen94 (i : It) (S : St) : ACalls Tryz.prog 94 [.agg i.cells.toArray] S fun v S' => v = (seenR i).v ∧ S' = S := by
 refine run_of hmix Tryz.func94 cF94 rfl fun hL Q hQ => ?_
 simp only [go_sem, seval, aF94, It.cells_eq]
 refine cK_of (meet54 i.r i.c S) ?_
 rintro v S1 _ hL1 ⟨rfl, hS1⟩
 obtain rfl := hS1.symm
 unfold seenR at hQ
 simp only [go_sem, seval, Rc.v]
 refine fin_at hQ rfl ?_; simp only [go_sem, seval, aF94]; rw [retQ_some]; simp only [oneOr]
 first | exact ⟨rfl, trivial⟩ | exact ⟨trivial, trivial⟩
end Go.Proofs.YtegaklgjcicnfaaGreat
namespace Go.Proofs.YtegaklgjcicnfaaGreat
open Go Go.Proofs.YtegaklgjcicnfaaGreat.Abs
def It.zero : It := ⟨0, 0, ⟨0, 0, 0, 0⟩, ⟨0, 0, 0, 0⟩, ⟨0, 0, 0, 0⟩, 0⟩
def gI (its : List It) (n : Nat) : It := its.getD n .zero
theorem gI_get {its : List It} {n : Nat} (h : n < its.length) : gI its n = its[n] := by simp [gI, List.getD_eq_getElem?_getD, h]
/-- Does an item hide another? -/
def hides (r : Rc) (x : It) : Bool := (x.k == 0) && insideR r (seenR x)
def hidP (its : List It) (n : Nat) : Bool := emptyR (seenR (gI its n)) || (its.drop (n + 1)).any (hides (seenR (gI its n)))
def cullTo (its : List It) (j : Nat) : List It := ((List.range j).filter fun n => !hidP its n).map (gI its)
def cullL (its : List It) : List It := cullTo its its.length
theorem cullTo_succ (its : List It) (j : Nat) : cullTo its (j + 1) = cullTo its j ++ if hidP its j = true then [] else [gI its j] := by
 unfold cullTo
 rw [List.range_succ, List.filter_append, List.map_append]
 congr 1
 cases h : hidP its j <;> simp [h]
theorem cullTo_len (its : List It) (j : Nat) : (cullTo its j).length ≤ j := by
 unfold cullTo
 rw [List.length_map]
 have := List.length_filter_le (fun n => !hidP its n) (List.range j)
 rwa [List.length_range] at this
abbrev Its (S : St) (v : Value) (its : List It) : Prop := Sl S 15 v its.length (itC its)
theorem its_at {S : St} {d o e : Nat} {its : List It} (h : cellsOf S d o (its.length * 15) = some (itC its)) {j : Nat} (hj : j < its.length) : cellsOf S d (o + j * 15) 15 = some (gI its j).cells := by
 rw [cellsOf_of_cells h (by omega), itC_at its j hj, gI_get hj]
set_option maxHeartbeats 1000000 in
theorem hidden57 (v : Value) (its : List It) (n : Nat) (S : St) (h : Its S v its) (hn : n < its.length) (hl : its.length ≤ 1000000000) : ACalls Tryz.prog 57 [v, .int .i64 n] S fun r S' => r = .bool (hidP its n) ∧ S' = S := by
 refine run_of hmix Tryz.func57 cF57 rfl fun hL Q hQ => ?_
 obtain ⟨d, o, e, rfl, he, hc⟩ := h.ne (by omega)
 have hn0 : (0 : Int) ≤ n := by omega
 have hnl : (n : Int) < its.length := by omega
 have c1 := its_at (e := e) hc hn
 have f0 : ¬ (n : Int) < 0 := by omega
 have f1 : ¬ (n : Int) ≥ its.length := by omega
 simp only [go_sem, seval, aF57, decide_eq_false f0, decide_eq_false f1, hn0, hnl, Int.toNat_natCast, c1]
 refine cK_of (seen94 (gI its n) S) ?_
 rintro v S1 _ hL1 ⟨rfl, hS1⟩
 obtain rfl := hS1.symm
 obtain ⟨sr, hsr⟩ : ∃ sr, sr = seenR (gI its n) := ⟨_, rfl⟩
 rw [← hsr]
 unfold hidP at hQ
 rw [← hsr] at hQ
 simp only [go_sem, seval, Rc.v]
 refine cK_of (empty93 sr S) ?_
 rintro v S1 _ hL1' ⟨rfl, hS1⟩
 obtain rfl := hS1.symm
 cases hem : emptyR sr
 case' true =>
  simp only [go_sem, seval]
  refine fin_at hQ rfl ?_; simp only [go_sem, seval, aF57]; rw [retQ_some]; simp only [oneOr]
  exact ⟨by simp [hem], trivial⟩
 have hw : IntKind.i64.wrap ((n : Int) + 1) = ((n + 1 : Nat) : Int) := by rw [wrap64_id (by omega) (by omega)]; omega
 have hn1 : (0 : Int) ≤ (n + 1 : Nat) := by omega
 have hle : (n + 1 ≤ its.length ∧ (e = 0 ∨ e = 15)) = True := eq_true ⟨by omega, he⟩
 simp only [go_sem, seval, hw, hn1, Int.toNat_natCast, hle]
 have hhl : ∀ j, j < its.length - (n + 1) → (its.drop (n + 1))[j]? = some (gI its (n + 1 + j)) := fun j hj => by
  rw [List.getElem?_drop, List.getElem?_eq_getElem (by omega), gI_get (by omega)]
 refine lK_of (fun t' S' => S' = S ∧ ∃ j : Nat, j ≤ its.length - (n + 1) ∧ ((its.drop (n + 1)).take j).any (hides sr) = false ∧ Slots t' [(5, sr.v), (26, .slice (some ⟨d, o + (n + 1) * 15, none⟩) (its.length - (n + 1)) e), (27, .int .i64 (its.length - (n + 1) : Nat)), (28, .int .i64 j)]) (fun t' _ => its.length - (RowKit.intOf (t' 28)).toNat) ?_ ?_
 ·refine ⟨rfl, 0, by omega, by simp, ?_⟩
  simp only [go_sem, seval, Int.natCast_add, Int.natCast_succ, Rc.v]
 rintro t1 S1 Q1 ⟨rfl, j, hj, hany, hs⟩ hL1 hN hE
 simp only [slots_cons, slots_nil, Rc.v] at hs
 by_cases hjn : j = its.length - (n + 1)
 ·subst hjn
  simp only [go_sem, seval, hs, Int.lt_irrefl]
  refine hE _ _ _ (by simp) ?_
  simp only [go_sem, seval, hs]
  refine fin_at hQ rfl ?_; simp only [go_sem, seval, aF57, hs]; rw [retQ_some]; simp only [oneOr]
  rw [List.take_of_length_le (by rw [List.length_drop]; omega)] at hany
  exact ⟨by rw [hany, hem]; rfl, trivial⟩
 have hjl : (j : Int) < (its.length - (n + 1) : Nat) := by omega
 have hj0 : (0 : Int) ≤ j := by omega
 have hx := its_at (e := e) hc (j := n + 1 + j) (by omega)
 have hoff : o + (n + 1) * 15 + j * 15 = o + (n + 1 + j) * 15 := by omega
 have hw1 : IntKind.i64.wrap ((j : Int) + 1) = ((j + 1 : Nat) : Int) := by rw [wrap64_id (by omega) (by omega)]; omega
 have htk : (its.drop (n + 1)).take (j + 1) = (its.drop (n + 1)).take j ++ [gI its (n + 1 + j)] := by
  rw [List.take_add_one, hhl j (by omega)]; rfl
 obtain ⟨x, hxx⟩ : ∃ x, x = gI its (n + 1 + j) := ⟨_, rfl⟩
 rw [← hxx] at hx htk
 have next : ∀ t9, Slots t9 [(5, sr.v), (26, .slice (some ⟨d, o + (n + 1) * 15, none⟩) (its.length - (n + 1)) e), (27, .int .i64 (its.length - (n + 1) : Nat)), (28, .int .i64 (j + 1 : Nat))] → hides sr x = false → Q1 .normal t9 S1 := fun t9 h9 hx9 => by
  refine hN _ _ ⟨rfl, j + 1, by omega, ?_, h9⟩ ?_
  ·rw [htk, List.any_append, hany]; simp [hx9]
  ·simp only [slots_cons, slots_nil] at h9
   rw [h9.2.2.2.1, hs.2.2.2.1]
   simp [RowKit.intOf]
   omega
 cases hk : x.k == 0
 ·simp only [go_sem, seval, hs, hjl, hj0, Int.toNat_natCast, hoff, hx, It.len, It.full, It.ow, It.one, hk, hw1]
  refine next _ ?_ (by unfold hides; rw [hk]; rfl)
  simp only [go_sem, seval, Int.natCast_add, Int.natCast_succ, hs, Rc.v]
 ·simp only [go_sem, seval, hs, hjl, hj0, Int.toNat_natCast, hoff, hx, It.len, It.full, It.ow, It.one, hk, hw1]
  refine cK_of (seen94 x S1) ?_
  rintro v S2 _ hL2 ⟨rfl, hS2⟩
  obtain rfl := hS2.symm
  simp only [go_sem, seval, hs]
  refine cK_of (inside95 sr (seenR x) S1) ?_
  rintro v S2 _ hL2' ⟨rfl, hS2⟩
  obtain rfl := hS2.symm
  cases hi : insideR sr (seenR x)
  ·simp only [go_sem, seval, hs, hw1]
   refine next _ ?_ (by unfold hides; rw [hk, hi]; rfl)
   simp only [go_sem, seval, Int.natCast_add, Int.natCast_succ, hs, Rc.v]
  ·simp only [go_sem, seval, hs]
   refine hE _ _ _ (by simp) ?_
   simp only [go_sem, seval, hs]
   refine fin_at hQ rfl ?_; simp only [go_sem, seval, aF57, hs]; rw [retQ_some]; simp only [oneOr]
   refine ⟨?_, trivial⟩
   have : (its.drop (n + 1)).any (hides sr) = true := by
    rw [List.any_eq_true]
    exact ⟨x, List.mem_iff_getElem?.2 ⟨j, by rw [hhl j (by omega), hxx]⟩, by unfold hides; rw [hk, hi]; rfl⟩
   rw [this, Bool.or_true]
set_option maxHeartbeats 1000000 in
theorem cull27 (v : Value) (its : List It) (S : St) (h : Its S v its) (hl : its.length ≤ 1000000000) : ACalls Tryz.prog 27 [v] S fun r S' => Own S' 15 r (cullL its).length (itC (cullL its)) ∧ KeepsAll S S' ∧ Fresh S r := by
 refine run_of hmix Tryz.func27 cF27 rfl fun hL Q hQ => ?_
 obtain ⟨a, e, rfl⟩ := h.slice
 simp only [go_sem, seval, aF27]
 refine lK_of (fun t' S' => ∃ (j : Nat) (x : Value), j ≤ its.length ∧ Live S' ∧ KeepsAll S S' ∧ Own S' 15 x (cullTo its j).length (itC (cullTo its j)) ∧ Fresh S x ∧ Slots t' [(0, .slice a its.length e), (3, x), (6, .slice a its.length e), (7, .int .i64 its.length), (8, .int .i64 j)]) (fun t' _ => its.length - (RowKit.intOf (t' 8)).toNat) ?_ ?_
 ·refine ⟨0, .slice none 0 0, by omega, hL, Keeps.refl _ _, .inl ⟨rfl, rfl, rfl⟩, fun d hd => by simp [Value.blkOf] at hd, ?_⟩
  simp only [go_sem, seval, Int.natCast_add, Int.natCast_succ]
 rintro t1 S1 Q1 ⟨j, x, hj, hL1, hk1, ho, hf, hs⟩ _ hN hE
 simp only [slots_cons, slots_nil] at hs
 by_cases hjn : j = its.length
 ·subst hjn
  simp only [go_sem, seval, hs, Int.lt_irrefl]
  refine hE _ _ _ (by simp) ?_
  simp only [go_sem, seval, hs]
  refine fin_at hQ rfl ?_; simp only [go_sem, seval, aF27, hs]; rw [retQ_some]; simp only [oneOr]
  exact ⟨ho, hk1, hf⟩
 have hjl : (j : Int) < its.length := by omega
 have hj' : j < its.length := by omega
 have hj0 : (0 : Int) ≤ j := by omega
 have hw1 : IntKind.i64.wrap ((j : Int) + 1) = ((j + 1 : Nat) : Int) := by rw [wrap64_id (by omega) (by omega)]; omega
 have h1 := h.keeps hL hk1 fun _ _ => trivial
 obtain ⟨d, o, e', he, _, hc⟩ := h1.ne (by omega)
 cases he
 have hx := its_at (e := e) hc hj'
 have hsu := cullTo_succ its j
 simp only [go_sem, seval, hs, hjl, hj0, Int.toNat_natCast, hx, It.len, It.full, It.ow]
 refine cK_of (hidden57 _ its j S1 h1 hj' hl) ?_
 rintro v S2 _ hL2 ⟨rfl, hS2⟩
 obtain rfl := hS2.symm
 obtain ⟨xa, xe, rfl⟩ := ho.sl.slice
 cases hh : hidP its j
 ·rw [hh] at hsu
  simp only [go_sem, seval, hs, It.len, It.full, It.ow]
  have hcl := cullTo_len its j
  refine hK_of (appN hL1 (by decide) ho (It.len (gI its j)) (by omega)) ?_
  rintro v S3 ⟨⟨va, ve, rfl⟩, hA⟩
  have e1 : itC (cullTo its (j + 1)) = itC (cullTo its j) ++ (gI its j).cells := by rw [hsu, itC_app]; simp [itC]
  have e2 : (cullTo its (j + 1)).length = (cullTo its j).length + 1 := by rw [hsu]; simp
  simp only [go_sem, seval, hs, hw1]
  refine hN _ _ ⟨j + 1, _, by omega, hA.live, hA.keeps hf hk1, by rw [e1, e2]; exact hA.own, hA.fresh hf hk1.1, ?_⟩ ?_
  ·simp only [go_sem, seval, Int.natCast_add, Int.natCast_succ, hs]
  ·simp only [go_sem, seval, hs]
   simp [RowKit.intOf]
   omega
 ·rw [hh] at hsu
  have e1 : cullTo its (j + 1) = cullTo its j := by rw [hsu]; simp
  simp only [go_sem, seval, hs, hw1]
  refine hN _ _ ⟨j + 1, _, by omega, hL1, hk1, by rw [e1]; exact ho, hf, ?_⟩ ?_
  ·simp only [go_sem, seval, Int.natCast_add, Int.natCast_succ, hs]
  ·simp only [go_sem, seval, hs]
   simp [RowKit.intOf]
   omega
end Go.Proofs.YtegaklgjcicnfaaGreat
namespace Go.Proofs.YtegaklgjcicnfaaGreat
open Go Go.Proofs.YtegaklgjcicnfaaGreat.Abs
def nS (l : List Nd) (n : Nat) : Sty := match l[n]? with | some x => x.s | none => zeroS
theorem nS_get {l : List Nd} {n : Nat} (h : n < l.length) : l[n].s = nS l n := by unfold nS; rw [List.getElem?_eq_getElem h]
theorem nS_ok {l : List Nd} (hok : ∀ x ∈ l, x.Ok) {n : Nat} (h : n < l.length) : (nS l n).Ok := by rw [← nS_get h]; exact (hok _ (List.getElem_mem h)).s
def leadsL (l : List Nd) (n : Nat) : Bool := madeL l n && (n == 0 || posd l n)
def formsL (l : List Nd) (n : Nat) : Bool := leadsL l n && (n == 0 || (nS l n).hasZ)
section
variable {S : St} {hi kp : Nat} {l : List Nd}
theorem leads87 (hok : ∀ x ∈ l, x.Ok) {n : Nat} (hn : n < l.length) (hK : KinAt S hi kp l) : ACalls Tryz.prog 87 [ptr kp, .int .i64 n] S fun r S' => r = .bool (leadsL l n) ∧ S' = S := by
 refine run_of hmix Tryz.func87 cF87 rfl fun hL Q hQ => ?_
 unfold leadsL at hQ
 simp only [go_sem, seval, aF87]
 refine cK_of (made39 hK hn) ?_
 rintro v S1 _ hL1 ⟨rfl, hS1⟩
 obtain rfl := hS1.symm
 cases hm : madeL l n
 ·simp only [go_sem, seval]
  refine fin_at hQ rfl ?_; simp only [go_sem, seval, aF87]; rw [retQ_some]; simp only [oneOr]
  exact ⟨by simp [hm], trivial⟩
 cases h0 : n == 0
 case' true =>
  have h0' : ((n : Int) == 0) = true := by simp at h0 ⊢; exact h0
  simp only [go_sem, seval, h0']
  refine fin_at hQ rfl ?_; simp only [go_sem, seval, aF87]; rw [retQ_some]; simp only [oneOr]
  exact ⟨by simp [hm, h0], trivial⟩
 have h0' : ((n : Int) == 0) = false := by simp at h0 ⊢; exact h0
 simp only [go_sem, seval, h0']
 refine cK_of (positioned92 hok n hn S hK) ?_
 rintro v S1 _ hL1' ⟨rfl, hS1⟩
 obtain rfl := hS1.symm
 simp only [go_sem, seval]
 refine fin_at hQ rfl ?_; simp only [go_sem, seval, aF87]; rw [retQ_some]; simp only [oneOr]
 exact ⟨by simp [hm, h0], trivial⟩
theorem forms86 (hok : ∀ x ∈ l, x.Ok) {n : Nat} (hn : n < l.length) (hK : KinAt S hi kp l) : ACalls Tryz.prog 86 [ptr kp, .int .i64 n] S fun r S' => r = .bool (formsL l n) ∧ S' = S := by
 refine run_of hmix Tryz.func86 cF86 rfl fun hL Q hQ => ?_
 unfold formsL at hQ
 simp only [go_sem, seval, aF86]
 refine cK_of (leads87 hok hn hK) ?_
 rintro v S1 _ hL1 ⟨rfl, hS1⟩
 obtain rfl := hS1.symm
 cases hm : leadsL l n
 ·simp only [go_sem, seval]
  refine fin_at hQ rfl ?_; simp only [go_sem, seval, aF86]; rw [retQ_some]; simp only [oneOr]
  exact ⟨by simp [hm], trivial⟩
 cases h0 : n == 0
 case' true =>
  have h0' : ((n : Int) == 0) = true := by simp at h0 ⊢; exact h0
  simp only [go_sem, seval, h0']
  refine fin_at hQ rfl ?_; simp only [go_sem, seval, aF86]; rw [retQ_some]; simp only [oneOr]
  exact ⟨by simp [hm, h0], trivial⟩
 have h0' : ((n : Int) == 0) = false := by simp at h0 ⊢; exact h0
 simp only [go_sem, seval, h0']
 refine cK_of (style55 hK hok hn) ?_
 rintro v S1 _ hL1' ⟨rfl, hS1⟩
 obtain rfl := hS1.symm
 have hz := (nS_ok hok hn).c.hasZ
 rw [nS_get hn]
 simp only [go_sem, seval, hz]
 refine fin_at hQ rfl ?_; simp only [go_sem, seval, aF86]; rw [retQ_some]; simp only [oneOr]
 exact ⟨by simp [hm, h0], trivial⟩
end
/-- Rectangles, as they lie. -/
def rcC (cl : List Rc) : List Value := cl.flatMap Rc.cells
theorem rcC_len (cl : List Rc) : (rcC cl).length = cl.length * 4 := by
 induction cl with
 | nil => rfl
 | cons i l ih => simp only [rcC, List.flatMap_cons, List.length_append, List.length_cons] at ih ⊢; rw [ih]; simp [Rc.cells, iV]; omega
theorem rcC_at : ∀ (cl : List Rc) (j : Nat) (h : j < cl.length), ((rcC cl).drop (j * 4)).take 4 = cl[j].cells
 | i :: l, 0, _ => by
  show ((i.cells ++ rcC l).drop 0).take 4 = i.cells
  rw [List.drop_zero, List.take_left' (by rfl)]
 | i :: l, j + 1, h => by
  show ((i.cells ++ rcC l).drop ((j + 1) * 4)).take 4 = _
  rw [show (j + 1) * 4 = i.cells.length + j * 4 by simp [Rc.cells, iV]; omega, ← List.drop_drop, List.drop_left]
  exact rcC_at l j (by simpa using h)
theorem rcC_app (l m : List Rc) : rcC (l ++ m) = rcC l ++ rcC m := by simp [rcC]
theorem rcC_set (cl : List Rc) (i : Nat) (r : Rc) (h : i < cl.length) : Go.Proofs.YtegaklgjcicnfaaGreat.Abs.ow (rcC cl) (i * 4) r.cells = rcC (cl.set i r) := by
 have hr : r.cells.length = 4 := rfl
 rw [ow_eq _ _ _ (by rw [rcC_len, hr]; omega)]
 have h1 : cl = cl.take i ++ cl[i] :: cl.drop (i + 1) := by simp
 have hl : (rcC (cl.take i)).length = i * 4 := by rw [rcC_len, List.length_take, Nat.min_eq_left (by omega)]
 have hc : ∀ (e : Rc) (es : List Rc), rcC (e :: es) = e.cells ++ rcC es := fun _ _ => rfl
 have h2 : rcC cl = rcC (cl.take i) ++ (cl[i].cells ++ rcC (cl.drop (i + 1))) := by
  conv => lhs; rw [h1]
  rw [rcC_app, hc]
 have e1 : (rcC cl).take (i * 4) = rcC (cl.take i) := by rw [h2, List.take_left' hl]
 have e2 : (rcC cl).drop (i * 4 + r.cells.length) = rcC (cl.drop (i + 1)) := by
  rw [h2, ← List.append_assoc, List.drop_left']
  rw [List.length_append, hl]; rfl
 rw [e1, e2, List.set_eq_take_append_cons_drop, if_pos h, rcC_app, hc, List.append_assoc]
def gR (cl : List Rc) (n : Nat) : Rc := cl.getD n ⟨0, 0, 0, 0⟩
theorem gR_get {cl : List Rc} {n : Nat} (h : n < cl.length) : gR cl n = cl[n] := by simp [gR, List.getD_eq_getElem?_getD, h]
def rcOf (xs : List Int) : Rc := ⟨xs.getD 0 0, xs.getD 1 0, xs.getD 2 0, xs.getD 3 0⟩
theorem padsL_rc (cs : List Value) : Value.agg (iV (padsL cs)).toArray = (rcOf (padsL cs)).v := by unfold padsL; split <;> rfl
theorem edgesL_rc (cs : List Value) : Value.agg (iV (edgesL cs)).toArray = (rcOf (edgesL cs)).v := by unfold edgesL; split <;> rfl
/-- A box's cells. -/
def bxAt (bs : List Value) (n : Nat) : List Value := (bs.drop (n * 21)).take 21
def padR (bs : List Value) (n : Nat) : Rc := rcOf (padsL (bxAt bs n))
def edgeR (bs : List Value) (n : Nat) : Rc := rcOf (edgesL (bxAt bs n))
/-- What clips a box, by what clips others. -/
def clipOf (l : List Nd) (bs : List Value) (v0 v1 : Int) (f : Nat → Rc) (n : Nat) : Rc :=
 if madeL l n = false then ⟨0, 0, 0, 0⟩ else if holdOf l n = -1 then meetR ⟨0, 0, v0, v1⟩ ⟨0, 0, v0, v1⟩ else
 if (nS l (holdOf l n).toNat).clip = true then meetR (f (holdOf l n).toNat) (padR bs (holdOf l n).toNat) else f (holdOf l n).toNat
def clipsTo (l : List Nd) (bs : List Value) (v0 v1 : Int) : Nat → List Rc
 | 0 => []
 | j + 1 => clipsTo l bs v0 v1 j ++ [clipOf l bs v0 v1 (gR (clipsTo l bs v0 v1 j)) j]
theorem clipsTo_len (l : List Nd) (bs : List Value) (v0 v1 : Int) (j : Nat) : (clipsTo l bs v0 v1 j).length = j := by
 induction j with
 | zero => rfl
 | succ j ih => simp [clipsTo, ih]
/-- All but the first are yet nothing. -/
def clipsV (l : List Nd) (bs : List Value) (v0 v1 : Int) (m j : Nat) : List Rc := clipsTo l bs v0 v1 j ++ List.replicate (m - j) ⟨0, 0, 0, 0⟩
theorem clipsV_len (l : List Nd) (bs : List Value) (v0 v1 : Int) {m j : Nat} (h : j ≤ m) : (clipsV l bs v0 v1 m j).length = m := by simp [clipsV, clipsTo_len]; omega
theorem clipsV_lt (l : List Nd) (bs : List Value) (v0 v1 : Int) {m j k : Nat} (h : k < j) : gR (clipsV l bs v0 v1 m j) k = gR (clipsTo l bs v0 v1 j) k := by
 simp [gR, clipsV, List.getD_eq_getElem?_getD, List.getElem?_append_left, clipsTo_len, h]
theorem clipsV_set (l : List Nd) (bs : List Value) (v0 v1 : Int) {m j : Nat} (h : j < m) : (clipsV l bs v0 v1 m j).set j (clipOf l bs v0 v1 (gR (clipsTo l bs v0 v1 j)) j) = clipsV l bs v0 v1 m (j + 1) := by
 unfold clipsV
 rw [List.set_append_right _ _ (by rw [clipsTo_len]; omega), clipsTo_len, Nat.sub_self, show m - j = (m - (j + 1)) + 1 by omega, List.replicate_succ, List.set_cons_zero]
 simp [clipsTo]
end Go.Proofs.YtegaklgjcicnfaaGreat
namespace Go.Proofs.YtegaklgjcicnfaaGreat
open Go Go.Proofs.YtegaklgjcicnfaaGreat.Abs
theorem made4 (n : Nat) : (madeCells [.int .i64 0, .int .i64 0, .int .i64 0, .int .i64 0].toArray (n * 4)).toList = rcC (List.replicate n ⟨0, 0, 0, 0⟩) := by
 have hc : ∀ i, (madeCells [.int .i64 0, .int .i64 0, .int .i64 0, .int .i64 0].toArray (n * 4)).toList[i]? = if i < n * 4 then some (.int .i64 0) else none := fun i => by
  rw [Array.getElem?_toList]
  unfold madeCells
  rw [Array.getElem?_map, Array.getElem?_range]
  split
  ·have : i % 4 = 0 ∨ i % 4 = 1 ∨ i % 4 = 2 ∨ i % 4 = 3 := by omega
   simp only [Option.map_some]
   show some (([Value.int IntKind.i64 0, .int .i64 0, .int .i64 0, .int .i64 0].toArray)[i % 4]!) = _
   rcases this with h | h | h | h <;> rw [h] <;> rfl
  ·rfl
 have hr : rcC (List.replicate n ⟨0, 0, 0, 0⟩) = List.replicate (n * 4) (.int .i64 0) := by
  induction n with
  | zero => rfl
  | succ n ih =>
   rw [List.replicate_succ, show (n + 1) * 4 = n * 4 + 1 + 1 + 1 + 1 by omega]
   simp only [List.replicate_succ]
   show _ ++ rcC _ = _
   rw [ih (fun i => by
    rw [Array.getElem?_toList]
    unfold madeCells
    rw [Array.getElem?_map, Array.getElem?_range]
    split
    ·have : i % 4 = 0 ∨ i % 4 = 1 ∨ i % 4 = 2 ∨ i % 4 = 3 := by omega
     simp only [Option.map_some]
     show some (([Value.int IntKind.i64 0, .int .i64 0, .int .i64 0, .int .i64 0].toArray)[i % 4]!) = _
     rcases this with h | h | h | h <;> rw [h] <;> rfl
    ·rfl)]
   rfl
 rw [hr]
 apply List.ext_getElem?
 intro i
 rw [hc, List.getElem?_replicate]
theorem rc_at {S : St} {dc p : Nat} {cl : List Rc} (h : S.blk dc = some ⟨false, rcC cl⟩) (hp : p < cl.length) : cellsOf S dc (p * 4) 4 = some (gR cl p).cells := by
 rw [cellsOf_of_blk h, if_pos (by show p * 4 + 4 ≤ (rcC cl).length; rw [rcC_len]; omega), gR_get hp]
 exact congrArg some (rcC_at cl p hp)
theorem gR_set {cl : List Rc} {i k : Nat} {r : Rc} (h : i < cl.length) : gR (cl.set i r) k = if i = k then r else gR cl k := by
 unfold gR
 rw [List.getD_eq_getElem?_getD, List.getElem?_set, List.getD_eq_getElem?_getD]
 split
 ·rename_i e; subst e; simp [h]
 ·rfl
theorem Rc.vc (r : Rc) : Value.agg r.cells.toArray = r.v := rfl
theorem firstPosd_le {l : List Nd} (htr : Tr (par l) l.length) : ∀ (d : Nat) (a : Int), -1 ≤ a → a < l.length → a < d → -1 ≤ firstPosd l a ∧ firstPosd l a ≤ a := by
 intro d
 induction d with
 | zero => intro a h1 h2 h3; rw [firstPosd_neg (by omega)]; omega
 | succ d ih =>
  intro a h1 h2 h3
  by_cases ha : a < 0
  ·rw [firstPosd_neg ha]; omega
  ·obtain ⟨k, rfl⟩ : ∃ k : Nat, a = k := ⟨a.toNat, by omega⟩
   rw [firstPosd_pos htr (by omega)]
   have := htr k (by omega)
   split
   ·omega
   ·have := ih (par l k) (by omega) (by omega) (by omega); omega
theorem holdOf_lt' {l : List Nd} (htr : Tr (par l) l.length) {n : Nat} (hn : n < l.length) : -1 ≤ holdOf l n ∧ holdOf l n < n := by
 have hp := htr n hn
 unfold holdOf
 split
 ·omega
 split
 ·omega
 split
 ·omega
 have := firstPosd_le htr l.length (par l n) (by omega) (by omega) (by omega)
 omega
set_option maxHeartbeats 2000000 in
theorem clip26 {S : St} {hi kp : Nat} {l : List Nd} (hok : ∀ x ∈ l, x.Ok) (htr : Tr (par l) l.length) (hl : l.length ≤ 1000000) (db : Nat) (bs : List Value) (v0 v1 : Int) (hK : KinAt S hi kp l) (hh : hi ≤ S.next) (hb : S.blk db = some ⟨false, bs⟩) (hbl : bs.length = l.length * 21) (hbo : ∀ j, j < l.length → BoxOk (bxAt bs j)) :
  ACalls Tryz.prog 26 [ptr kp, .slice (some ⟨db, 0, none⟩) l.length 21, .agg #[.int .i64 v0, .int .i64 v1]] S fun r S' => ∃ dc, r = .slice (some ⟨dc, 0, none⟩) l.length 4 ∧ S'.blk dc = some ⟨false, rcC (clipsTo l bs v0 v1 l.length)⟩ ∧ S.next ≤ dc ∧ KeepsAll S S' := by
 refine run_of hmix Tryz.func26 cF26 rfl fun hL Q hQ => ?_
 simp only [go_sem, seval, aF26]
 refine cK_of (len50 hK) ?_
 rintro v S1 _ hL1 ⟨rfl, hS1⟩
 obtain rfl := hS1.symm
 have a0 : (0 : Int) ≤ l.length := by omega
 have a1 : (l.length : Int) * 32 ≤ 1099511627776 := by omega
 simp only [go_sem, seval, bne_self_eq_false, a0, a1, Int.le_refl, Int.toNat_natCast, made4]
 obtain ⟨dc, hdc⟩ : ∃ dc, dc = S.next := ⟨_, rfl⟩
 obtain ⟨S1, hS1'⟩ : ∃ S1, S1 = S.new ⟨false, rcC (List.replicate l.length ⟨0, 0, 0, 0⟩)⟩ := ⟨_, rfl⟩
 have k1 : KeepsAll S S1 := by rw [hS1']; exact Keeps.of_new _ _ _
 have hLS1 : Live S1 := by rw [hS1']; exact hL.new _
 have b1 : S1.blk dc = some ⟨false, rcC (clipsV l bs v0 v1 l.length 0)⟩ := by rw [hS1', hdc, St.blk_new, if_pos rfl]; simp [clipsV, clipsTo]
 rw [← hS1', ← hdc]
 refine lK_of (fun t' S' => ∃ j : Nat, j ≤ l.length ∧ Live S' ∧ KeepsAll S S' ∧ S'.blk dc = some ⟨false, rcC (clipsV l bs v0 v1 l.length j)⟩ ∧ Slots t' [(0, ptr kp), (1, .slice (some ⟨db, 0, none⟩) l.length 21), (5, .agg #[.int .i64 v0, .int .i64 v1]), (7, .slice (some ⟨dc, 0, none⟩) l.length 4), (19, .int .i64 l.length), (20, .int .i64 j)]) (fun t' _ => l.length - (RowKit.intOf (t' 20)).toNat) ?_ ?_
 ·refine ⟨0, by omega, hLS1, k1, b1, ?_⟩
  simp only [go_sem, seval, Int.natCast_add, Int.natCast_succ]
 clear b1 k1 hLS1 hS1'
 rintro t1 S2 Q1 ⟨j, hj, hL2, k2, b2, hs⟩ _ hN hE
 simp only [slots_cons, slots_nil] at hs
 by_cases hjn : j = l.length
 ·subst hjn
  simp only [go_sem, seval, hs, Int.lt_irrefl]
  refine hE _ _ _ (by simp) ?_
  simp only [go_sem, seval, hs]
  refine fin_at hQ rfl ?_; simp only [go_sem, seval, aF26, hs]; rw [retQ_some]; simp only [oneOr]
  refine ⟨dc, rfl, ?_, by omega, k2⟩
  rw [b2]
  simp [clipsV]
 have hjl : (j : Int) < l.length := by omega
 have hj' : j < l.length := by omega
 have hj0 : (0 : Int) ≤ j := by omega
 have hw1 : IntKind.i64.wrap ((j : Int) + 1) = ((j + 1 : Nat) : Int) := by rw [wrap64_id (by omega) (by omega)]; omega
 have K2 := hK.keeps hh k2
 have hset := clipsV_set l bs v0 v1 hj'
 have hlv := clipsV_len l bs v0 v1 (m := l.length) (j := j) (by omega)
 have hb2 : S2.blk db = some ⟨false, bs⟩ := (k2.2 _ (hL _ _ hb) trivial).trans hb
 have hdb : db < dc := by rw [hdc]; exact hL _ _ hb
 have step : ∀ (S3 : St) (t9 : Env) (r : Rc), r = clipOf l bs v0 v1 (gR (clipsTo l bs v0 v1 j)) j → Live S3 → KeepsAll S S3 → S3.blk dc = some ⟨false, rcC ((clipsV l bs v0 v1 l.length j).set j r)⟩ → Slots t9 [(0, ptr kp), (1, .slice (some ⟨db, 0, none⟩) l.length 21), (5, .agg #[.int .i64 v0, .int .i64 v1]), (7, .slice (some ⟨dc, 0, none⟩) l.length 4), (19, .int .i64 l.length), (20, .int .i64 (j + 1 : Nat))] → Q1 .normal t9 S3 := fun S3 t9 r hr h1 h2 h3 h4 => by
  refine hN _ _ ⟨j + 1, by omega, h1, h2, ?_, h4⟩ ?_
  ·rw [h3, hr, hset]
  ·simp only [slots_cons, slots_nil] at h4
   rw [h4.2.2.2.2.2.1, hs.2.2.2.2.2.1]
   simp [RowKit.intOf]
   omega
 simp only [go_sem, seval, hs, hjl]
 refine cK_of (made39 K2 hj') ?_
 rintro v Sx _ hLx ⟨rfl, hSx⟩
 obtain rfl := hSx.symm
 cases hm : madeL l j
 ·simp only [go_sem, seval, hs, hw1]
  refine step _ _ ⟨0, 0, 0, 0⟩ (by unfold clipOf; rw [if_pos hm]) hL2 k2 ?_ ?_
  ·rw [b2]
   congr 3
   apply List.ext_getElem?
   intro i
   rw [List.getElem?_set]
   split
   ·rename_i e
    subst e
    rw [if_pos (by omega)]
    unfold clipsV
    rw [List.getElem?_append_right (by rw [clipsTo_len]; omega), clipsTo_len, Nat.sub_self, List.getElem?_replicate, if_pos (by omega)]
   ·rfl
  ·simp only [go_sem, seval, Int.natCast_add, Int.natCast_succ, hs]
 simp only [go_sem, seval, hs]
 refine cK_of (hold53 hok htr j hj' S2 K2) ?_
 rintro v Sx _ hLx ⟨rfl, hSx⟩
 obtain rfl := hSx.symm
 have hhl := holdOf_lt' htr hj'
 have n4 : ∀ r : Rc, r.cells.length = 4 := fun _ => rfl
 cases hv : holdOf l j == -1
 case' true =>
  have hv' : holdOf l j = -1 := by simpa using hv
  simp only [go_sem, seval, hs, hv]
  refine cK_of (meet54 ⟨0, 0, v0, v1⟩ ⟨0, 0, v0, v1⟩ S2) ?_
  rintro v Sx _ hLx ⟨rfl, hSx⟩
  obtain rfl := hSx.symm
  have hst := rcC_set (clipsV l bs v0 v1 l.length j) j (meetR ⟨0, 0, v0, v1⟩ ⟨0, 0, v0, v1⟩) (by omega)
  have lw : j * 4 + 4 ≤ (rcC (clipsV l bs v0 v1 l.length j)).length := by rw [rcC_len, hlv]; omega
  simp only [Rc.cells, iV, List.map_cons, List.map_nil] at hst
  simp only [go_sem, seval, hs, hw1, Rc.v, hjl, hj0, Int.toNat_natCast, Nat.zero_add, b2, lw, hst]
  refine step _ _ (meetR ⟨0, 0, v0, v1⟩ ⟨0, 0, v0, v1⟩) (by unfold clipOf; rw [if_neg (by rw [hm]; decide), if_pos hv']) (hL2.set _ _ (hL2 _ _ b2)) ?_ ?_ ?_
  ·exact k2.set (fun i hi _ => by omega) _
  ·rw [blk_set_self]
  ·simp only [go_sem, seval, Int.natCast_add, Int.natCast_succ, hs]
 have hv' : holdOf l j ≠ -1 := by simpa using hv
 obtain ⟨p, hp⟩ : ∃ p : Nat, holdOf l j = p := ⟨(holdOf l j).toNat, by omega⟩
 have hpj : p < j := by omega
 have hpl : p < l.length := by omega
 have hpl' : (p : Int) < l.length := by omega
 have hp0 : (0 : Int) ≤ p := by omega
 obtain ⟨cl, hcl⟩ : ∃ cl, cl = clipsV l bs v0 v1 l.length j := ⟨_, rfl⟩
 obtain ⟨base, hbase⟩ : ∃ base, base = gR cl p := ⟨_, rfl⟩
 have hbase2 : base = gR (clipsTo l bs v0 v1 j) p := by rw [hbase, hcl]; exact clipsV_lt _ _ _ _ hpj
 rw [← hcl] at b2 hset hlv step
 have c2 := rc_at b2 (p := p) (by omega)
 rw [← hbase] at c2
 have hst := rcC_set cl j base (by omega)
 have lw : j * 4 + 4 ≤ (rcC cl).length := by rw [rcC_len, hlv]; omega
 have hcp := (nS_ok hok hpl).c.clip
 rw [hp] at hv
 rw [hp]
 simp only [go_sem, seval, hs, hv, hjl, hj0, hpl', hp0, Int.toNat_natCast, Nat.zero_add, c2, n4, b2, lw, hst]
 obtain ⟨S3, hS3⟩ : ∃ S3, S3 = S2.set dc ⟨false, rcC (cl.set j base)⟩ := ⟨_, rfl⟩
 have hL3 : Live S3 := by rw [hS3]; exact hL2.set _ _ (hL2 _ _ b2)
 have k3 : KeepsAll S S3 := by rw [hS3]; exact k2.set (fun i hi _ => by omega) _
 have b3 : S3.blk dc = some ⟨false, rcC (cl.set j base)⟩ := by rw [hS3]; exact blk_set_self _ _ _
 rw [← hS3]
 have K3 := hK.keeps hh k3
 refine cK_of (style55 K3 hok hpl) ?_
 rintro v Sx _ hLx' ⟨rfl, hSx⟩
 obtain rfl := hSx.symm
 rw [nS_get hpl]
 cases hcc : (nS l p).clip
 ·simp only [go_sem, seval, hs, hcp, hcc, hw1]
  refine step _ _ base ?_ hL3 k3 b3 ?_
  ·unfold clipOf
   rw [if_neg (by rw [hm]; decide), if_neg hv', hp, Int.toNat_natCast, if_neg (by rw [hcc]; decide)]
   exact hbase2
  ·simp only [go_sem, seval, Int.natCast_add, Int.natCast_succ, hs]
 ·have c3 := rc_at b3 (p := p) (by rw [List.length_set]; omega)
  rw [gR_set (by omega), if_neg (by omega), ← hbase] at c3
  have hbx : cellsOf S3 db (p * 21) 21 = some (bxAt bs p) := by
   have h1 : (p + 1) * 21 ≤ l.length * 21 := Nat.mul_le_mul_right _ hpl
   rw [cellsOf_of_blk ((k3.2 _ (hL _ _ hb) trivial).trans hb), if_pos (by show p * 21 + 21 ≤ bs.length; omega)]
   rfl
  simp only [go_sem, seval, hs, hcp, hcc, hpl', hp0, Int.toNat_natCast, Nat.zero_add, c3, hbx]
  refine cK_of (pads56 (bxAt bs p) S3 (hbo p hpl).1) ?_
  rintro v Sx _ hLx' ⟨rfl, hSx⟩
  obtain rfl := hSx.symm
  rw [padsL_rc]
  simp only [go_sem, seval, hs, c3, Rc.vc]
  refine cK_of (meet54 base (padR bs p) S3) ?_
  rintro v Sx _ hLx' ⟨rfl, hSx⟩
  obtain rfl := hSx.symm
  have hst3 := rcC_set (cl.set j base) j (meetR base (padR bs p)) (by rw [List.length_set]; omega)
  have lw3 : j * 4 + 4 ≤ (rcC (cl.set j base)).length := by rw [rcC_len, List.length_set]; omega
  simp only [Rc.cells, iV, List.map_cons, List.map_nil] at hst3
  simp only [go_sem, seval, hs, hw1, Rc.v, hjl, hj0, Int.toNat_natCast, Nat.zero_add, b3, lw3, hst3]
  refine step _ _ (meetR base (padR bs p)) ?_ (hL3.set _ _ (hL3 _ _ b3)) (k3.set (fun i hi _ => by omega) _) ?_ ?_
  ·unfold clipOf
   rw [if_neg (by rw [hm]; decide), if_neg hv', hp, Int.toNat_natCast, if_pos hcc, hbase2]
  ·rw [blk_set_self, List.set_set]
  ·simp only [go_sem, seval, Int.natCast_add, Int.natCast_succ, hs]
end Go.Proofs.YtegaklgjcicnfaaGreat
namespace Go.Proofs.YtegaklgjcicnfaaGreat
open Go Go.Proofs.YtegaklgjcicnfaaGreat.Abs
def nV (ns : List Nat) : List Value := iV (ns.map fun n : Nat => (n : Int))
theorem nV_at {ns : List Nat} {j : Nat} (h : j < ns.length) : (nV ns)[j]? = some (.int .i64 (ns[j] : Nat)) := by simp [nV, iV, h]
/-- Rows of lists of nodes. -/
def RowsAt (S : St) (l : List Nd) (P lo d : Nat) (f : Nat → List Nat) : Prop :=
 ∃ vs, S.blk d = some ⟨false, vs⟩ ∧ vs.length = l.length ∧ ∀ n, n < l.length → ∃ v, vs[n]? = some v ∧ Sl S 1 v (f n).length (nV (f n)) ∧ ∀ i, Value.blkOf v = some i → i < lo ∧ i ≠ P
/-- Who leads a node's group, by the chain upwards. -/
def grpL (l : List Nd) (n : Nat) : Int := match (chain (par l) n).find? (fun a => leadsL l a.toNat) with | some b => b | none => -1
/-- A node's context. -/
def ctxL (l : List Nd) (n : Nat) : Int := match (chain (par l) (par l n)).find? (fun a => formsL l a.toNat) with | some b => b | none => -1
/-- Those whom one leads; those who lead in a context. -/
def memb (l : List Nd) (j n : Nat) : List Nat := (List.range j).filter fun m => madeL l m && !leadsL l m && grpL l m == n
def prt (l : List Nd) (j n : Nat) : List Nat := (List.range j).filter fun m => leadsL l m && decide (0 < m) && ctxL l m == n
structure PtS (S : St) (hi kp : Nat) (l : List Nd) (P db dc dm dp lo : Nat) (bs : List Value) (cl : List Rc) : Prop where
 kin : KinAt S hi kp l
 box : S.blk db = some ⟨false, bs⟩
 bl : bs.length = l.length * 21
 bok : ∀ j, j < l.length → BoxOk (bxAt bs j)
 clp : S.blk dc = some ⟨false, rcC cl⟩
 cll : cl.length = l.length
 mem : RowsAt S l P lo dm (memb l l.length)
 prt : RowsAt S l P lo dp (prt l l.length)
 h0 : hi ≤ P
 h1 : P < lo
 h2 : db < lo ∧ db ≠ P
 h3 : dc < lo ∧ dc ≠ P
 h4 : dm < lo ∧ dm ≠ P
 h5 : dp < lo ∧ dp ≠ P
def ptV (kp db dc dm dp n : Nat) (x : Value) : List Value := [ptr kp, .slice (some ⟨db, 0, none⟩) n 21, .slice (some ⟨dc, 0, none⟩) n 4, .slice (some ⟨dm, 0, none⟩) n 1, .slice (some ⟨dp, 0, none⟩) n 1, x]
structure PtAt (S : St) (hi kp : Nat) (l : List Nd) (P db dc dm dp lo : Nat) (bs : List Value) (cl : List Rc) (x : Value) (outs : List It) : Prop where
 st : PtS S hi kp l P db dc dm dp lo bs cl
 row : S.blk P = some ⟨false, ptV kp db dc dm dp l.length x⟩
 own : Own S 15 x outs.length (itC outs)
 xlo : ∀ i, Value.blkOf x = some i → lo ≤ i
def itemsOf (l : List Nd) (bs : List Value) (cl : List Rc) (n : Nat) : List It :=
 (if (nS l n).back != 0 then [⟨n, 0, edgeR bs n, ⟨0, 0, 0, 0⟩, gR cl n, (nS l n).back⟩] else []) ++
 (if ((nS l n).line != 0 && (nS l n).border != [0, 0, 0, 0]) = true then [⟨n, 1, edgeR bs n, padR bs n, gR cl n, (nS l n).line⟩] else [])
section
variable {S S' : St} {hi kp : Nat} {l : List Nd} {P db dc dm dp lo : Nat} {bs : List Value} {cl : List Rc} {x : Value} {outs : List It}
theorem RowsAt.keep {d : Nat} {f : Nat → List Nat} (h : RowsAt S l P lo d f) (hd : d < lo ∧ d ≠ P) (hk : ∀ i, i < lo → i ≠ P → S'.blk i = S.blk i) : RowsAt S' l P lo d f := by
 obtain ⟨vs, h1, h2, h3⟩ := h
 refine ⟨vs, by rw [hk d hd.1 hd.2]; exact h1, h2, fun n hn => ?_⟩
 obtain ⟨v, h4, h5, h6⟩ := h3 n hn
 exact ⟨v, h4, h5.keep fun i hi => hk i (h6 i hi).1 (h6 i hi).2, h6⟩
theorem PtS.keep (h : PtS S hi kp l P db dc dm dp lo bs cl) (hk : ∀ i, i < lo → i ≠ P → S'.blk i = S.blk i) : PtS S' hi kp l P db dc dm dp lo bs cl :=
 { h with
  kin := h.kin.keep fun i hi' => hk i (by have := h.h0; have := h.h1; omega) (by have := h.h0; omega)
  box := by rw [hk db h.h2.1 h.h2.2]; exact h.box
  clp := by rw [hk dc h.h3.1 h.h3.2]; exact h.clp
  mem := h.mem.keep h.h4 hk
  prt := h.prt.keep h.h5 hk }
theorem PtAt.keeps (h : PtAt S hi kp l P db dc dm dp lo bs cl x outs) (hL : Live S) (hlo : lo ≤ S.next) (hk : KeepsAll S S') : PtAt S' hi kp l P db dc dm dp lo bs cl x outs :=
 ⟨h.st.keep fun i hi' _ => hk.2 i (by omega) trivial, (hk.2 _ (hL _ _ h.row) trivial).trans h.row, h.own.keeps hL hk fun _ _ => trivial, h.xlo⟩
/-- What one paints: it grows; all else is kept. -/
def Paints (S : St) (hi kp : Nat) (l : List Nd) (P db dc dm dp lo : Nat) (bs : List Value) (cl : List Rc) (x : Value) (outs : List It) (S' : St) : Prop :=
 ∃ x', PtAt S' hi kp l P db dc dm dp lo bs cl x' outs ∧ Keeps S S' (fun i => i ≠ P ∧ Value.blkOf x ≠ some i) ∧ ∀ i, Value.blkOf x' = some i → Value.blkOf x = some i ∨ S.next ≤ i
theorem Paints.trans {S1 : St} {x1 : Value} {outs1 outs2 : List It} (h1 : PtAt S1 hi kp l P db dc dm dp lo bs cl x1 outs1) (k1 : Keeps S S1 (fun i => i ≠ P ∧ Value.blkOf x ≠ some i)) (n1 : ∀ i, Value.blkOf x1 = some i → Value.blkOf x = some i ∨ S.next ≤ i)
  (h2 : Paints S1 hi kp l P db dc dm dp lo bs cl x1 outs2 S') : Paints S hi kp l P db dc dm dp lo bs cl x outs2 S' := by
 obtain ⟨x2, h3, h4, h5⟩ := h2
 refine ⟨x2, h3, k1.trans h4 fun i hi hp => ⟨hp.1, fun e => ?_⟩, fun i hi => ?_⟩
 ·rcases n1 i e with h | h
  ·exact hp.2 h
  ·omega
 ·rcases h5 i hi with h | h
  ·exact n1 i h
  ·right; have := k1.1; omega
theorem PtAt.bx (h : PtAt S hi kp l P db dc dm dp lo bs cl x outs) {n : Nat} (hn : n < l.length) : cellsOf S db (n * 21) 21 = some (bxAt bs n) := by
 have h1 : (n + 1) * 21 ≤ l.length * 21 := Nat.mul_le_mul_right _ hn
 have := h.st.bl
 rw [cellsOf_of_blk h.st.box, if_pos (by show n * 21 + 21 ≤ bs.length; omega)]
 rfl
/-- One more item. -/
theorem PtAt.app (h : PtAt S hi kp l P db dc dm dp lo bs cl x outs) (hlo : lo ≤ S.next) {v : Value} {i : It} {S1 : St} (hL : Live S) (hA : AppR S S1 15 x v (outs.length + 1) (itC outs ++ i.cells)) :
  Paints S hi kp l P db dc dm dp lo bs cl x (outs ++ [i]) (S1.set P ⟨false, ptV kp db dc dm dp l.length v⟩) := by
 have e1 : itC (outs ++ [i]) = itC outs ++ i.cells := by rw [itC_app]; simp [itC]
 have hPx : Value.blkOf x ≠ some P := fun e => by have := h.xlo P e; have := h.st.h1; omega
 have hvP : Value.blkOf v ≠ some P := fun e => by
  rcases hA.new P e with h1 | h1
  ·exact hPx h1
  ·have := h.st.h1; omega
 refine ⟨v, ⟨h.st.keep fun j hj hjP => ?_, blk_set_self _ _ _, ?_, fun j hj => ?_⟩, (hA.keep.mono fun j _ hp => hp.2).set (fun j _ hp => hp.1) _, hA.new⟩
 ·rw [St.blk_set, if_neg hjP]
  exact hA.keep.2 j (by omega) fun e => by have := h.xlo j e; omega
 ·rw [e1, List.length_append]
  exact hA.own.keep fun d hd => by rw [St.blk_set, if_neg (fun e : d = P => hvP (by rw [← e]; exact hd))]
 ·rcases hA.new j hj with h1 | h1
  ·exact h.xlo j h1
  ·omega
end
end Go.Proofs.YtegaklgjcicnfaaGreat
namespace Go.Proofs.YtegaklgjcicnfaaGreat
open Go Go.Proofs.YtegaklgjcicnfaaGreat.Abs
theorem flat4 (a b c d : Int) : flatEq [true, true, true, true] [.int .i64 a, .int .i64 b, .int .i64 c, .int .i64 d] [.int .i64 0, .int .i64 0, .int .i64 0, .int .i64 0] = some ([a, b, c, d] == [0, 0, 0, 0]) := by
 simp only [flatEq, if_true, Option.map_some, List.cons_beq_cons]
 rfl
section
variable {S S' : St} {hi kp : Nat} {l : List Nd} {P db dc dm dp lo : Nat} {bs : List Value} {cl : List Rc} {x : Value} {outs : List It}
theorem Rc.fields (r : Rc) : r.v = .agg #[.int .i64 r.a, .int .i64 r.b, .int .i64 r.c, .int .i64 r.d] := rfl
set_option maxHeartbeats 4000000 in
theorem own88 (hok : ∀ x ∈ l, x.Ok) {n : Nat} (hn : n < l.length) (hlo : lo ≤ S.next) (hb : outs.length ≤ 1000000000) (h : PtAt S hi kp l P db dc dm dp lo bs cl x outs) : ACalls Tryz.prog 88 [ptr P, .int .i64 n] S fun r S' => Paints S hi kp l P db dc dm dp lo bs cl x (outs ++ itemsOf l bs cl n) S' := by
 refine run_of hmix Tryz.func88 cF88 rfl fun hL Q hQ => ?_
 have r0 := rd_of_blk h.row 0
 have r1 := rd_of_blk h.row 1
 have r2 := rd_of_blk h.row 2
 have r5 := rd_of_blk h.row 5
 simp only [ptV] at r0 r1 r2 r5
 have hn0 : (0 : Int) ≤ n := by omega
 have hnl : (n : Int) < l.length := by omega
 have hbx := h.bx hn
 have hbo := (h.st.bok n hn).1
 have hcl : cellsOf S dc (n * 4) 4 = some [.int .i64 (gR cl n).a, .int .i64 (gR cl n).b, .int .i64 (gR cl n).c, .int .i64 (gR cl n).d] := rc_at h.st.clp (p := n) (by rw [h.st.cll]; exact hn)
 obtain ⟨xa, xe, hx⟩ := h.own.sl.slice
 have hc := (nS_ok hok hn).c
 have hs := sty_fl (nS_ok hok hn)
 simp only [go_sem, seval, aF88, r0, r1, hn0, hnl, Int.toNat_natCast, Nat.zero_add, hbx]
 refine cK_of (style55 h.st.kin hok hn) ?_
 rintro v S1 _ hL1 ⟨rfl, hS1⟩
 obtain rfl := hS1.symm
 rw [nS_get hn]
 simp only [go_sem, seval, hs.N 48, hs.F 48, z39, r1, hn0, hnl, Int.toNat_natCast, Nat.zero_add, hbx, hbo.N 21, hbo.F 21, z51]
 refine cK_of (edges106 (bxAt bs n) S hbo) ?_
 rintro v S1 _ hL1 ⟨rfl, hS1⟩
 obtain rfl := hS1.symm
 rw [edgesL_rc]
 obtain ⟨er, her⟩ : ∃ er, er = edgeR bs n := ⟨_, rfl⟩
 have her' : (rcOf (edgesL (bxAt bs n))).v = er.v := by rw [her]; rfl
 rw [her', Rc.fields]
 simp only [go_sem, seval, hc.back]
 refine iK_keep [0,1,4,5,6] fun t1 hk' => ?_; simp only [go_sem, seval] at hk'; have hk := hk'; clear hk'
 have hP1 : S.blk P = some ⟨false, ptV kp db dc dm dp l.length x⟩ := h.row
 refine iK_cut (fun t' S' => Live S' ∧ (∃ x1, PtAt S' hi kp l P db dc dm dp lo bs cl x1 (outs ++ if ((nS l n).back != 0) = true then [⟨n, 0, er, ⟨0, 0, 0, 0⟩, gR cl n, (nS l n).back⟩] else []) ∧ Keeps S S' (fun i => i ≠ P ∧ Value.blkOf x ≠ some i) ∧ ∀ i, Value.blkOf x1 = some i → Value.blkOf x = some i ∨ S.next ≤ i) ∧
  Slots t' [(0, ptr P), (1, .int .i64 n), (4, .agg (nS l n).cells.toArray), (5, .agg (bxAt bs n).toArray), (6, er.v)]) ?_ ?_
 ·intro Q6 hN6 hE6
  cases hbk : (nS l n).back != 0
  ·simp only [go_sem, seval, hk]
   refine hN6 _ _ ⟨hL, ⟨x, by rw [hbk, if_neg (by decide), List.append_nil]; exact h, Keeps.refl _ _, fun i hi => .inl hi⟩, ?_⟩
   simp only [go_sem, seval, Int.natCast_add, Int.natCast_succ, hk, Rc.fields]
  ·rw [hx] at r5
   simp only [go_sem, seval, hk, r2, r5, hn0, hnl, Int.toNat_natCast, Nat.zero_add, hcl, hc.back, z45]
   have hown : Own S 15 (.slice xa outs.length xe) outs.length (itC outs) := hx ▸ h.own
   refine hK_of (appN hL (by decide) hown rfl (by omega)) ?_
   rintro v S1 ⟨⟨va, ve, rfl⟩, hA⟩
   rw [← hx] at hA
   have hA' : AppR S S1 15 x (.slice va (outs.length + 1) ve) (outs.length + 1) (itC outs ++ It.cells ⟨n, 0, er, ⟨0, 0, 0, 0⟩, gR cl n, (nS l n).back⟩) := hA
   have hq1 : S1.blk P = some ⟨false, ptV kp db dc dm dp l.length x⟩ := (hA.keep.2 _ (hL _ _ h.row) fun e => by have := h.xlo P e; have := h.st.h1; omega).trans h.row
   simp only [ptV] at hq1
   simp only [go_sem, seval, hk, hq1]
   obtain ⟨x1, hx1⟩ := h.app hlo hL hA'
   refine hN6 _ _ ⟨hA.live.set _ _ (by have := hL _ _ h.row; have := hA.keep.1; omega), ⟨x1, by rw [hbk, if_pos rfl]; exact hx1.1, hx1.2⟩, ?_⟩
   simp only [go_sem, seval, Int.natCast_add, Int.natCast_succ, hk, Rc.fields]
 rintro t2 S2 ⟨hL2, ⟨x1, h2, k2, n2⟩, hs2⟩
 simp only [slots_cons, slots_nil, Rc.fields] at hs2
 obtain ⟨outs2, ho2⟩ : ∃ o, o = outs ++ if ((nS l n).back != 0) = true then [(⟨n, 0, er, ⟨0, 0, 0, 0⟩, gR cl n, (nS l n).back⟩ : It)] else [] := ⟨_, rfl⟩
 rw [← ho2] at h2
 have hl2 : outs2.length ≤ outs.length + 1 := by rw [ho2]; split <;> simp
 have fin : ∀ (S9 : St), Paints S2 hi kp l P db dc dm dp lo bs cl x1 (outs2 ++ if ((nS l n).line != 0 && (nS l n).border != [0, 0, 0, 0]) = true then [⟨n, 1, er, padR bs n, gR cl n, (nS l n).line⟩] else []) S9 → Paints S hi kp l P db dc dm dp lo bs cl x (outs ++ itemsOf l bs cl n) S9 := fun S9 h9 => by
  have := Paints.trans h2 k2 n2 h9
  rw [ho2, List.append_assoc] at this
  unfold itemsOf
  rw [← her]
  exact this
 have r1 := rd_of_blk h2.row 1
 have r2 := rd_of_blk h2.row 2
 have r5 := rd_of_blk h2.row 5
 simp only [ptV] at r1 r2 r5
 obtain ⟨ya, ye, hy⟩ := h2.own.sl.slice
 have hcl2 : cellsOf S2 dc (n * 4) 4 = some [.int .i64 (gR cl n).a, .int .i64 (gR cl n).b, .int .i64 (gR cl n).c, .int .i64 (gR cl n).d] := rc_at h2.st.clp (p := n) (by rw [h2.st.cll]; exact hn)
 have hok' := nS_ok hok hn
 obtain ⟨b0, b1, b2, b3, hbd⟩ : ∃ b0 b1 b2 b3, (nS l n).border = [b0, b1, b2, b3] := by
  have := hok'.border
  match (nS l n).border, this with
  | [a, b, c, d], _ => exact ⟨a, b, c, d, rfl⟩
 have hbs := hc.borders
 rw [hbd] at hbs fin
 simp only [List.map_cons, List.map_nil] at hbs
 have skip : ((nS l n).line != 0 && [b0, b1, b2, b3] != [0, 0, 0, 0]) = false → Paints S hi kp l P db dc dm dp lo bs cl x (outs ++ itemsOf l bs cl n) S2 := fun hf => by
  refine fin S2 ?_
  rw [hf, if_neg (by decide), List.append_nil]
  exact ⟨x1, h2, Keeps.refl _ _, fun i hi => .inl hi⟩
 cases hln : (nS l n).line != 0
 ·rw [hln] at skip
  simp only [go_sem, seval, hs2, hc.line, hln]
  refine hQ _ _ _ ?_
  rw [k_body_normal]
  simp only [go_sem, seval, aF88]
  rw [retQ_some]
  exact skip rfl
 rw [hln] at skip fin
 cases hbb : [b0, b1, b2, b3] == [0, 0, 0, 0]
 case' true =>
  simp only [go_sem, seval, hs2, hc.line, hln, hs.N 48, hbs, flat4, hbb]
  refine hQ _ _ _ ?_
  rw [k_body_normal]
  simp only [go_sem, seval, aF88]
  rw [retQ_some]
  exact skip (by simp only [bne, hbb]; rfl)
 have hP := padsL_rc (bxAt bs n)
 have hP' : (rcOf (padsL (bxAt bs n))).v = (padR bs n).v := rfl
 simp only [go_sem, seval, hs2, hc.line, hln, hs.N 48, hbs, flat4, hbb, r2, r5, hy, hn0, hnl, Int.toNat_natCast, Nat.zero_add, hcl2, hbo.N 21, hbo.F 21]
 refine cK_of (pads56 (bxAt bs n) S2 hbo) ?_
 rintro v S3 _ hL3 ⟨rfl, hS3⟩
 obtain rfl := hS3.symm
 rw [hP, hP', Rc.fields]
 rw [hy] at r5
 simp only [go_sem, seval, hs2, r2, r5, hn0, hnl, Int.toNat_natCast, Nat.zero_add, hcl2, z45]
 have hown : Own S2 15 (.slice ya outs2.length ye) outs2.length (itC outs2) := hy ▸ h2.own
 refine hK_of (appN hL2 (by decide) hown rfl (by omega)) ?_
 rintro v S3 ⟨⟨va, ve, rfl⟩, hA⟩
 rw [← hy] at hA
 have hA' : AppR S2 S3 15 x1 (.slice va (outs2.length + 1) ve) (outs2.length + 1) (itC outs2 ++ It.cells ⟨n, 1, er, padR bs n, gR cl n, (nS l n).line⟩) := hA
 have hq1 : S3.blk P = some ⟨false, ptV kp db dc dm dp l.length x1⟩ := (hA.keep.2 _ (hL2 _ _ h2.row) fun e => by have := h2.xlo P e; have := h2.st.h1; omega).trans h2.row
 simp only [ptV] at hq1
 simp only [go_sem, seval, hs2, hq1]
 refine hQ _ _ _ ?_
 rw [k_body_normal]
 simp only [go_sem, seval, aF88]
 rw [retQ_some]
 refine fin _ ?_
 rw [if_pos (by simp only [bne, hbb]; rfl)]
 exact h2.app (Nat.le_trans hlo k2.1) hL2 hA'
end
end Go.Proofs.YtegaklgjcicnfaaGreat
namespace Go.Proofs.YtegaklgjcicnfaaGreat
open Go Go.Proofs.YtegaklgjcicnfaaGreat.Abs
section
variable {S S' : St} {hi kp : Nat} {l : List Nd} {P db dc dm dp lo : Nat} {bs : List Value} {cl : List Rc} {x : Value} {outs : List It}
theorem itemsOf_len (l : List Nd) (bs : List Value) (cl : List Rc) (n : Nat) : (itemsOf l bs cl n).length ≤ 2 := by
 unfold itemsOf
 split <;> split <;> simp
/-- All items of some nodes. -/
abbrev itsOf (l : List Nd) (bs : List Value) (cl : List Rc) (ns : List Nat) : List It := ns.flatMap (itemsOf l bs cl)
theorem itsOf_len (l : List Nd) (bs : List Value) (cl : List Rc) (ns : List Nat) : (itsOf l bs cl ns).length ≤ 2 * ns.length := by
 induction ns with
 | nil => simp
 | cons n ns ih =>
  have := itemsOf_len l bs cl n
  simp only [itsOf, List.flatMap_cons, List.length_append, List.length_cons] at ih ⊢
  omega
theorem memb_lt {l : List Nd} {j n m : Nat} (h : m ∈ memb l j n) : m < j := by
 unfold memb at h
 rw [List.mem_filter, List.mem_range] at h
 exact h.1
set_option maxHeartbeats 1000000 in
theorem group91 (hok : ∀ x ∈ l, x.Ok) {n : Nat} (hn : n < l.length) (hlo : lo ≤ S.next) (hb : outs.length + 2 * (memb l l.length n).length ≤ 1000000000) (h : PtAt S hi kp l P db dc dm dp lo bs cl x outs) : ACalls Tryz.prog 91 [ptr P, .int .i64 n] S fun r S' => Paints S hi kp l P db dc dm dp lo bs cl x (outs ++ itsOf l bs cl (memb l l.length n)) S' := by
 refine run_of hmix Tryz.func91 cF91 rfl fun hL Q hQ => ?_
 have r3 := rd_of_blk h.row 3
 simp only [ptV] at r3
 have hn0 : (0 : Int) ≤ n := by omega
 have hnl : (n : Int) < l.length := by omega
 obtain ⟨vs, v1, v2, v3⟩ := h.st.mem
 obtain ⟨v, v4, v5, v6⟩ := v3 n hn
 obtain ⟨ms, hms⟩ : ∃ ms, ms = memb l l.length n := ⟨_, rfl⟩
 rw [← hms] at v5 hb
 have hml : ∀ m ∈ ms, m < l.length := fun m hm => memb_lt (hms ▸ hm)
 have rv : rd S dm n = some v := by rw [rd_of_blk v1]; exact v4
 obtain ⟨va, ve, rfl⟩ := v5.slice
 rw [← hms] at hQ
 simp only [go_sem, seval, aF91, r3, hn0, hnl, Int.toNat_natCast, Nat.zero_add, Nat.mul_one, rv]
 refine lK_of (fun t' S' => ∃ (j : Nat) (x1 : Value), j ≤ ms.length ∧ Live S' ∧ PtAt S' hi kp l P db dc dm dp lo bs cl x1 (outs ++ itsOf l bs cl (ms.take j)) ∧ Keeps S S' (fun i => i ≠ P ∧ Value.blkOf x ≠ some i) ∧ (∀ i, Value.blkOf x1 = some i → Value.blkOf x = some i ∨ S.next ≤ i) ∧
  Slots t' [(0, ptr P), (12, .slice va ms.length ve), (13, .int .i64 ms.length), (14, .int .i64 j)]) (fun t' _ => ms.length - (RowKit.intOf (t' 14)).toNat) ?_ ?_
 ·refine ⟨0, x, by omega, hL, by simpa using h, Keeps.refl _ _, fun i hi => .inl hi, ?_⟩
  simp only [go_sem, seval, Int.natCast_add, Int.natCast_succ]
 rintro t1 S1 Q1 ⟨j, x1, hj, hL1, h1, k1, n1, hs⟩ _ hN hE
 simp only [slots_cons, slots_nil] at hs
 by_cases hjn : j = ms.length
 ·subst hjn
  simp only [go_sem, seval, hs, Int.lt_irrefl]
  refine hE _ _ _ (by simp) ?_
  simp only [go_sem, seval, hs]
  refine hQ _ _ _ ?_
  rw [k_body_normal]
  simp only [go_sem, seval, aF91]
  rw [retQ_some]
  rw [List.take_length] at h1
  exact ⟨x1, h1, k1, n1⟩
 have hjl : (j : Int) < ms.length := by omega
 have hj0 : (0 : Int) ≤ j := by omega
 have hj' : j < ms.length := by omega
 have hw1 : IntKind.i64.wrap ((j : Int) + 1) = ((j + 1 : Nat) : Int) := by
  have := itsOf_len l bs cl ms
  rw [wrap64_id (by omega) (by omega)]; omega
 have vk : Sl S1 1 (.slice va ms.length ve) ms.length (nV ms) := v5.keeps hL k1 fun i hi => ⟨(v6 i hi).2, fun e => by have := h.xlo i e; have := (v6 i hi).1; omega⟩
 obtain ⟨d, o, e', he, _, hc⟩ := vk.ne (by omega)
 cases he
 rw [Nat.mul_one] at hc
 have hx : rd S1 d (o + j) = some (.int .i64 (ms[j] : Nat)) := by rw [rd_of_cells hc hj']; exact nV_at hj'
 have hmj := hml ms[j] (List.getElem_mem hj')
 have hlen : (outs ++ itsOf l bs cl (ms.take j)).length ≤ outs.length + 2 * ms.length := by
  have := itsOf_len l bs cl (ms.take j)
  rw [List.length_take] at this
  rw [List.length_append]
  omega
 simp only [go_sem, seval, hs, hjl, hj0, Int.toNat_natCast, Nat.mul_one, hx]
 refine cK_of (own88 hok hmj (Nat.le_trans hlo k1.1) (by omega) h1) ?_
 rintro v S2 _ hL2 hp2
 obtain ⟨x2, h2, k2, n2⟩ := Paints.trans h1 k1 n1 hp2
 have e1 : outs ++ itsOf l bs cl (ms.take j) ++ itemsOf l bs cl ms[j] = outs ++ itsOf l bs cl (ms.take (j + 1)) := by
  rw [List.take_succ_eq_append_getElem hj', itsOf, itsOf, List.flatMap_append, List.append_assoc]
  simp
 rw [e1] at h2
 simp only [go_sem, seval, hs, hw1]
 refine hN _ _ ⟨j + 1, x2, by omega, hL2, h2, k2, n2, ?_⟩ ?_
 ·simp only [go_sem, seval, Int.natCast_add, Int.natCast_succ, hs]
 ·simp only [go_sem, seval, hs]
  simp [RowKit.intOf]
  omega
end
end Go.Proofs.YtegaklgjcicnfaaGreat
namespace Go.Proofs.YtegaklgjcicnfaaGreat
open Go Go.Proofs.YtegaklgjcicnfaaGreat.Abs
def zL (l : List Nd) (n : Nat) : Int := (nS l n).z
def keyLt (l : List Nd) (a b : Nat) : Prop := zL l a < zL l b ∨ (zL l a = zL l b ∧ a < b)
/-- What a context paints, in order. -/
inductive EmC (l : List Nd) : Nat → List Nat → Prop
 | mk (n : Nat) (neg pos : List (Nat × List Nat)) (hp : ((neg ++ pos).map (·.1)).Perm (prt l l.length n)) (hs : ((neg ++ pos).map (·.1)).Pairwise (keyLt l))
   (hn : ∀ q ∈ neg, zL l q.1 < 0) (hz : ∀ q ∈ pos, 0 ≤ zL l q.1) (hf : ∀ q ∈ neg ++ pos, formsL l q.1 = true → EmC l q.1 q.2)
   (hg : ∀ q ∈ neg ++ pos, formsL l q.1 = false → q.2 = q.1 :: memb l l.length q.1) :
   EmC l n (n :: neg.flatMap (·.2) ++ memb l l.length n ++ pos.flatMap (·.2))
def EmP (l : List Nd) (p : Nat) (ns : List Nat) : Prop := (formsL l p = true → EmC l p ns) ∧ (formsL l p = false → ns = p :: memb l l.length p)
def enP (l : List Nd) (m : Nat) : En := ⟨zL l m, m, 0⟩
theorem enP_lt {l : List Nd} {a b : Nat} : ltE (enP l a) (enP l b) ↔ keyLt l a b := by unfold ltE keyLt enP; simp only; omega
theorem chainF_le {Pf : Nat → Int} {k : Nat} (ht : Tr Pf k) : ∀ (f : Nat) (a : Int), a < k → ∀ b ∈ chainF Pf f a, 0 ≤ b ∧ b ≤ a
 | 0, _, _, b, hb => by simp [chainF] at hb
 | f + 1, a, ha, b, hb => by
  unfold chainF at hb
  split at hb
  ·simp at hb
  ·rcases List.mem_cons.1 hb with rfl | hb
   ·omega
   ·have h1 := ht a.toNat (by omega)
    have h2 := chainF_le ht f (Pf a.toNat) (by omega) b hb
    omega
theorem chain_le {Pf : Nat → Int} {k : Nat} (ht : Tr Pf k) {a : Int} (ha : a < k) {b : Int} (hb : b ∈ chain Pf a) : 0 ≤ b ∧ b ≤ a := chainF_le ht _ a ha b hb
section
variable {l : List Nd}
theorem grp_mem (htr : Tr (par l) l.length) {m n : Nat} (hm : m < l.length) (h : grpL l m = n) : leadsL l n = true ∧ n ≤ m := by
 unfold grpL at h
 split at h
 ·rename_i b hb
  have h1 := List.find?_some hb
  have h2 := chain_le htr (by omega) (List.mem_of_find?_eq_some hb)
  subst h
  simp only [Int.toNat_natCast] at h1
  exact ⟨h1, by omega⟩
 ·omega
theorem ctx_mem (htr : Tr (par l) l.length) {m n : Nat} (hm : m < l.length) (h : ctxL l m = n) : formsL l n = true ∧ n < m := by
 unfold ctxL at h
 have hp := htr m hm
 split at h
 ·rename_i b hb
  have h1 := List.find?_some hb
  have h2 := chain_le htr (by omega) (List.mem_of_find?_eq_some hb)
  subst h
  simp only [Int.toNat_natCast] at h1
  exact ⟨h1, by omega⟩
 ·omega
theorem memb_gt (htr : Tr (par l) l.length) {j n m : Nat} (hj : j ≤ l.length) (h : m ∈ memb l j n) : n < m := by
 unfold memb at h
 simp only [List.mem_filter, List.mem_range, Bool.and_eq_true, Bool.not_eq_true', beq_iff_eq] at h
 obtain ⟨h1, ⟨h2, h3⟩, h4⟩ := h
 obtain ⟨h5, h6⟩ := grp_mem htr (by omega) h4
 by_cases e : n = m
 ·subst e; rw [h3] at h5; cases h5
 ·omega
theorem prt_gt (htr : Tr (par l) l.length) {j n m : Nat} (hj : j ≤ l.length) (h : m ∈ prt l j n) : n < m ∧ m < j := by
 unfold prt at h
 simp only [List.mem_filter, List.mem_range, Bool.and_eq_true, decide_eq_true_eq, beq_iff_eq] at h
 exact ⟨(ctx_mem htr (by omega) h.2.2).2, h.1⟩
/-- A weight of some nodes. -/
def wN (l : List Nd) (ns : List Nat) : Nat := (ns.map fun p => 2 ^ (l.length - p - 1)).sum
theorem wN_perm {a b : List Nat} (h : a.Perm b) : wN l a = wN l b := by
 unfold wN
 exact (h.map _).sum_nat
theorem wN_app (a b : List Nat) : wN l (a ++ b) = wN l a + wN l b := by simp [wN, List.sum_append_nat]
theorem wN_cons (a : Nat) (b : List Nat) : wN l (a :: b) = 2 ^ (l.length - a - 1) + wN l b := by simp [wN]
theorem wN_len (a : List Nat) : a.length ≤ wN l a := by
 induction a with
 | nil => simp [wN]
 | cons x a ih => rw [wN_cons, List.length_cons]; have := Nat.two_pow_pos (l.length - x - 1); omega
theorem wN_or (f g : Nat → Bool) (hd : ∀ m, f m = true → g m = true → False) : ∀ a : List Nat, wN l (a.filter f) + wN l (a.filter g) = wN l (a.filter fun m => f m || g m)
 | [] => by simp [wN]
 | x :: a => by
  have ih := wN_or f g hd a
  cases hf : f x <;> cases hg : g x
  ·simp only [List.filter_cons, hf, hg, Bool.or_false, Bool.false_eq_true, if_false]; exact ih
  ·simp only [List.filter_cons, hf, hg, Bool.or_true, Bool.false_eq_true, if_false, if_true, wN_cons]; omega
  ·simp only [List.filter_cons, hf, hg, Bool.or_false, Bool.false_eq_true, if_false, if_true, wN_cons]; omega
  ·exact (hd x hf hg).elim
theorem wN_parts (htr : Tr (par l) l.length) (n : Nat) : 1 + (memb l l.length n).length + wN l (prt l l.length n) ≤ 2 ^ (l.length - n - 1) := by
 have h1 := wN_len (l := l) (memb l l.length n)
 have h2 := wN_or (l := l) (fun m => madeL l m && !leadsL l m && grpL l m == n) (fun m => leadsL l m && decide (0 < m) && ctxL l m == n) (fun m a b => by simp at a b; simp [a.1.2] at b) (List.range l.length)
 have h3 : wN l ((List.range l.length).filter fun m => (madeL l m && !leadsL l m && grpL l m == n) || (leadsL l m && decide (0 < m) && ctxL l m == n)) = wt l (((List.range l.length).filter fun m => (madeL l m && !leadsL l m && grpL l m == n) || (leadsL l m && decide (0 < m) && ctxL l m == n)).map fun m : Nat => (m : Int)) := by
  unfold wN wt
  rw [List.map_map]
  rfl
 have h4 := wt_bound (l := l) (((List.range l.length).filter fun m => (madeL l m && !leadsL l m && grpL l m == n) || (leadsL l m && decide (0 < m) && ctxL l m == n)).map fun m : Nat => (m : Int)) n
  (by rw [List.pairwise_map]; exact ((List.pairwise_lt_range (n := l.length)).filter _).imp fun h => by omega)
  (fun m hm => by
   obtain ⟨k, hk, rfl⟩ := List.mem_map.1 hm
   rw [List.mem_filter, Bool.or_eq_true] at hk
   have hkl := List.mem_range.1 hk.1
   refine ⟨k, rfl, ?_, hkl⟩
   rcases hk.2 with h | h
   ·exact memb_gt htr (Nat.le_refl _) (List.mem_filter.2 ⟨hk.1, h⟩)
   ·exact (prt_gt htr (Nat.le_refl _) (List.mem_filter.2 ⟨hk.1, h⟩)).1)
 have h5 : wN l (memb l l.length n) + wN l (prt l l.length n) = _ := h2
 rw [h3] at h5
 have := Nat.two_pow_pos (l.length - n - 1)
 omega
theorem prt_nodup (j n : Nat) : (prt l j n).Nodup := (List.nodup_range (n := j)).filter _
/-- How far a context is painted. -/
structure Prog (l : List Nd) (n : Nat) (done : List (Nat × List Nat)) (es : List En) : Prop where
 en : ∀ e ∈ es, ∃ m, e = enP l m
 perm : (done.map (·.1) ++ es.map fun e => e.t.toNat).Perm (prt l l.length n)
 srt : (done.map (·.1)).Pairwise (keyLt l)
 lt : ∀ q ∈ done, ∀ e ∈ es, ltE (enP l q.1) e
 em : ∀ q ∈ done, EmP l q.1 q.2
theorem Prog.mem {n : Nat} {done : List (Nat × List Nat)} {es : List En} (h : Prog l n done es) {m : Nat} (hm : enP l m ∈ es) : m ∈ prt l l.length n :=
 h.perm.mem_iff.1 (List.mem_append_right _ (List.mem_map.2 ⟨_, hm, by simp [enP]⟩))
theorem Prog.nd {n : Nat} {done : List (Nat × List Nat)} {es : List En} (h : Prog l n done es) : es.Nodup := by
 have h1 := h.perm.nodup_iff.2 (prt_nodup l.length n)
 have h2 := (List.nodup_append.1 h1).2.1
 rw [List.nodup_iff_pairwise_ne, List.pairwise_map] at h2
 rw [List.nodup_iff_pairwise_ne]
 exact h2.imp fun hab e => hab (by rw [e])
theorem ltE_total {a b : En} (h : ¬ ltE b a) (hne : b ≠ a) : ltE a b := by
 obtain ⟨ak, at_, an⟩ := a
 obtain ⟨bk, bt, bn⟩ := b
 by_cases e1 : ak = bk
 ·by_cases e2 : at_ = bt
  ·by_cases e3 : an = bn
   ·subst e1; subst e2; subst e3; exact absurd rfl hne
   ·unfold ltE at *; simp only at *; omega
  ·unfold ltE at *; simp only at *; omega
 ·unfold ltE at *; simp only at *; omega
theorem Prog.step {n : Nat} {done : List (Nat × List Nat)} {e : En} {r es' : List En} (h : Prog l n done (e :: r)) (hh : ∀ z ∈ r, ¬ ltE z e) (hp : es'.Perm r) {m : Nat} (he : e = enP l m) {ns : List Nat} (hem : EmP l m ns) : Prog l n (done ++ [(m, ns)]) es' := by
 have hnd := List.nodup_cons.1 h.nd
 refine ⟨fun z hz => h.en z (List.mem_cons_of_mem _ (hp.mem_iff.1 hz)), ?_, ?_, fun q hq z hz => ?_, fun q hq => ?_⟩
 ·refine List.Perm.trans ?_ h.perm
  rw [List.map_append, List.append_assoc, List.map_cons]
  refine List.Perm.append_left _ ?_
  simp only [List.map_cons, List.map_nil, List.cons_append, List.nil_append, he, enP, Int.toNat_natCast]
  exact (hp.map _).cons _
 ·rw [List.map_append, List.pairwise_append]
  refine ⟨h.srt, by simp, fun a ha b hb => ?_⟩
  obtain ⟨q, hq, rfl⟩ := List.mem_map.1 ha
  simp only [List.map_cons, List.map_nil, List.mem_singleton] at hb
  subst hb
  have := h.lt q hq e (List.mem_cons_self ..)
  rw [he] at this
  exact enP_lt.1 this
 ·rcases List.mem_append.1 hq with hq | hq
  ·exact h.lt q hq z (List.mem_cons_of_mem _ (hp.mem_iff.1 hz))
  ·simp only [List.mem_singleton] at hq
   subst hq
   have hzr := hp.mem_iff.1 hz
   rw [← he]
   exact ltE_total (hh z hzr) fun e' => hnd.1 (e' ▸ hzr)
 ·rcases List.mem_append.1 hq with hq | hq
  ·exact h.em q hq
  ·simp only [List.mem_singleton] at hq
   subst hq
   exact hem
theorem Prog.re {n : Nat} {done : List (Nat × List Nat)} {es es' : List En} (h : Prog l n done es) (hp : es'.Perm es) : Prog l n done es' :=
 ⟨fun z hz => h.en z (hp.mem_iff.1 hz), ((hp.map _).append_left _).trans h.perm, h.srt, fun q hq z hz => h.lt q hq z (hp.mem_iff.1 hz), h.em⟩
theorem Prog.full {n : Nat} {neg pos : List (Nat × List Nat)} (h : Prog l n (neg ++ pos) []) (hn : ∀ q ∈ neg, zL l q.1 < 0) (hz : ∀ q ∈ pos, 0 ≤ zL l q.1) : EmC l n (n :: neg.flatMap (·.2) ++ memb l l.length n ++ pos.flatMap (·.2)) :=
 .mk n neg pos (by have := h.perm; simpa using this) h.srt hn hz (fun q hq => (h.em q hq).1) (fun q hq => (h.em q hq).2)
end
end Go.Proofs.YtegaklgjcicnfaaGreat
namespace Go.Proofs.YtegaklgjcicnfaaGreat
open Go Go.Proofs.YtegaklgjcicnfaaGreat.Abs
def CtxOk (hi kp : Nat) (l : List Nd) (P db dc dm dp lo : Nat) (bs : List Value) (cl : List Rc) (n : Nat) : Prop :=
 ∀ (S : St) (x : Value) (outs : List It), lo ≤ S.next → outs.length + 2 * 2 ^ (l.length - n - 1) ≤ 500000000 → PtAt S hi kp l P db dc dm dp lo bs cl x outs →
  ACalls Tryz.prog 52 [ptr P, .int .i64 n] S fun r S' => ∃ ns, EmC l n ns ∧ ns.length ≤ 2 ^ (l.length - n - 1) ∧ Paints S hi kp l P db dc dm dp lo bs cl x (outs ++ itsOf l bs cl ns) S'
section
variable {S S' : St} {hi kp : Nat} {l : List Nd} {P db dc dm dp lo : Nat} {bs : List Value} {cl : List Rc} {x : Value} {outs : List It}
theorem part90 (hok : ∀ x ∈ l, x.Ok) (htr : Tr (par l) l.length) {n : Nat} (hn : n < l.length) (hc : CtxOk hi kp l P db dc dm dp lo bs cl n) (hlo : lo ≤ S.next) (hb : outs.length + 2 * 2 ^ (l.length - n - 1) ≤ 500000000) (h : PtAt S hi kp l P db dc dm dp lo bs cl x outs) :
  ACalls Tryz.prog 90 [ptr P, .int .i64 n] S fun r S' => ∃ ns, EmP l n ns ∧ ns.length ≤ 2 ^ (l.length - n - 1) ∧ Paints S hi kp l P db dc dm dp lo bs cl x (outs ++ itsOf l bs cl ns) S' := by
 refine run_of hmix Tryz.func90 cF90 rfl fun hL Q hQ => ?_
 have r0 := rd_of_blk h.row 0
 simp only [ptV] at r0
 simp only [go_sem, seval, aF90, r0]
 refine cK_of (forms86 hok hn h.st.kin) ?_
 rintro v S1 _ hL1 ⟨rfl, hS1⟩
 obtain rfl := hS1.symm
 cases hf : formsL l n
 case' true =>
  simp only [go_sem, seval]
  refine cK_of (hc S x outs hlo hb h) ?_
  rintro v S2 _ hL2 ⟨ns, h1, h2, h3⟩
  refine hQ _ _ _ ?_
  rw [k_body_ret]
  simp only [go_sem, seval, aF90]
  rw [retQ_some]
  exact ⟨ns, ⟨fun _ => h1, fun e => by rw [hf] at e; cases e⟩, h2, h3⟩
 have hw := wN_parts htr n
 simp only [go_sem, seval]
 refine cK_of (own88 hok hn hlo (by omega) h) ?_
 rintro v S2 _ hL2 ⟨x1, h1, k1, n1⟩
 have hl1 := itemsOf_len l bs cl n
 simp only [go_sem, seval]
 refine cK_of (group91 hok hn (Nat.le_trans hlo k1.1) (by rw [List.length_append]; omega) h1) ?_
 rintro v S3 _ hL3 h2
 refine hQ _ _ _ ?_
 rw [k_body_normal]
 simp only [go_sem, seval, aF90]
 rw [retQ_some]
 refine ⟨n :: memb l l.length n, ⟨fun e => (by rw [hf] at e; cases e), fun _ => rfl⟩, by rw [List.length_cons]; omega, ?_⟩
 have := Paints.trans h1 k1 n1 h2
 rw [List.append_assoc] at this
 exact this
/-- A context at work: who paints, and its agenda. -/
structure Ctx (S0 S : St) (hi kp : Nat) (l : List Nd) (P db dc dm dp lo : Nat) (bs : List Value) (cl : List Rc) (x0 x : Value) (outs : List It) (q : Nat) (ax : Value) (es : List En) : Prop where
 live : Live S
 pt : PtAt S hi kp l P db dc dm dp lo bs cl x outs
 ag : Ag S q 0 [ax] ax es
 kp_ : Keeps S0 S (fun i => i ≠ P ∧ Value.blkOf x0 ≠ some i)
 nw : ∀ i, Value.blkOf x = some i → Value.blkOf x0 = some i ∨ S0.next ≤ i
 q0 : S0.next ≤ q
 a0 : ∀ i, Value.blkOf ax = some i → S0.next ≤ i
 xq : Value.blkOf x ≠ some q
 xa : ∀ i, Value.blkOf ax = some i → Value.blkOf x ≠ some i
section
variable {S0 : St} {x0 : Value} {q : Nat} {ax : Value} {es : List En}
theorem Ctx.paint (h : Ctx S0 S hi kp l P db dc dm dp lo bs cl x0 x outs q ax es) (hlo : lo ≤ S0.next) (hL : Live S') {outs' : List It} (hp : Paints S hi kp l P db dc dm dp lo bs cl x outs' S') : ∃ x', Ctx S0 S' hi kp l P db dc dm dp lo bs cl x0 x' outs' q ax es ∧ Keeps S S' (fun i => i ≠ P ∧ Value.blkOf x ≠ some i) ∧ ∀ i, Value.blkOf x' = some i → Value.blkOf x = some i ∨ S.next ≤ i := by
 obtain ⟨x', h1, h2, h3⟩ := Paints.trans h.pt h.kp_ h.nw hp
 obtain ⟨x'', g1, g2, g3⟩ := hp
 have e1 : x' = x'' := by
  have := h1.row.symm.trans g1.row
  simp only [ptV, Option.some.injEq, Blk.mk.injEq, true_and, List.cons.injEq, and_true] at this
  exact this
 subst e1
 have lP := h.pt.st.h1
 have lt := h.ag.lt h.live
 refine ⟨x', ⟨hL, h1, h.ag.keeps h.live g2 ⟨by have := h.q0; omega, h.xq⟩ fun i hi => ⟨by have := h.a0 i hi; omega, h.xa i hi⟩, h2, h3, h.q0, h.a0, fun e => ?_, fun i hi e => ?_⟩, g2, g3⟩
 ·rcases g3 q e with hh | hh
  ·exact h.xq hh
  ·have := h.live _ _ h.ag.row; omega
 ·rcases g3 i e with hh | hh
  ·exact h.xa i hi hh
  ·have := lt i hi; omega
/-- Something of the agenda's. -/
theorem Ctx.other (h : Ctx S0 S hi kp l P db dc dm dp lo bs cl x0 x outs q ax es) (hlo : lo ≤ S0.next) (hL : Live S') {ax' : Value} {es' : List En} (hk : Keeps S S' (fun i => i ≠ q ∧ Value.blkOf ax ≠ some i)) (ha : Ag S' q 0 [ax'] ax' es') (hx : ∀ i, Value.blkOf ax' = some i → Value.blkOf ax = some i ∨ S.next ≤ i) : Ctx S0 S' hi kp l P db dc dm dp lo bs cl x0 x outs q ax' es' := by
 have lP := h.pt.st.h1
 have ltx : ∀ i, Value.blkOf x = some i → i < S.next := fun i hi => h.pt.own.sl.lt h.live hi
 have hst : ∀ i, i < lo → S'.blk i = S.blk i := fun i hi => hk.2 i (by have := h.kp_.1; omega) ⟨by have := h.q0; omega, fun e => by have := h.a0 i e; omega⟩
 refine ⟨hL, ⟨h.pt.st.keep fun i hi _ => hst i hi, (hst P lP).trans h.pt.row, h.pt.own.keeps h.live hk fun i hi => ⟨fun e => h.xq (e ▸ hi), fun e => h.xa i e hi⟩, h.pt.xlo⟩, ha, h.kp_.trans hk fun i hi hp => ⟨by have := h.q0; omega, fun e => by have := h.a0 i e; omega⟩, h.nw, h.q0, fun i hi => ?_, h.xq, fun i hi e => ?_⟩
 ·rcases hx i hi with hh | hh
  ·exact h.a0 i hh
  ·have := h.kp_.1; omega
 ·rcases hx i hi with hh | hh
  ·exact h.xa i hh e
  ·have := ltx i e; omega
/-- A step that leaves both. -/
theorem Ctx.keeps (h : Ctx S0 S hi kp l P db dc dm dp lo bs cl x0 x outs q ax es) (hlo : lo ≤ S0.next) (hL : Live S') {X : Nat} (hX : S0.next ≤ X ∧ X ≠ q ∧ Value.blkOf ax ≠ some X ∧ Value.blkOf x ≠ some X) (hk : Keeps S S' (· ≠ X)) : Ctx S0 S' hi kp l P db dc dm dp lo bs cl x0 x outs q ax es := by
 have lP := h.pt.st.h1
 have hst : ∀ i, i < lo → S'.blk i = S.blk i := fun i hi => hk.2 i (by have := h.kp_.1; omega) (by omega)
 exact ⟨hL, ⟨h.pt.st.keep fun i hi _ => hst i hi, (hst P lP).trans h.pt.row, h.pt.own.keeps h.live hk fun i hi e => hX.2.2.2 (e ▸ hi), h.pt.xlo⟩, h.ag.keeps h.live hk (Ne.symm hX.2.1) fun i hi e => hX.2.2.1 (e ▸ hi), h.kp_.trans hk fun i hi _ => by omega, h.nw, h.q0, h.a0, h.xq, h.xa⟩
end
end
end Go.Proofs.YtegaklgjcicnfaaGreat
