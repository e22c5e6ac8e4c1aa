/- The answer's rectangles, and what is hidden by it; a list that may be. -/
import Derived.Test.YtegaklgjcicnfaaGreatHA
import Derived.Test.YtegaklgjcicnfaaGreatHB
import Derived.Test.YtegaklgjcicnfaaGreatKD
set_option linter.unusedSimpArgs false
set_option linter.unusedVariables false
namespace Go.Proofs.YtegaklgjcicnfaaGreat
open Go Go.Proofs.YtegaklgjcicnfaaGreat.Abs
theorem holds_empty (r : Rc) : (!holdsR r r.a r.b) = emptyR r := by
 unfold holdsR emptyR
 by_cases h1 : r.a < r.c <;> by_cases h2 : r.b < r.d <;> simp [h1, h2] <;> omega
theorem empty33 (r : Rc) (S : St) : ACalls Tryz.prog 33 [r.v] S fun v S' => v = .bool (emptyR r) ∧ S' = S := by
 refine run_of hmix Tryz.func33 cF33 rfl fun hL Q hQ => ?_
 simp only [go_sem, seval, aF33, Rc.v]
 refine cK_of (holds14 r r.a r.b S) ?_
 rintro v S1 _ hL1 ⟨rfl, hS1⟩
 obtain rfl := hS1.symm
 have he := holds_empty r
 simp only [go_sem, seval, he]
 refine fin_at hQ rfl ?_; simp only [go_sem, seval, aF33]; rw [retQ_some]; simp only [oneOr]
 exact ⟨trivial, trivial⟩
set_option maxHeartbeats 2000000 in
theorem meet62 (r s : Rc) (S : St) : ACalls Tryz.prog 62 [r.v, s.v] S fun v S' => v = (meetR r s).v ∧ S' = S := by
 refine run_of hmix Tryz.func62 cF62 rfl fun hL Q hQ => ?_
 obtain ⟨a, b, c, d⟩ := r
 obtain ⟨a', b', c', d'⟩ := s
 have fin : ∀ (m : Rc), m = meetM ⟨a, b, c, d⟩ ⟨a', b', c', d'⟩ → (if emptyR m = true then (⟨0, 0, 0, 0⟩ : Rc) else m) = meetR ⟨a, b, c, d⟩ ⟨a', b', c', d'⟩ := fun m h => by rw [h]; rfl
 simp only [go_sem, seval, aF62, Rc.v]
 by_cases h1 : a' > a <;> by_cases h2 : b' > b <;> by_cases h3 : c' < c <;> by_cases h4 : d' < d
 all_goals
  simp only [h1, h2, h3, h4, decide_true, decide_false]
  simp only [go_sem, seval, h1, h2, h3, h4, decide_true, decide_false]
  refine cK_of (empty33 ⟨_, _, _, _⟩ S) ?_
  rintro v S1 _ hL1 ⟨rfl, hS1⟩
  obtain rfl := hS1.symm
  have hf := fin _ (by unfold meetM; simp only [h1, h2, h3, h4, if_true, if_false]; rfl)
  generalize he : emptyR _ = eb
  rw [he] at hf
  cases eb
  all_goals
   simp only [go_sem, seval]
   refine fin_at hQ rfl ?_; simp only [go_sem, seval, aF62]; rw [retQ_some]; simp only [oneOr]
   exact ⟨by rw [← hf]; rfl, trivial⟩
theorem seen32 (i : It) (S : St) : ACalls Tryz.prog 32 [.agg i.cells.toArray] S fun v S' => v = (seenR i).v ∧ S' = S := by
 refine run_of hmix Tryz.func32 cF32 rfl fun hL Q hQ => ?_
 simp only [go_sem, seval, aF32, It.cells_eq]
 refine cK_of (meet62 i.r i.c S) ?_
 rintro v S1 _ hL1 ⟨rfl, hS1⟩
 obtain rfl := hS1.symm
 unfold seenR at hQ
 simp only [go_sem, seval, Rc.v]
 refine fin_at hQ rfl ?_; simp only [go_sem, seval, aF32]; rw [retQ_some]; simp only [oneOr]
 first | exact ⟨rfl, trivial⟩ | exact ⟨trivial, trivial⟩
/-- Of numbers that aren't too great. -/
structure RSm (r : Rc) : Prop where
 a : 0 ≤ r.a
 b : 0 ≤ r.b
 c : r.c ≤ 1099511627776
 d : r.d ≤ 1099511627776
theorem rsm0 : RSm ⟨0, 0, 0, 0⟩ := ⟨by decide, by decide, by decide, by decide⟩
theorem RSm.meet (r : Rc) {s : Rc} (h : RSm s) : RSm (meetR r s) := by
 unfold meetR
 split
 ·exact rsm0
 ·have := h.a; have := h.b; have := h.c; have := h.d
  refine ⟨?_, ?_, ?_, ?_⟩ <;> (unfold meetM; simp only; split <;> omega)
theorem RSm.meet' {r : Rc} (s : Rc) (h : RSm r) : RSm (meetR r s) := by
 unfold meetR
 split
 ·exact rsm0
 ·have := h.a; have := h.b; have := h.c; have := h.d
  refine ⟨?_, ?_, ?_, ?_⟩ <;> (unfold meetM; simp only; split <;> omega)
theorem inside35 (r s : Rc) (hr : RSm r) (S : St) : ACalls Tryz.prog 35 [r.v, s.v] S fun v S' => v = .bool (insideR r s) ∧ S' = S := by
 refine run_of hmix Tryz.func35 cF35 rfl fun hL Q hQ => ?_
 simp only [go_sem, seval, aF35, Rc.v]
 refine cK_of (empty33 r S) ?_
 rintro v S1 _ hL1 ⟨rfl, hS1⟩
 obtain rfl := hS1.symm
 cases he : emptyR r
 case' true =>
  simp only [go_sem, seval]
  refine fin_at hQ rfl ?_; simp only [go_sem, seval, aF35]; rw [retQ_some]; simp only [oneOr]
  exact ⟨by unfold insideR; rw [he]; rfl, trivial⟩
 have hne : r.a < r.c ∧ r.b < r.d := by unfold emptyR at he; simp at he; exact he
 have := hr.a; have := hr.b; have := hr.c; have := hr.d
 have w1 : IntKind.i64.wrap (r.c - 1) = r.c - 1 := wrap64_id (by omega) (by omega)
 have w2 : IntKind.i64.wrap (r.d - 1) = r.d - 1 := wrap64_id (by omega) (by omega)
 have hin : (holdsR s r.a r.b && holdsR s (r.c - 1) (r.d - 1)) = insideR r s := by
  unfold insideR holdsR
  rw [he]
  simp only [Bool.false_or]
  rw [Bool.eq_iff_iff]
  simp only [Bool.and_eq_true, decide_eq_true_eq]
  omega
 simp only [go_sem, seval]
 refine cK_of (holds14 s r.a r.b S) ?_
 rintro v S1 _ hL1' ⟨rfl, hS1⟩
 obtain rfl := hS1.symm
 cases h1 : holdsR s r.a r.b
 ·rw [h1] at hin
  simp only [go_sem, seval]
  refine fin_at hQ rfl ?_; simp only [go_sem, seval, aF35]; rw [retQ_some]; simp only [oneOr]
  exact ⟨by rw [← hin]; rfl, trivial⟩
 ·rw [h1] at hin
  simp only [go_sem, seval, w1, w2]
  refine cK_of (holds14 s (r.c - 1) (r.d - 1) S) ?_
  rintro v S1 _ hL1'' ⟨rfl, hS1⟩
  obtain rfl := hS1.symm
  rw [Bool.true_and] at hin
  simp only [go_sem, seval]
  refine fin_at hQ rfl ?_; simp only [go_sem, seval, aF35]; rw [retQ_some]; simp only [oneOr]
  exact ⟨by rw [← hin], trivial⟩
end Go.Proofs.YtegaklgjcicnfaaGreat
namespace Go.Proofs.YtegaklgjcicnfaaGreat
open Go Go.Proofs.YtegaklgjcicnfaaGreat.Abs
def backsL (its : List It) (a j : Nat) : List Rc := (((its.drop a).take j).filter fun x => x.k == 0).map seenR
theorem backsL_succ {its : List It} {a j : Nat} (h : a + j < its.length) : backsL its a (j + 1) = backsL its a j ++ if (gI its (a + j)).k == 0 then [seenR (gI its (a + j))] else [] := by
 unfold backsL
 rw [List.take_add_one, List.getElem?_drop, List.getElem?_eq_getElem h, ← gI_get h, List.filter_append, List.map_append]
 congr 1
 cases hk : (gI its (a + j)).k == 0 <;> simp [hk, List.filter_cons]
theorem backsL_len (its : List It) (a j : Nat) : (backsL its a j).length ≤ j := by
 unfold backsL
 rw [List.length_map]
 have h1 := List.length_filter_le (fun x : It => x.k == 0) ((its.drop a).take j)
 rw [List.length_take] at h1
 omega
set_option maxHeartbeats 1000000 in
theorem backs34 (v : Value) (its : List It) (a : Nat) (S : St) (h : Its S v its) (ha : a ≤ its.length) (hl : its.length ≤ 1000000000) : ACalls Tryz.prog 34 [v, .int .i64 a] S fun r S' => Own S' 4 r (backsL its a (its.length - a)).length (rcC (backsL its a (its.length - a))) ∧ KeepsAll S S' := by
 refine run_of hmix Tryz.func34 cF34 rfl fun hL Q hQ => ?_
 obtain ⟨va, e, rfl⟩ := h.slice
 simp only [go_sem, seval, aF34]
 refine lK_of (fun t' S' => ∃ (j : Nat) (x : Value), a + j ≤ its.length ∧ Live S' ∧ KeepsAll S S' ∧ Own S' 4 x (backsL its a j).length (rcC (backsL its a j)) ∧ Fresh S x ∧ Slots t' [(0, .slice va its.length e), (5, x), (6, .int .i64 (a + j : Nat))]) (fun t' _ => its.length - (RowKit.intOf (t' 6)).toNat) ?_ ?_
 ·refine ⟨0, .slice none 0 0, by omega, hL, Keeps.refl _ _, .inl ⟨rfl, rfl, rfl⟩, fun d hd => by simp [Value.blkOf] at hd, ?_⟩
  simp only [go_sem, seval, Int.natCast_add, Int.natCast_succ, Nat.add_zero]
 rintro t1 S1 Q1 ⟨j, x, hj, hL1, hk1, ho, hf, hs⟩ _ hN hE
 simp only [slots_cons, slots_nil] at hs
 by_cases hjn : a + j = its.length
 ·rw [hjn] at hs
  simp only [go_sem, seval, hs, Int.lt_irrefl]
  refine hE _ _ _ (by simp) ?_
  simp only [go_sem, seval, hs]
  refine fin_at hQ rfl ?_; simp only [go_sem, seval, aF34, hs]; rw [retQ_some]; simp only [oneOr]
  rw [show its.length - a = j by omega]
  exact ⟨ho, hk1⟩
 have hjl : ((a + j : Nat) : Int) < its.length := by omega
 have hj' : a + j < its.length := by omega
 have hj0 : (0 : Int) ≤ (a + j : Nat) := by omega
 have hw1 : IntKind.i64.wrap (((a + j : Nat) : Int) + 1) = ((a + (j + 1) : Nat) : Int) := by rw [wrap64_id (by omega) (by omega)]; omega
 have h1 := h.keeps hL hk1 fun _ _ => trivial
 obtain ⟨d, o, e', he, _, hc⟩ := h1.ne (by omega)
 cases he
 have hx := its_at (e := e) hc hj'
 have hx1 : rd S1 d (o + (a + j) * 15 + 1) = some (.int .i64 (gI its (a + j)).k) := by rw [rd_of_cells hx (by omega)]; rfl
 have hsu := backsL_succ hj'
 obtain ⟨xa, xe, rfl⟩ := ho.sl.slice
 cases hkk : (gI its (a + j)).k == 0
 ·rw [hkk] at hsu
  simp only [Bool.false_eq_true, if_false, List.append_nil] at hsu
  simp only [go_sem, seval, hs, hjl, hj0, Int.toNat_natCast, hx1, hkk, hw1]
  refine hN _ _ ⟨j + 1, _, by omega, hL1, hk1, by rw [hsu]; exact ho, hf, ?_⟩ ?_
  ·simp only [go_sem, seval, Int.natCast_add, Int.natCast_succ, hs]
  ·simp only [go_sem, seval, hs]
   simp [RowKit.intOf]
   omega
 ·rw [hkk] at hsu
  simp only [if_true] at hsu
  simp only [go_sem, seval, hs, hjl, hj0, Int.toNat_natCast, hx1, hkk, hx]
  refine cK_of (seen32 (gI its (a + j)) S1) ?_
  rintro v S2 _ hL2 ⟨rfl, hS2⟩
  obtain rfl := hS2.symm
  simp only [go_sem, seval, hs, Rc.v]
  have hcl := backsL_len its a j
  refine hK_of (appN (bytes := 32) (ds := (seenR (gI its (a + j))).cells) hL1 (by decide) ho rfl (by omega)) ?_
  rintro v S3 ⟨⟨wa, we, rfl⟩, hA⟩
  have e1 : rcC (backsL its a (j + 1)) = rcC (backsL its a j) ++ (seenR (gI its (a + j))).cells := by rw [hsu, rcC_app]; simp [rcC]
  have e2 : (backsL its a (j + 1)).length = (backsL its a j).length + 1 := by rw [hsu]; simp
  simp only [go_sem, seval, hs, hw1]
  refine hN _ _ ⟨j + 1, _, by omega, hA.live, hA.keeps hf hk1, by rw [e1, e2]; exact hA.own, hA.fresh hf hk1.1, ?_⟩ ?_
  ·simp only [go_sem, seval, Int.natCast_add, Int.natCast_succ, hs]
  ·simp only [go_sem, seval, hs]
   simp [RowKit.intOf]
   omega
theorem hid_backs (its : List It) (n : Nat) (r : Rc) : (its.drop (n + 1)).any (hides r) = (backsL its (n + 1) (its.length - (n + 1))).any (insideR r) := by
 unfold backsL
 rw [List.take_of_length_le (by rw [List.length_drop]; omega), List.any_map]
 generalize its.drop (n + 1) = xs
 induction xs with
 | nil => rfl
 | cons x xs ih =>
  rw [List.any_cons, ih, List.filter_cons]
  unfold hides
  cases x.k == 0 <;> simp
set_option maxHeartbeats 1000000 in
theorem hidden20 (v : Value) (its : List It) (n : Nat) (S : St) (h : Its S v its) (hn : n < its.length) (hl : its.length ≤ 1000000000) (hsm : RSm (gI its n).c) : ACalls Tryz.prog 20 [v, .int .i64 n] S fun r S' => r = .bool (hidP its n) ∧ KeepsAll S S' := by
 refine run_of hmix Tryz.func20 cF20 rfl fun hL Q hQ => ?_
 obtain ⟨d, o, e, rfl, he, hc⟩ := h.ne (by omega)
 have hn0 : (0 : Int) ≤ n := by omega
 have hnl : (n : Int) < its.length := by omega
 have c1 := its_at (e := e) hc hn
 simp only [go_sem, seval, aF20, hn0, hnl, Int.toNat_natCast, c1]
 refine cK_of (seen32 (gI its n) S) ?_
 rintro v S1 _ hL1 ⟨rfl, hS1⟩
 obtain rfl := hS1.symm
 obtain ⟨sr, hsr⟩ : ∃ sr, sr = seenR (gI its n) := ⟨_, rfl⟩
 have hrs : RSm sr := by rw [hsr]; exact RSm.meet _ hsm
 rw [← hsr]
 unfold hidP at hQ
 rw [← hsr, hid_backs] at hQ
 simp only [go_sem, seval, Rc.v]
 refine cK_of (empty33 sr S) ?_
 rintro v S1 _ hL1' ⟨rfl, hS1⟩
 obtain rfl := hS1.symm
 cases hem : emptyR sr
 case' true =>
  simp only [go_sem, seval]
  refine fin_at hQ rfl ?_; simp only [go_sem, seval, aF20]; rw [retQ_some]; simp only [oneOr]
  exact ⟨by simp [hem], Keeps.refl _ _⟩
 have hw : IntKind.i64.wrap ((n : Int) + 1) = ((n + 1 : Nat) : Int) := by rw [wrap64_id (by omega) (by omega)]; omega
 simp only [go_sem, seval, hw]
 refine cK_of (backs34 _ its (n + 1) S h (by omega) hl) ?_
 rintro v S2 _ hL2 ⟨hown, hk2⟩
 obtain ⟨bl, hbl⟩ : ∃ bl, bl = backsL its (n + 1) (its.length - (n + 1)) := ⟨_, rfl⟩
 have hbl1 := backsL_len its (n + 1) (its.length - (n + 1))
 rw [← hbl] at hown hbl1
 rw [← hbl] at hQ
 obtain ⟨ba, be, rfl⟩ := hown.sl.slice
 simp only [go_sem, seval]
 refine lK_of (fun t' S' => S' = S2 ∧ ∃ j : Nat, j ≤ bl.length ∧ (bl.take j).any (insideR sr) = false ∧ Slots t' [(5, sr.v), (6, .slice ba bl.length be), (20, .int .i64 bl.length), (21, .int .i64 j)]) (fun t' _ => bl.length - (RowKit.intOf (t' 21)).toNat) ?_ ?_
 ·refine ⟨rfl, 0, by omega, by simp, ?_⟩
  simp only [go_sem, seval, Int.natCast_add, Int.natCast_succ, Rc.v]
 rintro t1 S1 Q1 ⟨rfl, j, hj, hany, hs⟩ hL1 hN hE
 simp only [slots_cons, slots_nil, Rc.v] at hs
 by_cases hjn : j = bl.length
 ·subst hjn
  simp only [go_sem, seval, hs, Int.lt_irrefl]
  refine hE _ _ _ (by simp) ?_
  simp only [go_sem, seval, hs]
  refine fin_at hQ rfl ?_; simp only [go_sem, seval, aF20, hs]; rw [retQ_some]; simp only [oneOr]
  rw [List.take_length] at hany
  exact ⟨by rw [hany, hem]; rfl, hk2⟩
 have hjl : (j : Int) < bl.length := by omega
 have hj' : j < bl.length := by omega
 have hj0 : (0 : Int) ≤ j := by omega
 have hw1 : IntKind.i64.wrap ((j : Int) + 1) = ((j + 1 : Nat) : Int) := by rw [wrap64_id (by omega) (by omega)]; omega
 obtain ⟨d', hd', hbb, hlb⟩ := hown.ne (by omega)
 cases hd'
 have hx := rc_at hbb hj'
 obtain ⟨x, hxx⟩ : ∃ x, x = gR bl j := ⟨_, rfl⟩
 rw [← hxx] at hx
 have htk : bl.take (j + 1) = bl.take j ++ [x] := by rw [List.take_succ_eq_append_getElem hj', hxx, gR_get hj']
 simp only [go_sem, seval, hs, hjl, hj0, Int.toNat_natCast, Nat.zero_add, hx, Rc.vc]
 refine cK_of (inside35 sr x hrs S1) ?_
 rintro v S3 _ hL3 ⟨rfl, hS3⟩
 obtain rfl := hS3.symm
 cases hi : insideR sr x
 ·simp only [go_sem, seval, hs, hw1]
  refine hN _ _ ⟨rfl, j + 1, by omega, ?_, ?_⟩ ?_
  ·rw [htk, List.any_append, hany]; simp [hi]
  ·simp only [go_sem, seval, Int.natCast_add, Int.natCast_succ, hs, Rc.v]
  ·simp only [go_sem, seval, hs]
   simp [RowKit.intOf]
   omega
 ·simp only [go_sem, seval, hs]
  refine hE _ _ _ (by simp) ?_
  simp only [go_sem, seval, hs]
  refine fin_at hQ rfl ?_; simp only [go_sem, seval, aF20, hs]; rw [retQ_some]; simp only [oneOr]
  refine ⟨?_, hk2⟩
  have : bl.any (insideR sr) = true := List.any_eq_true.2 ⟨x, by rw [hxx, gR_get hj']; exact List.getElem_mem hj', hi⟩
  rw [this, Bool.or_true]
end Go.Proofs.YtegaklgjcicnfaaGreat
