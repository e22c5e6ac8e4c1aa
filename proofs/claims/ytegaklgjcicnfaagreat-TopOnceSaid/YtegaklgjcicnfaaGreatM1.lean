/- The law TopOnce: of each box that is made there is one item for its ground and one for its borders, where it has any; no others. -/
import Derived.Test.YtegaklgjcicnfaaGreatM0
import Derived.Test.YtegaklgjcicnfaaGreatKD
set_option linter.unusedSimpArgs false
set_option linter.unusedVariables false
namespace Go.Proofs.YtegaklgjcicnfaaGreat
open Go Go.Proofs.YtegaklgjcicnfaaGreat.Abs
set_option maxHeartbeats 4000000 in
theorem once3 (x : Value) (l : List Nd) (v0 v1 : Int) (S : St) (h : Ns S x l) (hok : ∀ x ∈ l, x.Ok) : ACalls Tryz.prog 3 [x, .agg #[.int .i64 v0, .int .i64 v1]] S fun r S' => r = .bool true := by
 refine run_of hmix Tryz.func3 cF3 rfl fun hL Q hQ => ?_
 obtain ⟨xa, xe, rfl⟩ := h.slice
 simp only [go_sem, seval, aF3]
 refine cK_of (awake9 S) ?_
 rintro v S1 _ hL1 ⟨rfl, k1⟩
 have h1 := Sl.keeps hL h k1 fun _ _ => trivial
 simp only [go_sem, seval]
 refine cK_of (may10 _ l 20 S1 h1 hok (by decide)) ?_
 rintro v S2 _ hL2 ⟨rfl, k2⟩
 cases hm : (decide ((l.length : Int) ≤ 20) && (tchk l == 0))
 case' false =>
  simp only [go_sem, seval]
  refine cK_of (awake9 S2) ?_
  rintro v S3 _ hL3 ⟨rfl, k3⟩
  simp only [go_sem, seval]
  refine fin_at hQ rfl ?_; simp only [go_sem, seval, aF3]; rw [retQ_some]; simp only [oneOr]
 have hl20 : l.length ≤ 20 ∧ tchk l = 0 := by simp at hm; omega
 have hf := tform_of hl20.2
 have htr := hf.1.2.tr
 have h2 := Sl.keeps hL1 h1 k2 fun _ _ => trivial
 simp only [go_sem, seval]
 refine cK_of (tree11 _ l v0 v1 S2 h2 hok (by omega)) ?_
 rintro v S3 _ hL3 hT
 obtain ⟨k3, b, f, c, e, its, rfl, ⟨b0, b1, b2, rfl⟩, ⟨c0, c1, c2, rfl⟩, R, N⟩ := hT.renn
 have h3 := Sl.keeps hL2 h2 k3 fun _ _ => trivial
 obtain ⟨fa, fe, hfs⟩ := R.full.slice
 subst hfs
 have hnl := R.nl
 by_cases he : e = 0
 case' neg =>
  have h0 := R.er he
  have he' : (e != 0) = true := by simpa using he
  have hc0 : (its.length : Int) = 0 := by rw [h0]; rfl
  simp only [go_sem, seval, he', hc0]
  refine fin_at hQ rfl ?_; simp only [go_sem, seval, aF3]; rw [retQ_some]; simp only [oneOr]
 subst he
 have hlen := N.len rfl
 simp only [go_sem, seval]
 refine lK_of (fun t' S' => S' = S3 ∧ ∃ j : Nat, j ≤ l.length ∧ Slots t' [(0, .slice xa l.length xe), (5, .agg #[.slice b0 b1 b2, .slice fa its.length fe, .slice c0 c1 c2]), (7, .int .i64 (wantN l j)), (35, .int .i64 l.length), (36, .int .i64 j)]) (fun t' _ => l.length - (RowKit.intOf (t' 36)).toNat) ?_ ?_
 ·refine ⟨rfl, 0, by omega, ?_⟩
  simp only [go_sem, seval, Int.natCast_add, Int.natCast_succ, show wantN l 0 = 0 from rfl]
 rintro t1 S4 Q1 ⟨rfl, j, hj, hs⟩ _ hN hE
 simp only [slots_cons, slots_nil] at hs
 by_cases hjn : j = l.length
 case' neg =>
  have hj' : j < l.length := by omega
  have hjl : (j : Int) < l.length := by omega
  have hj0 : (0 : Int) ≤ j := by omega
  have hw1 : IntKind.i64.wrap ((j : Int) + 1) = ((j + 1 : Nat) : Int) := by rw [wrap64_id (by omega) (by omega)]; omega
  have hwn := wantN_le (l := l) j
  have hwa : IntKind.i64.wrap ((wantN l j : Int) + 1) = ((wantN l j + 1 : Nat) : Int) := by rw [wrap64_id (by omega) (by omega)]; omega
  have hwb : IntKind.i64.wrap (((wantN l j + 1 : Nat) : Int) + 1) = ((wantN l j + 2 : Nat) : Int) := by rw [wrap64_id (by omega) (by omega)]; omega
  have next : ∀ t9, wantN l (j + 1) = wantN l (j + 1) → Slots t9 [(0, .slice xa l.length xe), (5, .agg #[.slice b0 b1 b2, .slice fa its.length fe, .slice c0 c1 c2]), (7, .int .i64 (wantN l (j + 1))), (35, .int .i64 l.length), (36, .int .i64 (j + 1 : Nat))] → Q1 .normal t9 S4 := fun t9 _ h9 => by
   refine hN _ _ ⟨rfl, j + 1, by omega, h9⟩ ?_
   simp only [slots_cons, slots_nil] at h9
   rw [h9.2.2.2.2.1, hs.2.2.2.2.1]
   simp [RowKit.intOf]
   omega
  have hstep : wantN l (j + 1) = wantN l j + if madeL l j = true then nIt l j else 0 := rfl
  unfold nIt at hstep
  obtain ⟨d, o, e', he', _, hc⟩ := h3.ne (by omega)
  cases he'
  have rs := style_at hok hc j hj'
  rw [nS_get hj'] at rs
  have hsf := sty_fl (nS_ok hok hj')
  have hc' := (nS_ok hok hj').c
  have hok' := nS_ok hok hj'
  obtain ⟨q0, q1, q2, q3, hbd⟩ : ∃ b0 b1 b2 b3, (nS l j).border = [b0, b1, b2, b3] := by
   have := hok'.border
   match (nS l j).border, this with
   | [a, b, c, d], _ => exact ⟨a, b, c, d, rfl⟩
  have hbs := hc'.borders
  rw [hbd] at hbs hstep
  simp only [List.map_cons, List.map_nil] at hbs
  simp only [go_sem, seval, hs, hj0, hjl, Int.toNat_natCast, rs, hsf.N 48, hsf.F 48, z39]
  refine cK_of (made12 _ h3 hok htr hj') ?_
  rintro v S5 _ hL5 ⟨rfl, hS5⟩
  obtain rfl := hS5.symm
  cases hmj : madeL l j
  ·rw [hmj, if_neg (by decide), Nat.add_zero] at hstep
   simp only [go_sem, seval, hs, hw1]
   refine next _ rfl ?_
   simp only [go_sem, seval, Int.natCast_add, Int.natCast_succ, hs, hstep]
  rw [hmj, if_pos rfl] at hstep
  have hbn : ([q0, q1, q2, q3] != [0, 0, 0, 0]) = !([q0, q1, q2, q3] == [0, 0, 0, 0]) := rfl
  rw [hbn] at hstep
  cases hbk : (nS l j).back != 0 <;> cases hln : (nS l j).line != 0 <;> cases hbb : [q0, q1, q2, q3] == [0, 0, 0, 0]
  all_goals
   rw [hbk, hln, hbb] at hstep
   simp at hstep
   simp only [go_sem, seval, hs, hw1, hc'.back, hbk, hc'.line, hln, hsf.N 48, hbs, flat4, hbb, hwa, hwb]
   refine next _ rfl ?_
   simp only [go_sem, seval, Int.natCast_add, Int.natCast_succ, hs, hstep]
 subst hjn
 simp only [go_sem, seval, hs, Int.lt_irrefl]
 refine hE _ _ _ (by simp) ?_
 simp only [go_sem, seval, hs]
 refine lK_of (fun t' S' => S' = S4 ∧ ∃ k : Nat, k ≤ its.length ∧ Slots t' [(0, .slice xa l.length xe), (5, .agg #[.slice b0 b1 b2, .slice fa its.length fe, .slice c0 c1 c2]), (7, .int .i64 (wantN l l.length)), (67, .int .i64 its.length), (68, .int .i64 k)]) (fun t' _ => its.length - (RowKit.intOf (t' 68)).toNat) ?_ ?_
 ·refine ⟨rfl, 0, by omega, ?_⟩
  simp only [go_sem, seval, Int.natCast_add, Int.natCast_succ, hs]
 clear hs hN hE
 rintro t2 S5 Q2 ⟨rfl, k, hk, hs⟩ _ hN hE
 simp only [slots_cons, slots_nil] at hs
 by_cases hkn : k = its.length
 ·subst hkn
  simp only [go_sem, seval, hs, Int.lt_irrefl]
  refine hE _ _ _ (by simp) ?_
  have hle : ((its.length : Int) == (wantN l l.length : Nat)) = true := by rw [hlen]; simp
  simp only [go_sem, seval, hs, hle]
  refine fin_at hQ rfl ?_; simp only [go_sem, seval, aF3, hs]; rw [retQ_some]; simp only [oneOr]
 have hs68 := hs.2.2.2.2.1
 have hkl : (k : Int) < its.length := by omega
 have hk' : k < its.length := by omega
 have hk0 : (0 : Int) ≤ k := by omega
 have hw1 : IntKind.i64.wrap ((k : Int) + 1) = ((k + 1 : Nat) : Int) := by rw [wrap64_id (by omega) (by omega)]; omega
 obtain ⟨fd, fo, fe', hfe, _, hfc⟩ := R.full.ne (by omega)
 cases hfe
 have rk := its_at (e := fe) hfc hk'
 obtain ⟨m, e1, q1, q2⟩ := R.made (gI its k) (by rw [gI_get hk']; exact List.getElem_mem hk')
 have hio := N.ok (gI its k) (by rw [gI_get hk']; exact List.getElem_mem hk')
 obtain ⟨d, o, e', he', _, hc⟩ := h3.ne (by omega)
 cases he'
 have rs := style_at hok hc m q1
 rw [nS_get q1] at rs
 have hsf := sty_fl (nS_ok hok q1)
 have hc' := (nS_ok hok q1).c
 have m0 : (0 : Int) ≤ m := by omega
 have ml : (m : Int) < l.length := by omega
 have hne : ∀ j, j < k → ((gI its j).n == (gI its k).n && (gI its j).k == (gI its k).k) = false := fun j hj => ren_ne R hj hk'
 obtain ⟨a, ha⟩ : ∃ a, a = gI its k := ⟨_, rfl⟩
 rw [← ha] at rk e1 hio hne
 unfold ItOk at hio
 rw [e1, Int.toNat_natCast] at hio
 rw [e1] at hne
 simp only [go_sem, seval, hs, hkl, hk0, Int.toNat_natCast, rk, It.len, It.full, It.ow, It.nul, e1, m0, ml, rs, hsf.N 48, hsf.F 48, z39]
 refine cK_keep [0,5,7,10,11,12,67,68] fun t1 hs' => ?_; simp only [go_sem, seval, hs] at hs'; clear hs; have hs := hs'; clear hs'
 refine cK_of (made12 _ h3 hok htr q1) ?_
 rintro v S6 _ hL6 ⟨rfl, hS6⟩
 obtain rfl := hS6.symm
 rw [q2]
 have it14 : a.cells[14]? = some (.int .i64 a.col) := rfl
 rcases hio with hio | hio
 all_goals
  obtain ⟨i1, i2, i3⟩ := hio
  have g4 := beq_eq_false_iff_ne.2 i2
  simp only [go_sem, seval, hs, It.one, It.nul, it14, hc'.back, hc'.line, i1, i3, g4, bne_self_eq_false]
  refine lK_of (fun t' S' => S' = S5 ∧ ∃ j : Nat, j ≤ k ∧ Slots t' [(0, .slice (some ⟨d, o, none⟩) l.length xe), (5, .agg #[.slice b0 b1 b2, .slice (some ⟨fd, fo, none⟩) its.length fe, .slice c0 c1 c2]), (7, .int .i64 (wantN l l.length)), (11, .agg a.cells.toArray), (67, .int .i64 its.length), (68, .int .i64 k), (126, .int .i64 k), (127, .int .i64 j)]) (fun t' _ => k - (RowKit.intOf (t' 127)).toNat) ?_ ?_
  ·refine ⟨rfl, 0, by omega, ?_⟩
   simp only [go_sem, seval, Int.natCast_add, Int.natCast_succ, hs]
  clear hs
  rintro t3 S7 Q3 ⟨rfl, j, hj, hs⟩ _ hN3 hE3
  simp only [slots_cons, slots_nil] at hs
  by_cases hjn : j = k
  ·subst hjn
   simp only [go_sem, seval, hs, Int.lt_irrefl]
   refine hE3 _ _ _ (by simp) ?_
   simp only [go_sem, seval, hs, hw1]
   refine hN _ _ ⟨rfl, j + 1, by omega, ?_⟩ ?_
   ·simp only [go_sem, seval, Int.natCast_add, Int.natCast_succ, hs]
   ·simp only [go_sem, seval, hs]
    simp [RowKit.intOf, hs68]
    omega
  have hjk : (j : Int) < k := by omega
  have hj' : j < its.length := by omega
  have hjl : (j : Int) < its.length := by omega
  have hj0 : (0 : Int) ≤ j := by omega
  have hw2 : IntKind.i64.wrap ((j : Int) + 1) = ((j + 1 : Nat) : Int) := by rw [wrap64_id (by omega) (by omega)]; omega
  have rj := its_at (e := fe) hfc hj'
  have rj0 : rd S7 fd (fo + j * 15) = some (.int .i64 (gI its j).n) := by
   have := rd_of_cells (j := 0) rj (by omega)
   rw [Nat.add_zero] at this
   rw [this]; rfl
  have rj1 : rd S7 fd (fo + j * 15 + 1) = some (.int .i64 (gI its j).k) := by rw [rd_of_cells rj (by omega)]; rfl
  have hnej := hne j (by omega)
  rw [i1] at hnej
  cases ha1 : (gI its j).n == (m : Int)
  ·simp only [go_sem, seval, hs, hjk, hj0, hjl, Int.toNat_natCast, rj0, rj1, It.nul, It.one, e1, i1, ha1, hw2]
   refine hN3 _ _ ⟨rfl, j + 1, by omega, ?_⟩ ?_
   ·simp only [go_sem, seval, Int.natCast_add, Int.natCast_succ, hs]
   ·simp only [go_sem, seval, hs]
    simp [RowKit.intOf]
    omega
  ·rw [ha1, Bool.true_and] at hnej
   simp only [go_sem, seval, hs, hjk, hj0, hjl, Int.toNat_natCast, rj0, rj1, It.nul, It.one, e1, i1, ha1, hnej, hw2]
   refine hN3 _ _ ⟨rfl, j + 1, by omega, ?_⟩ ?_
   ·simp only [go_sem, seval, Int.natCast_add, Int.natCast_succ, hs]
   ·simp only [go_sem, seval, hs]
    simp [RowKit.intOf]
    omega
theorem once3' (x : Value) (n : Nat) (cs ws : List Value) (S : St) (hx : Sl S 49 x n cs) (hr : RowsOk ndSh n cs) (hf : FlatOk viewSh ws) : ACalls Tryz.prog 3 [x, .agg ws.toArray] S fun r S' => r = .bool true := by
 obtain ⟨l, hX, hl⟩ := Ns.of_rows hx hr
 obtain ⟨w0, r0, rfl, ⟨v0, rfl, _⟩, hf1⟩ := flat_cons hf
 obtain ⟨w1, r1, rfl, ⟨v1, rfl, _⟩, hf2⟩ := flat_cons hf1
 obtain rfl := flat_nil hf2
 exact once3 x l v0 v1 S hX hl
end Go.Proofs.YtegaklgjcicnfaaGreat
