/- The law TopOrder. -/
import Derived.Test.YtegaklgjcicnfaaGreatK3
import Derived.Test.YtegaklgjcicnfaaGreatKD
set_option linter.unusedSimpArgs false
set_option linter.unusedVariables false
namespace Go.Proofs.YtegaklgjcicnfaaGreat
open Go Go.Proofs.YtegaklgjcicnfaaGreat.Abs
theorem It.nul (i : It) : i.cells[0]? = some (.int .i64 i.n) := rfl
/-- A rendered tree, told for the laws on order: whether it went well or not. -/
structure RenO (l : List Nd) (S' : St) (f : Value) (e : Int) (its : List It) : Prop where
 full : Its S' f its
 nl : its.length ≤ 1000000000
 er : e ≠ 0 → its = []
 ord : its.Pairwise fun a b => lessB l a.n.toNat b.n.toNat a.k b.k = true
 made : ∀ i ∈ its, ∃ m : Nat, i.n = m ∧ m < l.length ∧ madeL l m = true
theorem TreeP.reno {l : List Nd} {v0 v1 : Int} {S : St} {r : Value} {S' : St} (h : TreeP l v0 v1 S r S') : KeepsAll S S' ∧ ∃ b f c e its, r = .tuple #[.agg #[b, f, c], .int .i64 e] ∧ (∃ x y z, b = .slice x y z) ∧ (∃ x y z, c = .slice x y z) ∧ RenO l S' f e its := by
 obtain ⟨hk, b, f, c, e, rfl, hb, _, hc, h2⟩ := h
 rcases h2 with ⟨he, _, rfl, rfl⟩ | ⟨rfl, bs, ns, T⟩
 ·exact ⟨hk, b, _, _, e, [], rfl, hb, hc, .inl ⟨rfl, rfl, rfl⟩, by simp, fun _ => rfl, by simp, by simp⟩
 ·have := itsOf_len l bs (clipsTo l bs v0 v1 l.length) ns
  have := T.nl
  have hf := tform_of T.chk
  obtain ⟨h1, h2⟩ := painted_way hf.1.2.tr hf T.pnt
  exact ⟨hk, b, f, c, 0, _, rfl, hb, hc, T.full, by omega, fun h => absurd rfl h, its_order h1, fun i hi => its_made h2 hi⟩
set_option maxHeartbeats 2000000 in
theorem order4 (x : Value) (l : List Nd) (v0 v1 : Int) (S : St) (h : Ns S x l) (hok : ∀ x ∈ l, x.Ok) : ACalls Tryz.prog 4 [x, .agg #[.int .i64 v0, .int .i64 v1]] S fun r S' => r = .bool true := by
 refine run_of hmix Tryz.func4 cF4 rfl fun hL Q hQ => ?_
 obtain ⟨xa, xe, rfl⟩ := h.slice
 simp only [go_sem, seval, aF4]
 refine cK_of (awake9 S) ?_
 rintro v S1 _ hL1 ⟨rfl, k1⟩
 have h1 := Sl.keeps hL h k1 fun _ _ => trivial
 simp only [go_sem, seval]
 refine cK_of (may10 _ l 15 S1 h1 hok (by decide)) ?_
 rintro v S2 _ hL2 ⟨rfl, k2⟩
 cases hm : (decide ((l.length : Int) ≤ 15) && (tchk l == 0))
 case' false =>
  simp only [go_sem, seval]
  refine cK_of (awake9 S2) ?_
  rintro v S3 _ hL3 ⟨rfl, k3⟩
  simp only [go_sem, seval]
  refine fin_at hQ rfl ?_; simp only [go_sem, seval, aF4]; rw [retQ_some]; simp only [oneOr]
 have hl15 : l.length ≤ 15 ∧ tchk l = 0 := by simp at hm; omega
 have hf := tform_of hl15.2
 have htr := hf.1.2.tr
 have h2 := Sl.keeps hL1 h1 k2 fun _ _ => trivial
 simp only [go_sem, seval]
 refine cK_of (tree11 _ l v0 v1 S2 h2 hok (by omega)) ?_
 rintro v S3 _ hL3 hT
 obtain ⟨k3, b, f, c, e, its, rfl, ⟨b0, b1, b2, rfl⟩, ⟨c0, c1, c2, rfl⟩, R⟩ := hT.reno
 have h3 := Sl.keeps hL2 h2 k3 fun _ _ => trivial
 obtain ⟨fa, fe, hfs⟩ := R.full.slice
 subst hfs
 have hnl := R.nl
 simp only [go_sem, seval]
 refine lK_of (fun t' S' => Live S' ∧ KeepsAll S3 S' ∧ ∃ k : Nat, k ≤ its.length ∧ Slots t' [(0, .slice xa l.length xe), (5, .agg #[.slice b0 b1 b2, .slice fa its.length fe, .slice c0 c1 c2]), (6, .int .i64 e), (27, .int .i64 its.length), (28, .int .i64 k)]) (fun t' _ => its.length - (RowKit.intOf (t' 28)).toNat) ?_ ?_
 ·refine ⟨hL3, Keeps.refl _ _, 0, by omega, ?_⟩
  simp only [go_sem, seval, Int.natCast_add, Int.natCast_succ]
 rintro t1 S4 Q1 ⟨hL4, k4, k, hk, hs⟩ _ hN hE
 simp only [slots_cons, slots_nil] at hs
 by_cases hkn : k = its.length
 ·subst hkn
  simp only [go_sem, seval, hs, Int.lt_irrefl]
  refine hE _ _ _ (by simp) ?_
  by_cases he : e = 0
  ·subst he
   simp only [go_sem, seval, hs]
   refine fin_at hQ rfl ?_; simp only [go_sem, seval, aF4, hs]; rw [retQ_some]; simp only [oneOr]
  ·have h0 := R.er he
   have he' : (e == 0) = false := by simpa using he
   have hc0 : (its.length : Int) = 0 := by rw [h0]; rfl
   simp only [go_sem, seval, hs, he', hc0]
   refine fin_at hQ rfl ?_; simp only [go_sem, seval, aF4, hs]; rw [retQ_some]; simp only [oneOr]
 have hkl : (k : Int) < its.length := by omega
 have hk' : k < its.length := by omega
 have hk0 : (0 : Int) ≤ k := by omega
 have hw1 : IntKind.i64.wrap ((k : Int) + 1) = ((k + 1 : Nat) : Int) := by rw [wrap64_id (by omega) (by omega)]; omega
 simp only [go_sem, seval, hs, hkl]
 refine lK_of (fun t' S' => Live S' ∧ KeepsAll S3 S' ∧ ∃ j : Nat, j ≤ k ∧ Slots t' [(0, .slice xa l.length xe), (5, .agg #[.slice b0 b1 b2, .slice fa its.length fe, .slice c0 c1 c2]), (6, .int .i64 e), (7, .int .i64 k), (27, .int .i64 its.length), (28, .int .i64 k), (31, .int .i64 k), (32, .int .i64 j)]) (fun t' _ => k - (RowKit.intOf (t' 32)).toNat) ?_ ?_
 ·refine ⟨hL4, k4, 0, by omega, ?_⟩
  simp only [go_sem, seval, Int.natCast_add, Int.natCast_succ, hs]
 rintro t2 S5 Q2 ⟨hL5, k5, j, hj, hs2⟩ _ hN2 hE2
 simp only [slots_cons, slots_nil] at hs2
 by_cases hjn : j = k
 ·subst hjn
  simp only [go_sem, seval, hs2, Int.lt_irrefl]
  refine hE2 _ _ _ (by simp) ?_
  simp only [go_sem, seval, hs2, hw1]
  refine hN _ _ ⟨hL5, k5, j + 1, by omega, ?_⟩ ?_
  ·simp only [go_sem, seval, Int.natCast_add, Int.natCast_succ, hs2]
  ·simp only [go_sem, seval, hs2]
   simp [RowKit.intOf, hs]
   omega
 have hjk : (j : Int) < k := by omega
 have hj' : j < its.length := by omega
 have hjl : (j : Int) < its.length := by omega
 have hj0 : (0 : Int) ≤ j := by omega
 have hw2 : IntKind.i64.wrap ((j : Int) + 1) = ((j + 1 : Nat) : Int) := by rw [wrap64_id (by omega) (by omega)]; omega
 have F5 := R.full.keeps hL3 k5 fun _ _ => trivial
 have h5 := Sl.keeps hL3 h3 k5 fun _ _ => trivial
 obtain ⟨fd, fo, fe', hfe, _, hfc⟩ := F5.ne (by omega)
 cases hfe
 have rj := its_at (e := fe) hfc hj'
 have rk := its_at (e := fe) hfc hk'
 obtain ⟨m1, e1, q1, q2⟩ := R.made (gI its j) (by rw [gI_get hj']; exact List.getElem_mem hj')
 obtain ⟨m2, e2, q3, q4⟩ := R.made (gI its k) (by rw [gI_get hk']; exact List.getElem_mem hk')
 have hle : lessB l m1 m2 (gI its j).k (gI its k).k = true := by
  have := List.pairwise_iff_getElem.1 R.ord j k hj' hk' (by omega)
  rw [← gI_get hj', ← gI_get hk', e1, e2, Int.toNat_natCast, Int.toNat_natCast] at this
  exact this
 obtain ⟨a, ha⟩ : ∃ a, a = gI its j := ⟨_, rfl⟩
 obtain ⟨b, hb⟩ : ∃ b, b = gI its k := ⟨_, rfl⟩
 rw [← ha] at rj e1 hle
 rw [← hb] at rk e2 hle
 simp only [go_sem, seval, hs2, hjk, hj0, hk0, hjl, hkl, Int.toNat_natCast, rj, rk, It.len, It.full, It.ow, It.one, It.nul]
 rw [e1, e2]
 refine cK_of (less13 _ h5 hok hf htr q1 q3 (by omega) q2 q4 a.k b.k) ?_
 rintro v S6 _ hL6 ⟨rfl, k6⟩
 rw [hle]
 simp only [go_sem, seval, hs2, hw2]
 refine hN2 _ _ ⟨hL6, k5.trans k6 fun _ _ _ => trivial, j + 1, by omega, ?_⟩ ?_
 ·simp only [go_sem, seval, Int.natCast_add, Int.natCast_succ, hs2]
 ·simp only [go_sem, seval, hs2]
  simp [RowKit.intOf]
  omega
theorem order4' (x : Value) (n : Nat) (cs ws : List Value) (S : St) (hx : Sl S 49 x n cs) (hr : RowsOk ndSh n cs) (hf : FlatOk viewSh ws) : ACalls Tryz.prog 4 [x, .agg ws.toArray] S fun r S' => r = .bool true := by
 obtain ⟨l, hX, hl⟩ := Ns.of_rows hx hr
 obtain ⟨w0, r0, rfl, ⟨v0, rfl, _⟩, hf1⟩ := flat_cons hf
 obtain ⟨w1, r1, rfl, ⟨v1, rfl, _⟩, hf2⟩ := flat_cons hf1
 obtain rfl := flat_nil hf2
 exact order4 x l v0 v1 S hX hl
end Go.Proofs.YtegaklgjcicnfaaGreat
