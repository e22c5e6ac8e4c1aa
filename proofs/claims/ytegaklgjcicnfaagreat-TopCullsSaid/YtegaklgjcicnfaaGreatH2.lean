/- The law TopCulls: what is culled is what was there, without just what is hidden. -/
import Derived.Test.YtegaklgjcicnfaaGreatGK
import Derived.Test.YtegaklgjcicnfaaGreatKD
set_option linter.unusedSimpArgs false
set_option linter.unusedVariables false
namespace Go.Proofs.YtegaklgjcicnfaaGreat
open Go Go.Proofs.YtegaklgjcicnfaaGreat.Abs
theorem view_sm {v0 v1 : Int} (h : ViewOk v0 v1) : RSm ⟨0, 0, v0, v1⟩ := ⟨Int.le_refl 0, Int.le_refl 0, h.2.1, h.2.2.2⟩
theorem clips_sm {l : List Nd} {bs : List Value} {v0 v1 : Int} (h : ViewOk v0 v1) : ∀ (j k : Nat), RSm (gR (clipsTo l bs v0 v1 j) k)
 | 0, k => by simp only [clipsTo, gR, List.getD_nil]; exact rsm0
 | j + 1, k => by
  have ih := clips_sm (l := l) (bs := bs) h j
  by_cases h1 : k < j
  ·have : gR (clipsTo l bs v0 v1 (j + 1)) k = gR (clipsTo l bs v0 v1 j) k := by
    simp [gR, clipsTo, List.getD_eq_getElem?_getD, List.getElem?_append_left, clipsTo_len, h1]
   rw [this]; exact ih k
  ·by_cases h2 : k = j
   ·subst h2
    have : gR (clipsTo l bs v0 v1 (k + 1)) k = clipOf l bs v0 v1 (gR (clipsTo l bs v0 v1 k)) k := by
     simp [gR, clipsTo, List.getD_eq_getElem?_getD, List.getElem?_append_right, clipsTo_len]
    rw [this]
    unfold clipOf
    split
    ·exact rsm0
    split
    ·exact RSm.meet' _ (view_sm h)
    split
    ·exact RSm.meet' _ (ih _)
    ·exact ih _
   ·have : gR (clipsTo l bs v0 v1 (j + 1)) k = ⟨0, 0, 0, 0⟩ := by
     unfold gR
     rw [List.getD_eq_getElem?_getD, List.getElem?_eq_none (by rw [clipsTo_len]; omega)]
     rfl
    rw [this]; exact rsm0
theorem items_sm {l : List Nd} {bs : List Value} {cl : List Rc} (h : ∀ k, RSm (gR cl k)) (ns : List Nat) : ∀ i ∈ itsOf l bs cl ns, RSm i.c := fun i hi => by
 obtain ⟨n, _, hn⟩ := List.mem_flatMap.1 hi
 unfold itemsOf at hn
 rcases List.mem_append.1 hn with hn | hn
 ·split at hn
  ·rw [List.mem_singleton] at hn; subst hn; exact h n
  ·cases hn
 ·split at hn
  ·rw [List.mem_singleton] at hn; subst hn; exact h n
  ·cases hn
theorem its_sm {l : List Nd} {bs : List Value} {v0 v1 : Int} (h : ViewOk v0 v1) (ns : List Nat) {k : Nat} (hk : k < (itsOf l bs (clipsTo l bs v0 v1 l.length) ns).length) : RSm (gI (itsOf l bs (clipsTo l bs v0 v1 l.length) ns) k).c := by
 rw [gI_get hk]
 exact items_sm (clips_sm h l.length) ns _ (List.getElem_mem hk)
theorem cull_at {its : List It} {k : Nat} (hk : k < its.length) (h : hidP its k = false) : (cullL its)[(cullTo its k).length]? = some (gI its k) := by
 have key : ∀ d, k + 1 + d ≤ its.length → (cullTo its (k + 1 + d))[(cullTo its k).length]? = some (gI its k) := by
  intro d
  induction d with
  | zero => intro _; rw [Nat.add_zero, cullTo_succ, h, List.getElem?_append_right (Nat.le_refl _), Nat.sub_self]; rfl
  | succ d ih =>
   intro hd
   have := ih (by omega)
   rw [show k + 1 + (d + 1) = k + 1 + d + 1 by omega, cullTo_succ, List.getElem?_append_left (List.getElem?_eq_some_iff.1 this).1]
   exact this
 have := key (its.length - (k + 1)) (by omega)
 rw [show k + 1 + (its.length - (k + 1)) = its.length by omega] at this
 exact this
/-- A rendered tree, told for the laws: whether it went well or not. -/
structure Ren (S' : St) (f c : Value) (e : Int) (its : List It) : Prop where
 full : Its S' f its
 cull : Its S' c (cullL its)
 sm : ∀ k, k < its.length → RSm (gI its k).c
 nl : its.length ≤ 1000000000
 er : e ≠ 0 → its = []
theorem TreeP.ren {l : List Nd} {v0 v1 : Int} {S : St} {r : Value} {S' : St} (h : TreeP l v0 v1 S r S') : KeepsAll S S' ∧ ∃ b f c e its, r = .tuple #[.agg #[b, f, c], .int .i64 e] ∧ (∃ x y z, b = .slice x y z) ∧ Ren S' f c e its := by
 obtain ⟨hk, b, f, c, e, rfl, hb, _, _, h2⟩ := h
 rcases h2 with ⟨he, _, rfl, rfl⟩ | ⟨rfl, bs, ns, T⟩
 ·exact ⟨hk, b, _, _, e, [], rfl, hb, .inl ⟨rfl, rfl, rfl⟩, .inl ⟨rfl, rfl, rfl⟩, fun k hk => by simp at hk, by simp, fun _ => rfl⟩
 ·have := itsOf_len l bs (clipsTo l bs v0 v1 l.length) ns
  have := T.nl
  exact ⟨hk, b, f, c, 0, _, rfl, hb, T.full, T.cull, fun k hk => its_sm T.view ns hk, by omega, fun h => absurd rfl h⟩
set_option maxHeartbeats 2000000 in
theorem culls7 (x : Value) (l : List Nd) (v0 v1 : Int) (S : St) (h : Ns S x l) (hok : ∀ x ∈ l, x.Ok) : ACalls Tryz.prog 7 [x, .agg #[.int .i64 v0, .int .i64 v1]] S fun r S' => r = .bool true := by
 refine run_of hmix Tryz.func7 cF7 rfl fun hL Q hQ => ?_
 obtain ⟨xa, xe, rfl⟩ := h.slice
 simp only [go_sem, seval, aF7]
 refine cK_of (awake9 S) ?_
 rintro v S1 _ hL1 ⟨rfl, k1⟩
 have h1 := Sl.keeps hL h k1 fun _ _ => trivial
 simp only [go_sem, seval]
 refine cK_of (may10 _ l 15 S1 h1 hok (by decide)) ?_
 rintro v S2 _ hL2 ⟨rfl, k2⟩
 cases hm : (decide ((l.length : Int) ≤ 15) && (tchk l == 0))
 case' false =>
  simp only [go_sem, seval]
  refine cK_of (awake9 S2) ?_
  rintro v S3 _ hL3 ⟨rfl, k3⟩
  simp only [go_sem, seval]
  refine fin_at hQ rfl ?_; simp only [go_sem, seval, aF7]; rw [retQ_some]; simp only [oneOr]
 have hl15 : l.length ≤ 15 := by simp at hm; omega
 have h2 := Sl.keeps hL1 h1 k2 fun _ _ => trivial
 simp only [go_sem, seval]
 refine cK_of (tree11 _ l v0 v1 S2 h2 hok (by omega)) ?_
 rintro v S3 _ hL3 hT
 obtain ⟨k3, b, f, c, e, its, rfl, ⟨b0, b1, b2, rfl⟩, R⟩ := hT.ren
 obtain ⟨fa, fe, rfl⟩ := R.full.slice
 obtain ⟨ca, ce, rfl⟩ := R.cull.slice
 have hnl := R.nl
 simp only [go_sem, seval]
 refine lK_of (fun t' S' => Live S' ∧ KeepsAll S3 S' ∧ ∃ k : Nat, k ≤ its.length ∧ Slots t' [(5, .agg #[.slice b0 b1 b2, .slice fa its.length fe, .slice ca (cullL its).length ce]), (6, .int .i64 e), (7, .int .i64 (cullTo its k).length), (25, .int .i64 its.length), (26, .int .i64 k)]) (fun t' _ => its.length - (RowKit.intOf (t' 26)).toNat) ?_ ?_
 ·refine ⟨hL3, Keeps.refl _ _, 0, by omega, ?_⟩
  simp only [go_sem, seval, Int.natCast_add, Int.natCast_succ, show (cullTo its 0).length = 0 from rfl]
 rintro t1 S4 Q1 ⟨hL4, k4, k, hk, hs⟩ _ hN hE
 simp only [slots_cons, slots_nil] at hs
 by_cases hkn : k = its.length
 ·subst hkn
  have hcl : (cullTo its its.length).length = (cullL its).length := rfl
  rw [hcl] at hs
  simp only [go_sem, seval, hs, Int.lt_irrefl]
  refine hE _ _ _ (by simp) ?_
  by_cases he : e = 0
  ·subst he
   simp only [go_sem, seval, hs, beq_self_eq_true]
   refine fin_at hQ rfl ?_; simp only [go_sem, seval, aF7, hs]; rw [retQ_some]; simp only [oneOr]
  ·have h0 := R.er he
   have he' : (e == 0) = false := by simpa using he
   have hc0 : ((cullL its).length : Int) = 0 := by rw [h0]; rfl
   simp only [go_sem, seval, hs, beq_self_eq_true, he', hc0]
   refine fin_at hQ rfl ?_; simp only [go_sem, seval, aF7, hs]; rw [retQ_some]; simp only [oneOr]
 have hkl : (k : Int) < its.length := by omega
 have hk' : k < its.length := by omega
 have hk0 : (0 : Int) ≤ k := by omega
 have hw1 : IntKind.i64.wrap ((k : Int) + 1) = ((k + 1 : Nat) : Int) := by rw [wrap64_id (by omega) (by omega)]; omega
 have F4 := R.full.keeps hL3 k4 fun _ _ => trivial
 have C4 := R.cull.keeps hL3 k4 fun _ _ => trivial
 simp only [go_sem, seval, hs, hkl]
 refine cK_of (hidden20 _ its k S4 F4 hk' hnl (R.sm k hk')) ?_
 rintro v S5 _ hL5 ⟨rfl, k5⟩
 have hsu := cullTo_succ its k
 cases hh : hidP its k
 case' true =>
  rw [hh] at hsu
  have e1 : cullTo its (k + 1) = cullTo its k := by rw [hsu]; simp
  simp only [go_sem, seval, hs, hw1]
  refine hN _ _ ⟨hL5, k4.trans k5 fun _ _ _ => trivial, k + 1, by omega, ?_⟩ ?_
  ·simp only [go_sem, seval, Int.natCast_add, Int.natCast_succ, hs, e1]
  ·simp only [go_sem, seval, hs]
   simp [RowKit.intOf]
   omega
 rw [hh] at hsu
 have e2 : (cullTo its (k + 1)).length = (cullTo its k).length + 1 := by rw [hsu]; simp
 have hca := cull_at hk' hh
 obtain ⟨hlt, hca'⟩ := List.getElem?_eq_some_iff.1 hca
 have hlt0 : (0 : Int) ≤ (cullTo its k).length := by omega
 have hlt1 : ((cullTo its k).length : Int) < (cullL its).length := by omega
 have hge : ¬ ((cullTo its k).length : Int) ≥ (cullL its).length := by omega
 have F5 := F4.keeps hL4 k5 fun _ _ => trivial
 have C5 := C4.keeps hL4 k5 fun _ _ => trivial
 obtain ⟨fd, fo, fe', hfe, _, hfc⟩ := F5.ne (by omega)
 cases hfe
 obtain ⟨cd, co, ce', hce, _, hcc⟩ := C5.ne (by omega)
 cases hce
 have rf := its_at (e := fe) hfc hk'
 have rc := its_at (e := ce) hcc hlt
 have hgi : gI (cullL its) (cullTo its k).length = gI its k := by rw [gI_get hlt]; exact hca'
 rw [hgi] at rc
 have hwl := cullTo_len its k
 have hw2 : IntKind.i64.wrap (((cullTo its k).length : Int) + 1) = (((cullTo its k).length + 1 : Nat) : Int) := by rw [wrap64_id (by omega) (by omega)]; omega
 simp only [go_sem, seval, hs, decide_eq_false hge, hlt0, hlt1, hk0, hkl, Int.toNat_natCast, rf, rc, flat_it, hw1, hw2]
 refine hN _ _ ⟨hL5, k4.trans k5 fun _ _ _ => trivial, k + 1, by omega, ?_⟩ ?_
 ·simp only [go_sem, seval, Int.natCast_add, Int.natCast_succ, hs, e2]
 ·simp only [go_sem, seval, hs]
  simp [RowKit.intOf]
  omega
theorem culls7' (x : Value) (n : Nat) (cs ws : List Value) (S : St) (hx : Sl S 49 x n cs) (hr : RowsOk ndSh n cs) (hf : FlatOk viewSh ws) : ACalls Tryz.prog 7 [x, .agg ws.toArray] S fun r S' => r = .bool true := by
 obtain ⟨l, hX, hl⟩ := Ns.of_rows hx hr
 obtain ⟨w0, r0, rfl, ⟨v0, rfl, _⟩, hf1⟩ := flat_cons hf
 obtain ⟨w1, r1, rfl, ⟨v1, rfl, _⟩, hf2⟩ := flat_cons hf1
 obtain rfl := flat_nil hf2
 exact culls7 x l v0 v1 S hX hl
end Go.Proofs.YtegaklgjcicnfaaGreat
