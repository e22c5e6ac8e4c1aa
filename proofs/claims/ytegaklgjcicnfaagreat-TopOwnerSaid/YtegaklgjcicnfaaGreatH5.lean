/- The law TopOwner: the owner of what was culled is the owner of all. -/
import Derived.Test.YtegaklgjcicnfaaGreatH4
import Derived.Test.YtegaklgjcicnfaaGreatKD
set_option linter.unusedSimpArgs false
set_option linter.unusedVariables false
namespace Go.Proofs.YtegaklgjcicnfaaGreat
open Go Go.Proofs.YtegaklgjcicnfaaGreat.Abs
set_option maxHeartbeats 2000000 in
theorem owner6 (x : Value) (l : List Nd) (v0 v1 px py : Int) (S : St) (h : Ns S x l) (hok : ∀ x ∈ l, x.Ok) : ACalls Tryz.prog 6 [x, .agg #[.int .i64 v0, .int .i64 v1], .int .i64 px, .int .i64 py] S fun r S' => r = .bool true := by
 refine run_of hmix Tryz.func6 cF6 rfl fun hL Q hQ => ?_
 obtain ⟨xa, xe, rfl⟩ := h.slice
 simp only [go_sem, seval, aF6]
 refine cK_of (awake9 S) ?_
 rintro v S1 _ hL1 ⟨rfl, k1⟩
 have h1 := Sl.keeps hL h k1 fun _ _ => trivial
 simp only [go_sem, seval]
 refine cK_of (may10 _ l 15 S1 h1 hok (by decide)) ?_
 rintro v S2 _ hL2 ⟨rfl, k2⟩
 cases hm : (decide ((l.length : Int) ≤ 15) && (tchk l == 0))
 case' false =>
  simp only [go_sem, seval]
  refine cK_of (awake9 S2) ?_
  rintro v S3 _ hL3 ⟨rfl, k3⟩
  simp only [go_sem, seval]
  refine fin_at hQ rfl ?_; simp only [go_sem, seval, aF6]; rw [retQ_some]; simp only [oneOr]
 have hl15 : l.length ≤ 15 := by simp at hm; omega
 have h2 := Sl.keeps hL1 h1 k2 fun _ _ => trivial
 simp only [go_sem, seval]
 refine cK_of (tree11 _ l v0 v1 S2 h2 hok (by omega)) ?_
 rintro v S3 _ hL3 hT
 obtain ⟨k3, b, f, c, e, its, rfl, ⟨b0, b1, b2, rfl⟩, R⟩ := hT.ren
 obtain ⟨fa, fe, hfs⟩ := R.full.slice
 obtain ⟨ca, ce, hcs⟩ := R.cull.slice
 subst hfs
 subst hcs
 have hnl := R.nl
 have hcl : (cullL its).length ≤ its.length := cullTo_len its its.length
 simp only [go_sem, seval]
 refine cK_of (owner19 _ its px py S3 R.full hnl) ?_
 rintro v S4 _ hL4 ⟨rfl, hS4⟩
 obtain rfl := hS4.symm
 simp only [go_sem, seval]
 refine cK_of (owner19 _ (cullL its) px py S3 R.cull (by omega)) ?_
 rintro v S4 _ hL4' ⟨rfl, hS4⟩
 obtain rfl := hS4.symm
 rcases own_cull its px py with ⟨e1, e2⟩ | ⟨p, q, hp, hq, e1, e2, eg⟩
 ·rw [e1, e2]
  by_cases he : e = 0
  ·subst he
   simp only [go_sem, seval]
   refine fin_at hQ rfl ?_; simp only [go_sem, seval, aF6]; rw [retQ_some]; simp only [oneOr]
  ·have h0 := R.er he
   have he' : (e != 0) = true := by simpa using he
   have hc0 : (its.length : Int) = 0 := by rw [h0]; rfl
   simp only [go_sem, seval, he', hc0]
   refine fin_at hQ rfl ?_; simp only [go_sem, seval, aF6]; rw [retQ_some]; simp only [oneOr]
 ·rw [e1, e2]
  have he : e = 0 := Classical.byContradiction fun he => by have h0 := R.er he; rw [h0] at hp; simp at hp
  subst he
  have f1 : ¬ ((p : Int) < 0) := by omega
  have f2 : ¬ ((q : Int) < 0) := by omega
  have p0 : (0 : Int) ≤ p := by omega
  have q0 : (0 : Int) ≤ q := by omega
  have pl : (p : Int) < its.length := by omega
  have ql : (q : Int) < (cullL its).length := by omega
  obtain ⟨fd, fo, fe', hfe, _, hfc⟩ := R.full.ne (by omega)
  cases hfe
  obtain ⟨cd, co, ce', hce, _, hcc⟩ := R.cull.ne (by omega)
  cases hce
  have rf := its_at (e := fe) hfc hp
  have rc := its_at (e := ce) hcc hq
  rw [eg] at rc
  simp only [go_sem, seval, f1, f2, p0, q0, pl, ql, decide_eq_false f1, decide_eq_false f2, Int.toNat_natCast, rf, rc, flat_it]
  refine fin_at hQ rfl ?_; simp only [go_sem, seval, aF6]; rw [retQ_some]; simp only [oneOr]
theorem owner6' (x : Value) (n : Nat) (cs ws : List Value) (px py : Int) (S : St) (hx : Sl S 49 x n cs) (hr : RowsOk ndSh n cs) (hf : FlatOk viewSh ws) : ACalls Tryz.prog 6 [x, .agg ws.toArray, .int .i64 px, .int .i64 py] S fun r S' => r = .bool true := by
 obtain ⟨l, hX, hl⟩ := Ns.of_rows hx hr
 obtain ⟨w0, r0, rfl, ⟨v0, rfl, _⟩, hf1⟩ := flat_cons hf
 obtain ⟨w1, r1, rfl, ⟨v1, rfl, _⟩, hf2⟩ := flat_cons hf1
 obtain rfl := flat_nil hf2
 exact owner6 x l v0 v1 px py S hX hl
end Go.Proofs.YtegaklgjcicnfaaGreat
