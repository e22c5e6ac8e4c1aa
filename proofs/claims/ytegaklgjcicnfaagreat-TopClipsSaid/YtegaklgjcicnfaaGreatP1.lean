/- The law's own sums over a box; the answer's holders. -/
import Derived.Test.YtegaklgjcicnfaaGreatP0
import Derived.Test.YtegaklgjcicnfaaGreatKD
set_option linter.unusedSimpArgs false
set_option linter.unusedVariables false
namespace Go.Proofs.YtegaklgjcicnfaaGreat
open Go Go.Proofs.YtegaklgjcicnfaaGreat.Abs
theorem tall15 (cs : List Value) (S : St) (h : Fl boxSg cs) : ACalls Tryz.prog 15 [.agg cs.toArray] S fun r S' => r = .int .i64 (tallB cs) ∧ S' = S := by
 refine run_of hmix Tryz.func15 cF15 rfl fun hL Q hQ => ?_
 unfold tallB at hQ
 simp only [go_sem, seval, aF15, h.N 21, h.F 21, h.I 4, h.I 13, h.I 15, h.I 17, h.I 19]
 refine fin_at hQ rfl ?_; simp only [go_sem, seval, aF15]; rw [retQ_some]; simp only [oneOr]
 exact ⟨trivial, trivial⟩
theorem content17 (cs : List Value) (S : St) (h : Fl boxSg cs) : ACalls Tryz.prog 17 [.agg cs.toArray] S fun r S' => r = .tuple #[.int .i64 (cxB cs), .int .i64 (cyB cs)] ∧ S' = S := by
 refine run_of hmix Tryz.func17 cF17 rfl fun hL Q hQ => ?_
 unfold cxB cyB at hQ
 simp only [go_sem, seval, aF17, h.N 21, h.F 21, h.I 1, h.I 2, h.I 13, h.I 16, h.I 17, h.I 20]
 refine fin_at hQ rfl ?_; simp only [go_sem, seval, aF17]; rw [retQ_some]; simp only [oneOr]
 exact ⟨trivial, trivial⟩
section
variable {S : St} {l : List Nd}
theorem up_at {a : Int} (h : 0 ≤ a) (htr : Tr (par l) l.length) (ha : a < l.length) : ∃ r, chain (par l) a = a :: r := ⟨_, chain_pos htr h ha⟩
set_option maxHeartbeats 1000000 in
theorem of16 (x : Value) (h : Ns S x l) (hok : ∀ x ∈ l, x.Ok) (hf : TForm l) (htr : Tr (par l) l.length) {n : Nat} (hn : n < l.length) (hl : l.length ≤ 1000000) : ACalls Tryz.prog 16 [x, .int .i64 n] S fun r S' => r = .int .i64 (holdOf l n) ∧ KeepsAll S S' := by
 refine run_of hmix Tryz.func16 cF16 rfl fun hL Q hQ => ?_
 obtain ⟨xa, xe, rfl⟩ := h.slice
 have hpos := hf.2 _ (List.getElem_mem hn)
 rw [nS_get hn] at hpos
 have hp0 := hpos.2.2.1
 have hp3 := hpos.2.2.2.1
 rw [nS_pos l n hn] at hp0 hp3
 unfold holdOf at hQ
 by_cases h0 : n = 0
 ·subst h0
  have hq : (if madeL l 0 = false then (-1 : Int) else if outL l 0 = false then par l (0 : Nat) else if posAt l 0 = 3 then -1 else firstPosd l (par l (0 : Nat))) = -1 := by
   have hpar : par l 0 = -1 := (hf.1.2 0 hn).1 rfl
   have ho : outL l 0 = false := by unfold outL; simp
   rw [ho, hpar]
   split <;> rfl
  simp only [go_sem, seval, aF16, Int.le_refl]
  refine fin_at hQ rfl ?_; simp only [go_sem, seval, aF16]; rw [retQ_some]; simp only [oneOr]
  exact ⟨by rw [hq], Keeps.refl _ _⟩
 have hg : ¬ ((n : Int) ≤ 0) := by omega
 simp only [go_sem, seval, aF16, hg]
 refine cK_of (made12 _ h hok htr hn) ?_
 rintro v S1 _ hL1 ⟨rfl, hS1⟩
 obtain rfl := hS1.symm
 cases hm : madeL l n
 ·simp only [go_sem, seval]
  refine fin_at hQ rfl ?_; simp only [go_sem, seval, aF16]; rw [retQ_some]; simp only [oneOr]
  exact ⟨by rw [hm, if_pos rfl], Keeps.refl _ _⟩
 simp only [go_sem, seval]
 refine cK_of (up30 _ h hok htr hn hl) ?_
 rintro v S3 _ hL3 ⟨hA1, hkeep, hfr⟩
 obtain ⟨p, hp, hpn⟩ := par_nat hf (by omega) hn
 have hch : ∃ r, chain (par l) (par l n) = (p : Int) :: r := by rw [hp]; exact up_at (by omega) htr (by omega)
 have hle : ∀ j (hj : j < (chain (par l) (par l n)).length), ∃ k : Nat, (chain (par l) (par l n))[j] = k ∧ k < l.length := fun j hj => by
  have := chain_le htr (a := par l n) (by omega) (List.getElem_mem hj)
  exact ⟨((chain (par l) (par l n))[j]).toNat, by omega, by omega⟩
 have hcl : (chain (par l) (par l n)).length ≤ l.length := by
  have := chain_len htr l.length (par l n) (by omega) (by omega) (by omega)
  omega
 have h3 := Sl.keeps hL h hkeep fun _ _ => trivial
 obtain ⟨ld, lo, le', hle', _, lc⟩ := h3.ne (by omega)
 cases hle'
 have rp := position_at hok lc hn
 have n0 : (0 : Int) ≤ n := by omega
 have nl : (n : Int) < l.length := by omega
 unfold firstPosd at hQ
 obtain ⟨cs, hcs⟩ : ∃ cs, cs = chain (par l) (par l n) := ⟨_, rfl⟩
 rw [← hcs] at hA1 hle hcl hQ hch
 have hc0 : 0 < cs.length := by obtain ⟨r, e⟩ := hch; rw [e]; simp
 obtain ⟨d, rfl, hb, _⟩ := hA1.ne hc0
 by_cases hps : posAt l n < 2
 ·have ho : outL l n = false := by
   unfold outL
   have e2 : (posAt l n == 2) = false := by simp; omega
   have e3 : (posAt l n == 3) = false := by simp; omega
   rw [e2, e3]; simp
  have r0 : rd S3 d 0 = some (.int .i64 (p : Nat)) := by
   rw [rd_of_blk hb]
   obtain ⟨r, e⟩ := hch
   rw [e]; rfl
  have hc1 : (0 : Int) < cs.length := by omega
  simp only [go_sem, seval, n0, nl, Int.toNat_natCast, rp, hps, hc1, Int.le_refl, Nat.zero_mul, r0]
  refine fin_at hQ rfl ?_; simp only [go_sem, seval, aF16]; rw [retQ_some]; simp only [oneOr]
  exact ⟨by rw [hm, if_neg (by decide), ho, if_pos rfl, hp], hkeep⟩
 have ho : outL l n = true := by
  unfold outL
  rw [hm, show decide (0 < n) = true by simp; omega]
  by_cases e2 : posAt l n = 2
  ·simp [e2]
  ·have : posAt l n = 3 := by omega
   simp [this]
 rw [hm, if_neg (by decide), ho, if_neg (by decide)] at hQ
 simp only [go_sem, seval, n0, nl, Int.toNat_natCast, rp, hps]
 refine lK_of (fun t' S' => S' = S3 ∧ ∃ j : Nat, j ≤ cs.length ∧ (posAt l n = 2 → (cs.take j).all (fun a => !posd l a.toNat) = true) ∧ Slots t' [(0, .slice (some ⟨ld, lo, none⟩) l.length xe), (1, .int .i64 n), (5, .slice (some ⟨d, 0, none⟩) cs.length 1), (29, .int .i64 cs.length), (30, .int .i64 j)]) (fun t' _ => cs.length - (RowKit.intOf (t' 30)).toNat) ?_ ?_
 ·refine ⟨rfl, 0, by omega, by simp, ?_⟩
  simp only [go_sem, seval, Int.natCast_add, Int.natCast_succ]
 rintro t1 S4 Q1 ⟨rfl, j, hj, hall, hs⟩ _ hN hE
 simp only [slots_cons, slots_nil] at hs
 by_cases hjn : j = cs.length
 ·subst hjn
  simp only [go_sem, seval, hs, Int.lt_irrefl]
  refine hE _ _ _ (by simp) ?_
  simp only [go_sem, seval, hs]
  refine fin_at hQ rfl ?_; simp only [go_sem, seval, aF16, hs]; rw [retQ_some]; simp only [oneOr]
  refine ⟨?_, hkeep⟩
  by_cases h2 : posAt l n = 2
  ·have := hall h2
   rw [List.take_length] at this
   rw [if_neg (by omega), find_no this]
  ·rw [if_pos (by omega)]
 have hj' : j < cs.length := by omega
 have hjl : (j : Int) < cs.length := by omega
 have hj0 : (0 : Int) ≤ j := by omega
 have hw1 : IntKind.i64.wrap ((j : Int) + 1) = ((j + 1 : Nat) : Int) := by rw [wrap64_id (by omega) (by omega)]; omega
 obtain ⟨k, hk, hkl⟩ := hle j hj'
 have r1 : rd S4 d j = some (.int .i64 (k : Nat)) := by rw [rd_of_blk hb, iV_at hj', hk]
 by_cases h2 : posAt l n = 2
 case' neg =>
  have e2 : (posAt l n == 2) = false := by simpa using h2
  simp only [go_sem, seval, hs, hjl, n0, nl, Int.toNat_natCast, rp, e2, hw1]
  refine hN _ _ ⟨rfl, j + 1, by omega, fun h => absurd h h2, ?_⟩ ?_
  ·simp only [go_sem, seval, Int.natCast_add, Int.natCast_succ, hs]
  ·simp only [go_sem, seval, hs]
   simp [RowKit.intOf]
   omega
 have e2 : (posAt l n == 2) = true := by simpa using h2
 simp only [go_sem, seval, hs, hjl, hj0, n0, nl, Int.toNat_natCast, rp, e2, Nat.mul_one, r1]
 refine cK_of (positioned31 _ h3 hok htr hkl) ?_
 rintro v S5 _ hL5 ⟨rfl, hS5⟩
 obtain rfl := hS5.symm
 cases hpd : posd l k
 ·simp only [go_sem, seval, hs, hw1]
  refine hN _ _ ⟨rfl, j + 1, by omega, fun h => ?_, ?_⟩ ?_
  ·rw [List.take_succ_eq_append_getElem hj', List.all_append, hall h]
   simp [hk, hpd]
  ·simp only [go_sem, seval, Int.natCast_add, Int.natCast_succ, hs]
  ·simp only [go_sem, seval, hs]
   simp [RowKit.intOf]
   omega
 ·simp only [go_sem, seval, hs, hjl, hj0, Int.toNat_natCast, Nat.mul_one, r1]
  refine hE _ _ _ (by simp) ?_
  simp only [go_sem, seval, hs]
  refine fin_at hQ rfl ?_; simp only [go_sem, seval, aF16, hs]; rw [retQ_some]; simp only [oneOr]
  refine ⟨?_, hkeep⟩
  rw [if_neg (by omega), find_at (p := fun a => posd l a.toNat) hj' (hall h2) (by rw [hk, Int.toNat_natCast, hpd]), hk]
end
end Go.Proofs.YtegaklgjcicnfaaGreat
