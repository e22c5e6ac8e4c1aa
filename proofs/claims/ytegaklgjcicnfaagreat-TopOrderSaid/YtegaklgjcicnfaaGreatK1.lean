/- The answer's groups, contexts and ways. -/
import Derived.Test.YtegaklgjcicnfaaGreatK0
import Derived.Test.YtegaklgjcicnfaaGreatI0
import Derived.Test.YtegaklgjcicnfaaGreatKD
set_option linter.unusedSimpArgs false
set_option linter.unusedVariables false
namespace Go.Proofs.YtegaklgjcicnfaaGreat
open Go Go.Proofs.YtegaklgjcicnfaaGreat.Abs
section
variable {S : St} {l : List Nd}
theorem up_len (htr : Tr (par l) l.length) {n : Nat} (hn : n < l.length) : (chain (par l) (par l n)).length ≤ l.length := by
 have h1 := htr n hn
 have := chain_len htr l.length (par l n) (by omega) (by omega) (by omega)
 omega
theorem up_nat (htr : Tr (par l) l.length) {a : Int} (ha : a < l.length) {j : Nat} (hj : j < (chain (par l) a).length) : ∃ k : Nat, (chain (par l) a)[j] = k ∧ k < l.length ∧ (k : Int) ≤ a := by
 have := chain_le htr ha (List.getElem_mem hj)
 exact ⟨((chain (par l) a)[j]).toNat, by omega, by omega, by omega⟩
set_option maxHeartbeats 1000000 in
theorem group58 (x : Value) (h : Ns S x l) (hok : ∀ x ∈ l, x.Ok) (htr : Tr (par l) l.length) {n : Nat} (hn : n < l.length) (hl : l.length ≤ 1000000) (hm : madeL l n = true) : ACalls Tryz.prog 58 [x, .int .i64 n] S fun r S' => r = .int .i64 (grpL l n) ∧ KeepsAll S S' := by
 refine run_of hmix Tryz.func58 cF58 rfl fun hL Q hQ => ?_
 obtain ⟨xa, xe, rfl⟩ := h.slice
 simp only [go_sem, seval, aF58]
 refine cK_of (made12 _ h hok htr hn) ?_
 rintro v S1 _ hL1 ⟨rfl, hS1⟩
 obtain rfl := hS1.symm
 rw [hm]
 simp only [go_sem, seval]
 obtain ⟨S0, hS0⟩ : ∃ S0, S0 = S.new ⟨false, [.int .i64 (n : Int)]⟩ := ⟨_, rfl⟩
 have k0 : KeepsAll S S0 := by rw [hS0]; exact Keeps.of_new _ _ _
 have hL0 : Live S0 := by rw [hS0]; exact hL.new _
 have hb0 : S0.blk S.next = some ⟨false, [.int .i64 (n : Int)]⟩ := by rw [hS0, St.blk_new, if_pos rfl]
 have hn0 : S0.next = S.next + 1 := by rw [hS0]; rfl
 rw [← hS0]
 have h0 := Sl.keeps hL h k0 fun _ _ => trivial
 refine cK_of (up30 _ h0 hok htr hn hl) ?_
 rintro v S2 _ hL2 ⟨ho, k2, hf⟩
 obtain ⟨ua, ue, rfl⟩ := ho.sl.slice
 have hul := up_len htr hn
 have hx : Own S2 1 (.slice (some ⟨S.next, 0, none⟩) 1 1) 1 [.int .i64 (n : Int)] := .inr ⟨S.next, rfl, (k2.2 _ (by omega) trivial).trans hb0, rfl⟩
 simp only [go_sem, seval]
 refine hK_of (appS (bytes := 8) hL2 (by decide) hx ho.sl (by omega)) ?_
 rintro v S3 ⟨⟨wa, we, rfl⟩, hA⟩
 have hA1 := hA.own
 have hkeep : KeepsAll S S3 := (k0.trans k2 fun _ _ _ => trivial).trans hA.keep fun i hi _ => by simp [Value.blkOf]; omega
 have hch := chain_pos htr (a := (n : Int)) (by omega) (by omega)
 rw [Int.toNat_natCast] at hch
 have e1 : [Value.int .i64 (n : Int)] ++ iV (chain (par l) (par l n)) = iV (chain (par l) n) := by rw [hch]; rfl
 have e2 : 1 + (chain (par l) (par l n)).length = (chain (par l) n).length := by rw [hch, List.length_cons]; omega
 rw [e1, e2] at hA1
 unfold grpL at hQ
 have hle : ∀ j (hj : j < (chain (par l) n).length), ∃ k : Nat, (chain (par l) n)[j] = k ∧ k < l.length ∧ (k : Int) ≤ n := fun j hj => up_nat htr (by omega) hj
 have hcl : (chain (par l) n).length ≤ l.length + 1 := by omega
 have h3 := Sl.keeps hL h hkeep fun _ _ => trivial
 rw [e2]
 obtain ⟨cs, hcs⟩ : ∃ cs, cs = chain (par l) (n : Int) := ⟨_, rfl⟩
 rw [← hcs] at hA1 hle hcl hQ ⊢
 have hL3 := hA.live
 simp only [go_sem, seval]
 refine lK_of (fun t' S' => S' = S3 ∧ ∃ j : Nat, j ≤ cs.length ∧ (cs.take j).all (fun a => !leadsL l a.toNat) = true ∧ Slots t' [(0, .slice xa l.length xe), (5, .slice wa cs.length we), (18, .int .i64 cs.length), (19, .int .i64 j)]) (fun t' _ => cs.length - (RowKit.intOf (t' 19)).toNat) ?_ ?_
 ·refine ⟨rfl, 0, by omega, by simp, ?_⟩
  simp only [go_sem, seval, Int.natCast_add, Int.natCast_succ]
 rintro t1 S4 Q1 ⟨rfl, j, hj, hall, hs⟩ _ hN hE
 simp only [slots_cons, slots_nil] at hs
 by_cases hjn : j = cs.length
 ·subst hjn
  simp only [go_sem, seval, hs, Int.lt_irrefl]
  refine hE _ _ _ (by simp) ?_
  simp only [go_sem, seval, hs]
  refine fin_at hQ rfl ?_; simp only [go_sem, seval, aF58, hs]; rw [retQ_some]; simp only [oneOr]
  rw [List.take_length] at hall
  exact ⟨by rw [find_no hall], hkeep⟩
 have hj' : j < cs.length := by omega
 have hjl : (j : Int) < cs.length := by omega
 have hj0 : (0 : Int) ≤ j := by omega
 have hw1 : IntKind.i64.wrap ((j : Int) + 1) = ((j + 1 : Nat) : Int) := by rw [wrap64_id (by omega) (by omega)]; omega
 obtain ⟨k, hk, hkl, _⟩ := hle j hj'
 obtain ⟨d, he, hb, _⟩ := hA1.ne (by omega)
 cases he
 have r1 : rd S4 d j = some (.int .i64 (k : Nat)) := by rw [rd_of_blk hb, iV_at hj', hk]
 simp only [go_sem, seval, hs, hjl, hj0, Int.toNat_natCast, Nat.mul_one, r1]
 refine cK_of (leads96 _ h3 hok htr hkl) ?_
 rintro v S5 _ hL5 ⟨rfl, hS5⟩
 obtain rfl := hS5.symm
 cases hle' : leadsL l k
 ·simp only [go_sem, seval, hs, hw1]
  refine hN _ _ ⟨rfl, j + 1, by omega, all_take hj' hall (by rw [hk, Int.toNat_natCast, hle']; rfl), ?_⟩ ?_
  ·simp only [go_sem, seval, Int.natCast_add, Int.natCast_succ, hs]
  ·simp only [go_sem, seval, hs]
   simp [RowKit.intOf]
   omega
 ·simp only [go_sem, seval, hs, hjl, hj0, Int.toNat_natCast, Nat.mul_one, r1]
  refine hE _ _ _ (by simp) ?_
  simp only [go_sem, seval, hs]
  refine fin_at hQ rfl ?_; simp only [go_sem, seval, aF58, hs]; rw [retQ_some]; simp only [oneOr]
  exact ⟨by rw [find_at (p := fun a => leadsL l a.toNat) hj' hall (by rw [hk, Int.toNat_natCast, hle']), hk], hkeep⟩
set_option maxHeartbeats 1000000 in
theorem context60 (x : Value) (h : Ns S x l) (hok : ∀ x ∈ l, x.Ok) (htr : Tr (par l) l.length) {n : Nat} (hn : n < l.length) (hl : l.length ≤ 1000000) (hm : madeL l n = true) : ACalls Tryz.prog 60 [x, .int .i64 n] S fun r S' => r = .int .i64 (ctxL l n) ∧ KeepsAll S S' := by
 refine run_of hmix Tryz.func60 cF60 rfl fun hL Q hQ => ?_
 obtain ⟨xa, xe, rfl⟩ := h.slice
 simp only [go_sem, seval, aF60]
 refine cK_of (made12 _ h hok htr hn) ?_
 rintro v S1 _ hL1 ⟨rfl, hS1⟩
 obtain rfl := hS1.symm
 rw [hm]
 simp only [go_sem, seval]
 refine cK_of (up30 _ h hok htr hn hl) ?_
 rintro v S3 _ hL3 ⟨hA1, hkeep, hf⟩
 obtain ⟨wa, we, rfl⟩ := hA1.sl.slice
 unfold ctxL at hQ
 have hp := htr n hn
 have hle : ∀ j (hj : j < (chain (par l) (par l n)).length), ∃ k : Nat, (chain (par l) (par l n))[j] = k ∧ k < l.length ∧ (k : Int) ≤ par l n := fun j hj => up_nat htr (by omega) hj
 have hcl := up_len htr hn
 have h3 := Sl.keeps hL h hkeep fun _ _ => trivial
 obtain ⟨cs, hcs⟩ : ∃ cs, cs = chain (par l) (par l n) := ⟨_, rfl⟩
 rw [← hcs] at hA1 hle hcl hQ ⊢
 simp only [go_sem, seval]
 refine lK_of (fun t' S' => S' = S3 ∧ ∃ j : Nat, j ≤ cs.length ∧ (cs.take j).all (fun a => !formsL l a.toNat) = true ∧ Slots t' [(0, .slice xa l.length xe), (5, .slice wa cs.length we), (15, .int .i64 cs.length), (16, .int .i64 j)]) (fun t' _ => cs.length - (RowKit.intOf (t' 16)).toNat) ?_ ?_
 ·refine ⟨rfl, 0, by omega, by simp, ?_⟩
  simp only [go_sem, seval, Int.natCast_add, Int.natCast_succ]
 rintro t1 S4 Q1 ⟨rfl, j, hj, hall, hs⟩ _ hN hE
 simp only [slots_cons, slots_nil] at hs
 by_cases hjn : j = cs.length
 ·subst hjn
  simp only [go_sem, seval, hs, Int.lt_irrefl]
  refine hE _ _ _ (by simp) ?_
  simp only [go_sem, seval, hs]
  refine fin_at hQ rfl ?_; simp only [go_sem, seval, aF60, hs]; rw [retQ_some]; simp only [oneOr]
  rw [List.take_length] at hall
  exact ⟨by rw [find_no hall], hkeep⟩
 have hj' : j < cs.length := by omega
 have hjl : (j : Int) < cs.length := by omega
 have hj0 : (0 : Int) ≤ j := by omega
 have hw1 : IntKind.i64.wrap ((j : Int) + 1) = ((j + 1 : Nat) : Int) := by rw [wrap64_id (by omega) (by omega)]; omega
 obtain ⟨k, hk, hkl, _⟩ := hle j hj'
 obtain ⟨d, he, hb, _⟩ := hA1.ne (by omega)
 cases he
 have r1 : rd S4 d j = some (.int .i64 (k : Nat)) := by rw [rd_of_blk hb, iV_at hj', hk]
 simp only [go_sem, seval, hs, hjl, hj0, Int.toNat_natCast, Nat.mul_one, r1]
 refine cK_of (forms97 _ h3 hok htr hkl) ?_
 rintro v S5 _ hL5 ⟨rfl, hS5⟩
 obtain rfl := hS5.symm
 cases hle' : formsL l k
 ·simp only [go_sem, seval, hs, hw1]
  refine hN _ _ ⟨rfl, j + 1, by omega, all_take hj' hall (by rw [hk, Int.toNat_natCast, hle']; rfl), ?_⟩ ?_
  ·simp only [go_sem, seval, Int.natCast_add, Int.natCast_succ, hs]
  ·simp only [go_sem, seval, hs]
   simp [RowKit.intOf]
   omega
 ·simp only [go_sem, seval, hs, hjl, hj0, Int.toNat_natCast, Nat.mul_one, r1]
  refine hE _ _ _ (by simp) ?_
  simp only [go_sem, seval, hs]
  refine fin_at hQ rfl ?_; simp only [go_sem, seval, aF60, hs]; rw [retQ_some]; simp only [oneOr]
  exact ⟨by rw [find_at (p := fun a => formsL l a.toNat) hj' hall (by rw [hk, Int.toNat_natCast, hle']), hk], hkeep⟩
def Stp.cells (s : Stp) : List Value := [.int .i64 s.y, .int .i64 s.z, .int .i64 s.n]
set_option maxHeartbeats 1000000 in
theorem step61 (x : Value) (h : Ns S x l) (hok : ∀ x ∈ l, x.Ok) (htr : Tr (par l) l.length) {n : Nat} (hn : n < l.length) : ACalls Tryz.prog 61 [x, .int .i64 n] S fun r S' => r = .agg (stepOf l n).cells.toArray ∧ S' = S := by
 refine run_of hmix Tryz.func61 cF61 rfl fun hL Q hQ => ?_
 obtain ⟨d, o, e, rfl, he, hc⟩ := h.ne (by omega)
 have n0 : (0 : Int) ≤ n := by omega
 have nl : (n : Int) < l.length := by omega
 have rz := cell_at hok hc hn (k := 44) (by omega) (nS_ok hok hn).c.z
 have hz : (nS l n).z = zL l n := rfl
 rw [hz] at rz
 unfold Stp.cells stepOf at hQ
 simp only [go_sem, seval, aF61]
 refine cK_of (forms97 _ h hok htr hn) ?_
 rintro v S1 _ hL1 ⟨rfl, hS1⟩
 obtain rfl := hS1.symm
 cases hm : formsL l n
 ·simp only [go_sem, seval]
  refine fin_at hQ rfl ?_; simp only [go_sem, seval, aF61]; rw [retQ_some]; simp only [oneOr]
  exact ⟨by simp [hm], trivial⟩
 ·simp only [go_sem, seval, n0, nl, Int.toNat_natCast, rz]
  by_cases h1 : zL l n < 0
  ·have h2 : ¬ zL l n > 0 := by omega
   simp only [go_sem, seval, h1, h2]
   refine fin_at hQ rfl ?_; simp only [go_sem, seval, aF61]; rw [retQ_some]; simp only [oneOr]
   exact ⟨by simp [hm, h1]; omega, trivial⟩
  by_cases h2 : zL l n > 0
  ·simp only [go_sem, seval, h1, h2]
   refine fin_at hQ rfl ?_; simp only [go_sem, seval, aF61]; rw [retQ_some]; simp only [oneOr]
   exact ⟨by simp [hm, h2], trivial⟩
  ·simp only [go_sem, seval, h1, h2]
   refine fin_at hQ rfl ?_; simp only [go_sem, seval, aF61]; rw [retQ_some]; simp only [oneOr]
   exact ⟨by simp [hm, h1]; omega, trivial⟩
end
end Go.Proofs.YtegaklgjcicnfaaGreat
