/- The answer's order. -/
import Derived.Test.YtegaklgjcicnfaaGreatK1
import Derived.Test.YtegaklgjcicnfaaGreatKD
set_option linter.unusedSimpArgs false
set_option linter.unusedVariables false
namespace Go.Proofs.YtegaklgjcicnfaaGreat
open Go Go.Proofs.YtegaklgjcicnfaaGreat.Abs
def stC (w : List Stp) : List Value := w.flatMap Stp.cells
theorem stC_len (w : List Stp) : (stC w).length = w.length * 3 := by
 induction w with
 | nil => rfl
 | cons i l ih => simp only [stC, List.flatMap_cons, List.length_append, List.length_cons] at ih ⊢; rw [ih]; simp [Stp.cells]; omega
theorem stC_app (v w : List Stp) : stC (v ++ w) = stC v ++ stC w := by simp [stC]
theorem stC_at : ∀ (w : List Stp) (j : Nat) (h : j < w.length), ((stC w).drop (j * 3)).take 3 = w[j].cells
 | i :: l, 0, _ => by
  show ((i.cells ++ stC l).drop 0).take 3 = i.cells
  rw [List.drop_zero, List.take_left' (by rfl)]
 | i :: l, j + 1, h => by
  show ((i.cells ++ stC l).drop ((j + 1) * 3)).take 3 = _
  rw [show (j + 1) * 3 = i.cells.length + j * 3 by simp [Stp.cells]; omega, ← List.drop_drop, List.drop_left]
  exact stC_at l j (by simpa using h)
theorem stp_at {S : St} {d : Nat} {w : List Stp} (h : S.blk d = some ⟨false, stC w⟩) {j : Nat} (hj : j < w.length) : cellsOf S d (j * 3) 3 = some w[j].cells := by
 rw [cellsOf_of_blk h, if_pos (by show j * 3 + 3 ≤ (stC w).length; rw [stC_len]; omega)]
 exact congrArg some (stC_at w j hj)
theorem flat_stp (a b : Stp) : flatEq [true, true, true] a.cells b.cells = some (stpE a b) := by
 unfold Stp.cells stpE
 simp [flatEq]
section
variable {l : List Nd}
theorem ctxsF_len : ∀ (f : Nat) (a : Int), (ctxsF l f a).length ≤ f
 | 0, _ => Nat.le_refl _
 | f + 1, a => by
  rw [ctxsF]
  split
  ·simp
  ·have := ctxsF_len f (ctxL l a.toNat); simp; omega
theorem ctxs_len (a : Int) : (ctxs l a).length ≤ a.toNat := ctxsF_len _ _
theorem ctx_made (htr : Tr (par l) l.length) {n : Nat} (hn : n < l.length) (h : 0 < ctxL l n) : madeL l (ctxL l n).toNat = true := by
 obtain ⟨c, hc⟩ : ∃ c : Nat, ctxL l n = c := ⟨(ctxL l n).toNat, by omega⟩
 rw [hc, Int.toNat_natCast]
 exact leads_made (forms_leads (ctx_mem htr hn hc).1)
/-- A way, in a block of its own. -/
def WayAt (S S' : St) (r : Value) (w : List Stp) : Prop := Own S' 3 r w.length (stC w) ∧ KeepsAll S S' ∧ Fresh S r
set_option maxHeartbeats 1000000 in
theorem contexts59 (hok : ∀ x ∈ l, x.Ok) (htr : Tr (par l) l.length) (hl : l.length ≤ 1000000) : ∀ (d : Nat) (a : Int) (S : St) (x : Value), Ns S x l → a ≤ d → a < l.length → (0 < a → madeL l a.toNat = true) →
  ACalls Tryz.prog 59 [x, .int .i64 a] S fun r S' => WayAt S S' r (ctxs l a) := by
 intro d
 induction d with
 | zero =>
  intro a S x h ha hal hm
  refine run_of hmix Tryz.func59 cF59 rfl fun hL Q hQ => ?_
  have hg : a ≤ 0 := by omega
  simp only [go_sem, seval, aF59, hg]
  refine fin_at hQ rfl ?_; simp only [go_sem, seval, aF59]; rw [retQ_some]; simp only [oneOr]
  rw [ctxs_neg hg]
  exact ⟨.inl ⟨rfl, rfl, rfl⟩, Keeps.refl _ _, fun i hi => by simp [Value.blkOf] at hi⟩
 | succ d ih =>
  intro a S x h ha hal hm
  by_cases hg : a ≤ 0
  ·exact ih a S x h (by omega) hal hm
  obtain ⟨n, rfl⟩ : ∃ n : Nat, a = n := ⟨a.toNat, by omega⟩
  have hn : n < l.length := by omega
  have hmn := hm (by omega)
  rw [Int.toNat_natCast] at hmn
  have hcl := ctx_lt htr hn
  refine run_of hmix Tryz.func59 cF59 rfl fun hL Q hQ => ?_
  simp only [go_sem, seval, aF59, hg]
  refine cK_of (context60 _ h hok htr hn hl hmn) ?_
  rintro v S1 _ hL1 ⟨rfl, k1⟩
  have h1 := Sl.keeps hL h k1 fun _ _ => trivial
  simp only [go_sem, seval]
  refine cK_of (ih (ctxL l n) S1 x h1 (by omega) (by omega) (ctx_made htr hn)) ?_
  rintro v S2 _ hL2 ⟨ho, k2, hf⟩
  have h2 := Sl.keeps hL1 h1 k2 fun _ _ => trivial
  obtain ⟨va, ve, rfl⟩ := ho.sl.slice
  simp only [go_sem, seval]
  refine cK_of (step61 _ h2 hok htr hn) ?_
  rintro v S3 _ hL3 ⟨rfl, hS3⟩
  obtain rfl := hS3.symm
  have hlen := ctxs_len (l := l) (ctxL l n)
  unfold Stp.cells
  simp only [go_sem, seval]
  refine hK_of (appN (bytes := 24) (ds := (stepOf l n).cells) hL2 (by decide) ho rfl (by omega)) ?_
  rintro v S3 ⟨⟨wa, we, rfl⟩, hA⟩
  simp only [go_sem, seval]
  refine fin_at hQ rfl ?_; simp only [go_sem, seval, aF59]; rw [retQ_some]; simp only [oneOr]
  have e1 : stC (ctxs l n) = stC (ctxs l (ctxL l n)) ++ (stepOf l n).cells := by rw [ctxs_pos htr (by omega) hn, stC_app]; simp [stC]
  have e2 : (ctxs l n).length = (ctxs l (ctxL l n)).length + 1 := by rw [ctxs_pos htr (by omega) hn]; simp
  unfold WayAt
  rw [e1, e2]
  exact ⟨hA.own, k1.trans (hA.keeps hf k2) fun _ _ _ => trivial, hA.fresh (fun i hi => by have := hf i hi; have := k1.1; omega) (by have := k1.1; have := k2.1; omega)⟩
set_option maxHeartbeats 2000000 in
theorem way28 (x : Value) {S : St} (h : Ns S x l) (hok : ∀ x ∈ l, x.Ok) (hf : TForm l) (htr : Tr (par l) l.length) {n : Nat} (hn : n < l.length) (hl : l.length ≤ 1000000) (hm : madeL l n = true) : ACalls Tryz.prog 28 [x, .int .i64 n] S fun r S' => WayAt S S' r (wayL l n) := by
 refine run_of hmix Tryz.func28 cF28 rfl fun hL Q hQ => ?_
 simp only [go_sem, seval, aF28]
 refine cK_of (made12 _ h hok htr hn) ?_
 rintro v S1 _ hL1 ⟨rfl, hS1⟩
 obtain rfl := hS1.symm
 rw [hm]
 simp only [go_sem, seval]
 refine cK_of (group58 _ h hok htr hn hl hm) ?_
 rintro v S1 _ hL1' ⟨rfl, k1⟩
 have h1 := Sl.keeps hL h k1 fun _ _ => trivial
 obtain ⟨g, hg, hgn⟩ := grp_nat htr hf n n (Nat.le_refl _) hn hm
 have hgl := (grp_mem htr hn hg).1
 have hgm := leads_made hgl
 have hcl := ctx_lt htr (m := g) (by omega)
 rw [hg]
 simp only [go_sem, seval]
 refine cK_of (context60 _ h1 hok htr (n := g) (by omega) hl hgm) ?_
 rintro v S2 _ hL2 ⟨rfl, k2⟩
 have h2 := Sl.keeps hL1' h1 k2 fun _ _ => trivial
 simp only [go_sem, seval]
 refine cK_of (contexts59 hok htr hl g (ctxL l g) S2 x h2 (by omega) (by omega) (ctx_made htr (by omega))) ?_
 rintro v S3 _ hL3 ⟨ho, k3, hfr⟩
 have h3 := Sl.keeps hL2 h2 k3 fun _ _ => trivial
 have K3 : KeepsAll S S3 := (k1.trans k2 fun _ _ _ => trivial).trans k3 fun _ _ _ => trivial
 have F3 : Fresh S v := fun i hi => by have := hfr i hi; have := k1.1; have := k2.1; omega
 have hlen := ctxs_len (l := l) (ctxL l g)
 obtain ⟨va, ve, rfl⟩ := ho.sl.slice
 have fin : ∀ (S4 : St) (w : List Stp) (v : Value), Live S4 → KeepsAll S S4 → Fresh S v → Own S4 3 v w.length (stC w) → w.length ≤ 1000000 → ∀ s : Stp, wayL l n = w ++ [s] → ∀ v' S5, AppR S4 S5 3 v v' (w.length + 1) (stC w ++ s.cells) → WayAt S S5 v' (wayL l n) := fun S4 w v hL4 k4 f4 o4 hw s e v' S5 hA => by
  have e1 : stC (w ++ [s]) = stC w ++ s.cells := by rw [stC_app]; simp [stC]
  unfold WayAt
  rw [e, e1, List.length_append]
  exact ⟨hA.own, hA.keeps f4 k4, hA.fresh f4 k4.1⟩
 have hway : wayL l n = (ctxs l (ctxL l g) ++ (if 0 < (g : Int) then [stepOf l g] else [])) ++ [if (g : Int) = n then ⟨0, 0, 0⟩ else ⟨2, 0, n⟩] := by
  unfold wayL
  rw [if_neg (by rw [hm]; decide), hg, Int.toNat_natCast]
 have gn : ((g : Int) == n) = decide ((g : Int) = n) := rfl
 by_cases hg0 : (0 : Int) < g
 ·rw [if_pos hg0] at hway
  simp only [go_sem, seval, gt_iff_lt, hg0]
  refine cK_of (step61 _ h3 hok htr (n := g) (by omega)) ?_
  rintro v S4 _ hL4 ⟨rfl, hS4⟩
  obtain rfl := hS4.symm
  unfold Stp.cells
  simp only [go_sem, seval]
  refine hK_of (appN (bytes := 24) (ds := (stepOf l g).cells) hL3 (by decide) ho rfl (by omega)) ?_
  rintro v S5 ⟨⟨wa, we, rfl⟩, hA⟩
  have K5 := hA.keeps F3 K3
  have F5 := hA.fresh F3 K3.1
  have O5 : Own S5 3 (.slice wa ((ctxs l (ctxL l g)).length + 1) we) (ctxs l (ctxL l g) ++ [stepOf l g]).length (stC (ctxs l (ctxL l g) ++ [stepOf l g])) := by
   rw [stC_app, List.length_append]
   have := hA.own
   simpa [stC] using this
  have L5 := hA.live
  have W5 : (ctxs l (ctxL l g) ++ [stepOf l g]).length = (ctxs l (ctxL l g)).length + 1 := by simp
  by_cases he : (g : Int) = n
  ·rw [if_pos he] at hway
   have he' : ((g : Int) == n) = true := by simpa using he
   simp only [go_sem, seval, he']
   refine hK_of (appN (bytes := 24) (ds := Stp.cells ⟨0, 0, 0⟩) L5 (by decide) O5 rfl (by omega)) ?_
   rintro v S6 ⟨⟨ua, ue, rfl⟩, hB⟩
   simp only [go_sem, seval]
   refine fin_at hQ rfl ?_; simp only [go_sem, seval, aF28]; rw [retQ_some]; simp only [oneOr]
   exact fin S5 _ _ L5 K5 F5 O5 (by omega) _ hway _ _ hB
  ·rw [if_neg he] at hway
   have he' : ((g : Int) == n) = false := by simpa using he
   simp only [go_sem, seval, he']
   refine hK_of (appN (bytes := 24) (ds := Stp.cells ⟨2, 0, n⟩) L5 (by decide) O5 rfl (by omega)) ?_
   rintro v S6 ⟨⟨ua, ue, rfl⟩, hB⟩
   simp only [go_sem, seval]
   refine fin_at hQ rfl ?_; simp only [go_sem, seval, aF28]; rw [retQ_some]; simp only [oneOr]
   exact fin S5 _ _ L5 K5 F5 O5 (by omega) _ hway _ _ hB
 ·rw [if_neg hg0, List.append_nil] at hway
  simp only [go_sem, seval, gt_iff_lt, hg0]
  by_cases he : (g : Int) = n
  ·rw [if_pos he] at hway
   have he' : ((g : Int) == n) = true := by simpa using he
   simp only [go_sem, seval, he']
   refine hK_of (appN (bytes := 24) (ds := Stp.cells ⟨0, 0, 0⟩) hL3 (by decide) ho rfl (by omega)) ?_
   rintro v S6 ⟨⟨ua, ue, rfl⟩, hB⟩
   simp only [go_sem, seval]
   refine fin_at hQ rfl ?_; simp only [go_sem, seval, aF28]; rw [retQ_some]; simp only [oneOr]
   exact fin S3 _ _ hL3 K3 F3 ho (by omega) _ hway _ _ hB
  ·rw [if_neg he] at hway
   have he' : ((g : Int) == n) = false := by simpa using he
   simp only [go_sem, seval, he']
   refine hK_of (appN (bytes := 24) (ds := Stp.cells ⟨2, 0, n⟩) hL3 (by decide) ho rfl (by omega)) ?_
   rintro v S6 ⟨⟨ua, ue, rfl⟩, hB⟩
   simp only [go_sem, seval]
   refine fin_at hQ rfl ?_; simp only [go_sem, seval, aF28]; rw [retQ_some]; simp only [oneOr]
   exact fin S3 _ _ hL3 K3 F3 ho (by omega) _ hway _ _ hB
theorem less29 (a b : Stp) (S : St) : ACalls Tryz.prog 29 [.agg a.cells.toArray, .agg b.cells.toArray] S fun r S' => r = .bool (stpB a b) ∧ S' = S := by
 refine run_of hmix Tryz.func29 cF29 rfl fun hL Q hQ => ?_
 unfold stpB at hQ
 by_cases h1 : a.y = b.y
 ·have h1' : (a.y != b.y) = false := by simpa using h1
  by_cases h2 : a.z = b.z
  ·have h2' : (a.z != b.z) = false := by simpa using h2
   simp only [go_sem, seval, aF29, Stp.cells, h1', h2']
   refine fin_at hQ rfl ?_; simp only [go_sem, seval, aF29]; rw [retQ_some]; simp only [oneOr]
   exact ⟨by rw [if_pos h1, if_pos h2], trivial⟩
  ·have h2' : (a.z != b.z) = true := by simpa using h2
   simp only [go_sem, seval, aF29, Stp.cells, h1', h2']
   refine fin_at hQ rfl ?_; simp only [go_sem, seval, aF29]; rw [retQ_some]; simp only [oneOr]
   exact ⟨by rw [if_pos h1, if_neg h2], trivial⟩
 ·have h1' : (a.y != b.y) = true := by simpa using h1
  simp only [go_sem, seval, aF29, Stp.cells, h1']
  refine fin_at hQ rfl ?_; simp only [go_sem, seval, aF29]; rw [retQ_some]; simp only [oneOr]
  exact ⟨by rw [if_neg h1], trivial⟩
end
end Go.Proofs.YtegaklgjcicnfaaGreat
