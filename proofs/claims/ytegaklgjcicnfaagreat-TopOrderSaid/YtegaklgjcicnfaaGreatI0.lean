/- The order of painting: by the ways of the nodes; each made node once. -/
import Derived.Test.YtegaklgjcicnfaaGreatGI
set_option linter.unusedSimpArgs false
set_option linter.unusedVariables false
namespace Go.Proofs.YtegaklgjcicnfaaGreat
open Go Go.Proofs.YtegaklgjcicnfaaGreat.Abs
/-- A step of a way: its layer, its Z, its node. -/
structure Stp where
 y : Int
 z : Int
 n : Int
def stpE (a b : Stp) : Bool := a.y == b.y && (a.z == b.z && a.n == b.n)
def stpB (a b : Stp) : Bool := if a.y = b.y then (if a.z = b.z then decide (a.n < b.n) else decide (a.z < b.z)) else decide (a.y < b.y)
def wayB : List Stp → List Stp → Bool
 | a :: x, b :: y => if stpE a b = true then wayB x y else stpB a b
 | [], _ :: _ => true
 | _, [] => false
theorem stpE_refl (a : Stp) : stpE a a = true := by simp [stpE]
theorem stpB_ne {a b : Stp} (h : stpB a b = true) : stpE a b = false := by
 rw [Bool.eq_false_iff]
 intro he
 simp only [stpE, Bool.and_eq_true, beq_iff_eq] at he
 unfold stpB at h
 rw [if_pos he.1, if_pos he.2.1] at h
 simp at h
 omega
theorem wayB_app (w x y : List Stp) : wayB (w ++ x) (w ++ y) = wayB x y := by
 induction w with
 | nil => rfl
 | cons a w ih => simp only [List.cons_append, wayB, stpE_refl, if_true, ih]
theorem wayB_first {w s t : List Stp} {a b : Stp} (h : stpB a b = true) : wayB (w ++ a :: s) (w ++ b :: t) = true := by
 rw [wayB_app, wayB, stpB_ne h, if_neg (by decide), h]
theorem wayB_irr (x : List Stp) : wayB x x = false := by
 have := wayB_app x [] []
 rw [List.append_nil] at this
 rw [this]; rfl
def stepOf (l : List Nd) (n : Nat) : Stp := ⟨if 0 < (if formsL l n = true then zL l n else 0) then 4 else if (if formsL l n = true then zL l n else 0) < 0 then 1 else 3, if formsL l n = true then zL l n else 0, n⟩
/-- The steps of all contexts down to one, but the first one's. -/
def ctxsF (l : List Nd) : Nat → Int → List Stp
 | 0, _ => []
 | f + 1, a => if a ≤ 0 then [] else ctxsF l f (ctxL l a.toNat) ++ [stepOf l a.toNat]
def ctxs (l : List Nd) (a : Int) : List Stp := ctxsF l a.toNat a
def wayL (l : List Nd) (m : Nat) : List Stp := if madeL l m = false then [] else
 ctxs l (ctxL l (grpL l m).toNat) ++ (if 0 < grpL l m then [stepOf l (grpL l m).toNat] else []) ++ [if grpL l m = m then ⟨0, 0, 0⟩ else ⟨2, 0, m⟩]
section
variable {l : List Nd}
theorem ctx_lt (htr : Tr (par l) l.length) {m : Nat} (hm : m < l.length) : -1 ≤ ctxL l m ∧ ctxL l m < m := by
 have hp := htr m hm
 unfold ctxL
 split
 ·rename_i b hb
  have h2 := chain_le htr (by omega) (List.mem_of_find?_eq_some hb)
  omega
 ·omega
theorem ctxsF_eq (htr : Tr (par l) l.length) : ∀ (f g : Nat) (a : Int), a < l.length → a ≤ f → a ≤ g → ctxsF l f a = ctxsF l g a
 | 0, 0, _, _, _, _ => rfl
 | 0, g + 1, a, _, h, _ => by rw [ctxsF, ctxsF, if_pos (by omega)]
 | f + 1, 0, a, _, _, h => by rw [ctxsF, ctxsF, if_pos (by omega)]
 | f + 1, g + 1, a, hl, hf, hg => by
  rw [ctxsF, ctxsF]
  by_cases ha : a ≤ 0
  ·rw [if_pos ha, if_pos ha]
  ·have := ctx_lt htr (m := a.toNat) (by omega)
   rw [if_neg ha, if_neg ha, ctxsF_eq htr f g _ (by omega) (by omega) (by omega)]
theorem ctxs_neg {a : Int} (h : a ≤ 0) : ctxs l a = [] := by
 unfold ctxs
 rw [show a.toNat = 0 by omega]; rfl
theorem ctxs_pos (htr : Tr (par l) l.length) {n : Nat} (h0 : 0 < n) (hn : n < l.length) : ctxs l n = ctxs l (ctxL l n) ++ [stepOf l n] := by
 have := ctx_lt htr hn
 unfold ctxs
 obtain ⟨k, rfl⟩ : ∃ k, n = k + 1 := ⟨n - 1, by omega⟩
 rw [Int.toNat_natCast, ctxsF, if_neg (by omega), Int.toNat_natCast, ctxsF_eq htr k (ctxL l (k + 1 : Nat)).toNat _ (by omega) (by omega) (by omega)]
theorem forms_leads {n : Nat} (h : formsL l n = true) : leadsL l n = true := by unfold formsL at h; simp only [Bool.and_eq_true] at h; exact h.1
theorem leads_made {n : Nat} (h : leadsL l n = true) : madeL l n = true := by unfold leadsL at h; simp only [Bool.and_eq_true] at h; exact h.1
theorem grp_self (htr : Tr (par l) l.length) {n : Nat} (hn : n < l.length) (h : leadsL l n = true) : grpL l n = n := by rw [grp_step htr hn, if_pos h]
theorem memb_iff {n m : Nat} : m ∈ memb l l.length n ↔ m < l.length ∧ madeL l m = true ∧ leadsL l m = false ∧ grpL l m = n := by
 unfold memb
 simp only [List.mem_filter, List.mem_range, Bool.and_eq_true, Bool.not_eq_true', beq_iff_eq, and_assoc]
theorem prt_iff {n m : Nat} : m ∈ prt l l.length n ↔ m < l.length ∧ leadsL l m = true ∧ 0 < m ∧ ctxL l m = n := by
 unfold prt
 simp only [List.mem_filter, List.mem_range, Bool.and_eq_true, decide_eq_true_eq, beq_iff_eq, and_assoc]
theorem way_lead (htr : Tr (par l) l.length) {n : Nat} (hn : n < l.length) (h : leadsL l n = true) : wayL l n = ctxs l n ++ [⟨0, 0, 0⟩] := by
 unfold wayL
 rw [if_neg (by rw [leads_made h]; decide), grp_self htr hn h, if_pos rfl, Int.toNat_natCast]
 congr 1
 by_cases h0 : n = 0
 ·subst h0
  have := ctx_lt htr hn
  rw [ctxs_neg (by omega), ctxs_neg (by omega), if_neg (by omega)]; rfl
 ·rw [if_pos (by omega), ctxs_pos htr (by omega) hn]
theorem way_mem (htr : Tr (par l) l.length) {n m : Nat} (h : m ∈ memb l l.length n) : wayL l m = ctxs l n ++ [⟨2, 0, m⟩] := by
 obtain ⟨hm, h1, h2, h3⟩ := memb_iff.1 h
 have hg := memb_gt htr (Nat.le_refl _) h
 have hl := grp_mem htr hm h3
 unfold wayL
 rw [if_neg (by rw [h1]; decide), h3, if_neg (show ¬ ((n : Int) = (m : Int)) by omega), Int.toNat_natCast]
 congr 1
 by_cases h0 : n = 0
 ·subst h0
  have := ctx_lt htr (m := 0) (by omega)
  rw [ctxs_neg (by omega), ctxs_neg (by omega), if_neg (by omega)]; rfl
 ·rw [if_pos (by omega), ctxs_pos htr (by omega) (by omega)]
theorem ctxs_part (htr : Tr (par l) l.length) {n p : Nat} (h : p ∈ prt l l.length n) : ctxs l p = ctxs l n ++ [stepOf l p] := by
 obtain ⟨h1, h2, h3, h4⟩ := prt_iff.1 h
 rw [ctxs_pos htr h3 h1, h4]
theorem step_of (hf : TForm l) {n p : Nat} (h : p ∈ prt l l.length n) : stepOf l p = ⟨if 0 < zL l p then 4 else if zL l p < 0 then 1 else 3, zL l p, p⟩ := by
 obtain ⟨h1, h2, h3, h4⟩ := prt_iff.1 h
 have : (if formsL l p = true then zL l p else 0) = zL l p := by
  split
  ·rfl
  ·rename_i hn
   have hz : (nS l p).hasZ = false := by
    unfold formsL at hn
    rw [h2, Bool.true_and, show (p == 0) = false by simp; omega, Bool.false_or] at hn
    simpa using hn
   have hsf := hf.2 _ (List.getElem_mem h1)
   rw [nS_get h1] at hsf
   rcases hsf.2.2.2.2.2.2 with e | e
   ·rw [hz] at e; cases e
   ·exact e.symm
 unfold stepOf
 rw [this]
theorem key_step (hf : TForm l) {n p q : Nat} (hp : p ∈ prt l l.length n) (hq : q ∈ prt l l.length n) (h : keyLt l p q) : stpB (stepOf l p) (stepOf l q) = true := by
 rw [step_of hf hp, step_of hf hq]
 unfold stpB
 simp only
 unfold keyLt at h
 generalize zL l p = a at h ⊢
 generalize zL l q = b at h ⊢
 by_cases e : a = b
 ·subst e; simp; omega
 ·by_cases h1 : 0 < a <;> by_cases h2 : 0 < b <;> by_cases h3 : a < 0 <;> by_cases h4 : b < 0 <;> simp [h1, h2, h3, h4, e] <;> omega
/-- A node's way within a context begins so. -/
def Beg (l : List Nd) (w : List Stp) (P : Stp → Prop) (m : Nat) : Prop := m < l.length ∧ madeL l m = true ∧ ∃ f s, P f ∧ wayL l m = w ++ f :: s
theorem Beg.lt {w : List Stp} {P Q : Stp → Prop} {a b : Nat} (ha : Beg l w P a) (hb : Beg l w Q b) (h : ∀ f g, P f → Q g → stpB f g = true) : wayB (wayL l a) (wayL l b) = true := by
 obtain ⟨_, _, f, s, hf, e1⟩ := ha
 obtain ⟨_, _, g, t, hg, e2⟩ := hb
 rw [e1, e2]
 exact wayB_first (h f g hf hg)
theorem Beg.imp {w : List Stp} {P Q : Stp → Prop} {a : Nat} (ha : Beg l w P a) (h : ∀ f, P f → Q f) : Beg l w Q a := by
 obtain ⟨h1, h2, f, s, hf, e⟩ := ha
 exact ⟨h1, h2, f, s, h f hf, e⟩
theorem stpB_y {f g : Stp} (h : f.y < g.y) : stpB f g = true := by unfold stpB; rw [if_neg (by omega)]; simpa using h
abbrev WLt (l : List Nd) (a b : Nat) : Prop := wayB (wayL l a) (wayL l b) = true
theorem memb_nd (n : Nat) : (memb l l.length n).Pairwise (· < ·) := (List.pairwise_lt_range (n := l.length)).filter _
theorem memb_way (htr : Tr (par l) l.length) (n : Nat) : (memb l l.length n).Pairwise (WLt l) ∧ ∀ m ∈ memb l l.length n, Beg l (ctxs l n) (fun f => f.y = 2) m := by
 refine ⟨(memb_nd n).imp_of_mem fun ha hb hab => ?_, fun m hm => ?_⟩
 ·unfold WLt
  rw [way_mem htr ha, way_mem htr hb]
  exact wayB_first (by unfold stpB; simp; omega)
 ·obtain ⟨h1, h2, _⟩ := memb_iff.1 hm
  exact ⟨h1, h2, ⟨2, 0, m⟩, [], rfl, way_mem htr hm⟩
/-- What one paints in a context: in the order of the ways, all of them through its step. -/
def PartW (l : List Nd) (n p : Nat) (ns : List Nat) : Prop := ns.Pairwise (WLt l) ∧ ∀ m ∈ ns, Beg l (ctxs l n) (fun f => f = stepOf l p) m
theorem beg_sub (htr : Tr (par l) l.length) {n p : Nat} (hp : p ∈ prt l l.length n) {P : Stp → Prop} {m : Nat} (h : Beg l (ctxs l p) P m) : Beg l (ctxs l n) (fun f => f = stepOf l p) m := by
 obtain ⟨h1, h2, f, s, _, e⟩ := h
 exact ⟨h1, h2, stepOf l p, f :: s, rfl, by rw [e, ctxs_part htr hp, List.append_assoc]; rfl⟩
theorem lead_beg (htr : Tr (par l) l.length) {n : Nat} (hn : n < l.length) (h : leadsL l n = true) : Beg l (ctxs l n) (fun f => f.y = 0) n :=
 ⟨hn, leads_made h, ⟨0, 0, 0⟩, [], rfl, way_lead htr hn h⟩
theorem part_way (htr : Tr (par l) l.length) {n p : Nat} (hp : p ∈ prt l l.length n) : PartW l n p (p :: memb l l.length p) := by
 obtain ⟨h1, h2, h3, h4⟩ := prt_iff.1 hp
 have hb := lead_beg htr h1 h2
 obtain ⟨m1, m2⟩ := memb_way htr p
 refine ⟨List.pairwise_cons.2 ⟨fun m hm => hb.lt (m2 m hm) fun f g hf hg => stpB_y (by rw [hf, hg]; decide), m1⟩, fun m hm => ?_⟩
 rcases List.mem_cons.1 hm with rfl | hm
 ·exact beg_sub htr hp hb
 ·exact beg_sub htr hp (m2 m hm)
theorem flat_way (hf : TForm l) {n : Nat} : ∀ (qs : List (Nat × List Nat)), (qs.map (·.1)).Pairwise (keyLt l) → (∀ q ∈ qs, q.1 ∈ prt l l.length n) → (∀ q ∈ qs, PartW l n q.1 q.2) →
  (qs.flatMap (·.2)).Pairwise (WLt l)
 | [], _, _, _ => by simp
 | q :: qs, h1, h2, h3 => by
  rw [List.map_cons, List.pairwise_cons] at h1
  rw [List.flatMap_cons, List.pairwise_append]
  refine ⟨(h3 q (List.mem_cons_self ..)).1, flat_way hf qs h1.2 (fun x hx => h2 x (List.mem_cons_of_mem _ hx)) (fun x hx => h3 x (List.mem_cons_of_mem _ hx)), fun a ha b hb => ?_⟩
  obtain ⟨r, hr, hbr⟩ := List.mem_flatMap.1 hb
  refine ((h3 q (List.mem_cons_self ..)).2 a ha).lt ((h3 r (List.mem_cons_of_mem _ hr)).2 b hbr) fun f g hf' hg => ?_
  rw [hf', hg]
  exact key_step hf (h2 q (List.mem_cons_self ..)) (h2 r (List.mem_cons_of_mem _ hr)) (h1.1 _ (List.mem_map.2 ⟨r, hr, rfl⟩))
theorem em_way (htr : Tr (par l) l.length) (hf : TForm l) {n : Nat} {ns : List Nat} (h : EmC l n ns) : n < l.length → leadsL l n = true → ns.Pairwise (WLt l) ∧ ∀ m ∈ ns, Beg l (ctxs l n) (fun _ => True) m := by
 induction h with
 | mk n neg pos hp hs hn hz hfc hg ih =>
  intro hnl hl
  have hprt : ∀ q ∈ neg ++ pos, q.1 ∈ prt l l.length n := fun q hq => hp.mem_iff.1 (List.mem_map.2 ⟨q, hq, rfl⟩)
  have hpw : ∀ q ∈ neg ++ pos, PartW l n q.1 q.2 := fun q hq => by
   have hq' := hprt q hq
   obtain ⟨h1, h2, h3, h4⟩ := prt_iff.1 hq'
   cases hc : formsL l q.1 with
   | true =>
    obtain ⟨i1, i2⟩ := ih q hq hc h1 h2
    exact ⟨i1, fun m hm => beg_sub htr hq' (i2 m hm)⟩
   | false =>
    rw [hg q hq hc]
    exact part_way htr hq'
  rw [List.map_append, List.pairwise_append] at hs
  obtain ⟨s1, s2, _⟩ := hs
  have hpN := fun q hq => hprt q (List.mem_append_left _ hq)
  have hpP := fun q hq => hprt q (List.mem_append_right _ hq)
  have hwN := fun q hq => hpw q (List.mem_append_left _ hq)
  have hwP := fun q hq => hpw q (List.mem_append_right _ hq)
  have fN := flat_way hf neg s1 hpN hwN
  have fP := flat_way hf pos s2 hpP hwP
  have bN : ∀ m ∈ neg.flatMap (·.2), Beg l (ctxs l n) (fun f => f.y = 1) m := fun m hm => by
   obtain ⟨q, hq, hmq⟩ := List.mem_flatMap.1 hm
   refine ((hwN q hq).2 m hmq).imp fun f e => ?_
   have := hn q hq
   rw [e, step_of hf (hpN q hq), if_neg (by omega), if_pos this]
  have bP : ∀ m ∈ pos.flatMap (·.2), Beg l (ctxs l n) (fun f => 3 ≤ f.y) m := fun m hm => by
   obtain ⟨q, hq, hmq⟩ := List.mem_flatMap.1 hm
   refine ((hwP q hq).2 m hmq).imp fun f e => ?_
   have := hz q hq
   rw [e, step_of hf (hpP q hq)]
   simp only
   split <;> (try split) <;> omega
  obtain ⟨m1, m2⟩ := memb_way htr n
  have b0 := lead_beg htr hnl hl
  refine ⟨?_, ?_⟩
  ·rw [List.cons_append, List.cons_append, List.pairwise_cons, List.pairwise_append, List.pairwise_append]
   refine ⟨fun m hm => ?_, ⟨fN, m1, fun a ha b hb => (bN a ha).lt (m2 b hb) fun f g h1 h2 => stpB_y (by omega)⟩, fP, fun a ha b hb => ?_⟩
   ·rcases List.mem_append.1 hm with hm | hm
    ·rcases List.mem_append.1 hm with hm | hm
     ·exact b0.lt (bN m hm) fun f g h1 h2 => stpB_y (by omega)
     ·exact b0.lt (m2 m hm) fun f g h1 h2 => stpB_y (by omega)
    ·exact b0.lt (bP m hm) fun f g h1 h2 => stpB_y (by omega)
   ·rcases List.mem_append.1 ha with ha | ha
    ·exact (bN a ha).lt (bP b hb) fun f g h1 h2 => stpB_y (by omega)
    ·exact (m2 a ha).lt (bP b hb) fun f g h1 h2 => stpB_y (by omega)
  ·intro m hm
   rw [List.cons_append, List.cons_append] at hm
   rcases List.mem_cons.1 hm with rfl | hm
   ·exact b0.imp fun _ _ => trivial
   ·rcases List.mem_append.1 hm with hm | hm
    ·rcases List.mem_append.1 hm with hm | hm
     ·exact (bN m hm).imp fun _ _ => trivial
     ·exact (m2 m hm).imp fun _ _ => trivial
    ·exact (bP m hm).imp fun _ _ => trivial
/-- Who is painted in a context. -/
inductive InC (l : List Nd) : Nat → Nat → Prop
 | self (n : Nat) : InC l n n
 | mem (n m : Nat) : m ∈ memb l l.length n → InC l n m
 | sub (n p m : Nat) : p ∈ prt l l.length n → formsL l p = true → InC l p m → InC l n m
 | part (n p m : Nat) : p ∈ prt l l.length n → formsL l p = false → m ∈ p :: memb l l.length p → InC l n m
theorem em_in {n m : Nat} (h : InC l n m) : ∀ {ns : List Nat}, EmC l n ns → m ∈ ns := by
 have get : ∀ {n p : Nat} {neg pos : List (Nat × List Nat)}, ((neg ++ pos).map (·.1)).Perm (prt l l.length n) → p ∈ prt l l.length n → ∃ q ∈ neg ++ pos, q.1 = p := fun hp h => by
  obtain ⟨q, hq, e⟩ := List.mem_map.1 (hp.mem_iff.2 h)
  exact ⟨q, hq, e⟩
 have put : ∀ {n : Nat} {neg pos : List (Nat × List Nat)} {q : Nat × List Nat} {m : Nat}, q ∈ neg ++ pos → m ∈ q.2 → m ∈ n :: neg.flatMap (·.2) ++ memb l l.length n ++ pos.flatMap (·.2) := fun hq hm => by
  simp only [List.mem_append, List.mem_cons, List.mem_flatMap]
  rcases List.mem_append.1 hq with hq | hq
  ·exact .inl (.inl (.inr ⟨_, hq, hm⟩))
  ·exact .inr ⟨_, hq, hm⟩
 induction h with
 | self n => intro ns h; cases h; simp
 | mem n m hm => intro ns h; cases h; simp [hm]
 | sub n p m hp hc _ ih =>
  intro ns h
  cases h with
  | mk _ neg pos hpp hs hn hz hfc hg =>
   obtain ⟨q, hq, rfl⟩ := get hpp hp
   exact put hq (ih (hfc q hq hc))
 | part n p m hp hc hm =>
  intro ns h
  cases h with
  | mk _ neg pos hpp hs hn hz hfc hg =>
   obtain ⟨q, hq, rfl⟩ := get hpp hp
   exact put hq (by rw [hg q hq hc]; exact hm)
theorem InC.trans {n c m : Nat} (h : InC l n c) (hc : formsL l c = true) (h2 : InC l c m) : InC l n m := by
 induction h with
 | self n => exact h2
 | mem n c hm => have := (memb_iff.1 hm).2.2.1; rw [forms_leads hc] at this; cases this
 | sub n p c hp hp' _ ih => exact .sub n p m hp hp' (ih hc h2)
 | part n p c hp hp' hm =>
  rcases List.mem_cons.1 hm with rfl | hm
  ·rw [hc] at hp'; cases hp'
  ·have := (memb_iff.1 hm).2.2.1; rw [forms_leads hc] at this; cases this
theorem in_forms (htr : Tr (par l) l.length) (hf : TForm l) : ∀ (d c : Nat), c ≤ d → c < l.length → formsL l c = true → InC l 0 c
 | 0, c, hd, hc, h => by obtain rfl : c = 0 := by omega
                         exact .self 0
 | d + 1, c, hd, hc, h => by
  by_cases h0 : c = 0
  ·subst h0; exact .self 0
  ·obtain ⟨g, hg, hgl⟩ := ctx_nat htr hf c c (Nat.le_refl _) (by omega) hc (leads_made (forms_leads h))
   have hgf := (ctx_mem htr hc hg).1
   exact (in_forms htr hf d g (by omega) (by omega) hgf).trans hgf (.sub g c c (prt_iff.2 ⟨hc, forms_leads h, by omega, hg⟩) h (.self c))
theorem in_all (htr : Tr (par l) l.length) (hf : TForm l) {m : Nat} (hm : m < l.length) (h : madeL l m = true) : InC l 0 m := by
 obtain ⟨g, hg, hgm⟩ := grp_nat htr hf m m (Nat.le_refl _) hm h
 have hgl := (grp_mem htr hm hg).1
 have hmg : m ∈ g :: memb l l.length g := by
  cases hl : leadsL l m with
  | true => rw [grp_self htr hm hl] at hg; rw [List.mem_cons]; omega
  | false => exact List.mem_cons_of_mem _ (memb_iff.2 ⟨hm, h, hl, hg⟩)
 cases hgf : formsL l g with
 | true =>
  refine (in_forms htr hf g g (Nat.le_refl _) (by omega) hgf).trans hgf ?_
  rcases List.mem_cons.1 hmg with rfl | hmg
  ·exact .self _
  ·exact .mem _ _ hmg
 | false =>
  have hg0 : 0 < g := by
   rcases Nat.eq_zero_or_pos g with e | e
   ·subst e; rw [forms0 (leads_made hgl)] at hgf; cases hgf
   ·exact e
  obtain ⟨c, hc, hcl⟩ := ctx_nat htr hf g g (Nat.le_refl _) hg0 (by omega) (leads_made hgl)
  have hcf := (ctx_mem htr (by omega) hc).1
  exact (in_forms htr hf c c (Nat.le_refl _) (by omega) hcf).trans hcf (.part c g m (prt_iff.2 ⟨by omega, hgl, hg0, hc⟩) hgf hmg)
/-- What is painted of a tree: each made node once, in the order of the ways. -/
theorem painted_way (htr : Tr (par l) l.length) (hf : TForm l) {ns : List Nat} (h : Painted l ns) : ns.Pairwise (WLt l) ∧ ∀ m, m ∈ ns ↔ m < l.length ∧ madeL l m = true := by
 have h0 := hf.1.1
 cases hm : madeL l 0 with
 | false =>
  rw [h.1 hm]
  refine ⟨by simp, fun m => ⟨fun h => by simp at h, fun ⟨h1, h2⟩ => ?_⟩⟩
  have := in_all htr hf h1 h2
  exfalso
  obtain ⟨g, hg, hgm⟩ := grp_nat htr hf m m (Nat.le_refl _) h1 h2
  have : ∀ d k, k ≤ d → k < l.length → madeL l k = true → False := by
   intro d
   induction d with
   | zero => intro k hk _ hmk; obtain rfl : k = 0 := by omega
             rw [hm] at hmk; cases hmk
   | succ d ih =>
    intro k hk hkl hmk
    by_cases hk0 : k = 0
    ·subst hk0; rw [hm] at hmk; cases hmk
    ·obtain ⟨p, _, a, b⟩ := made_par htr hf (by omega) hkl hmk
     exact ih p (by omega) (by omega) b
  exact this m m (Nat.le_refl _) h1 h2
 | true =>
  obtain ⟨h1, h2⟩ := em_way htr hf (h.2 hm) h0 (leads0 hm)
  exact ⟨h1, fun m => ⟨fun hmm => ⟨(h2 m hmm).1, (h2 m hmm).2.1⟩, fun ⟨a, b⟩ => em_in (in_all htr hf a b) (h.2 hm)⟩⟩
end
end Go.Proofs.YtegaklgjcicnfaaGreat
