/- Styles and bytes: plain laws. -/
import Derived.Test.YtbgnaeagdneikaaY7
namespace Go.Proofs.Ytbgnaeagdneikaa
open Go Go.Proofs.Ytbgnaeagdneikaa.Abs
set_option linter.unusedSimpArgs false
set_option linter.unusedVariables false

abbrev Pst := List Int × Bool
def pByte (t : Pst) : Int × Pst := takeN 1 t.1 t.2
def pEight (t : Pst) : Int × Pst := (s64 (takeN 8 t.1 t.2).1, (takeN 8 t.1 t.2).2)
def pLen (t : Pst) : (Int × Int) × Pst := if (pByte t).1 = 0 then ((0, 0), (pByte t).2) else (((pByte t).1, (pEight (pByte t).2).1), (pEight (pByte t).2).2)
def pLens : Nat → Pst → List (Int × Int) × Pst
  | 0, t => ([], t)
  | n + 1, t => ((pLens n t).1 ++ [(pLen (pLens n t).2).1], (pLen (pLens n t).2).2)
def pInts : Nat → Pst → List Int × Pst
  | 0, t => ([], t)
  | n + 1, t => ((pInts n t).1 ++ [(pEight (pInts n t).2).1], (pEight (pInts n t).2).2)
def pOpt (b : Bool) (t : Pst) : Int × Pst := if b = true then pEight t else (0, t)
def hasZOf (n : Int) : Bool := n / 16 % 2 == 1

/-- What is taken, in order: the first byte, the lengths, the borders, a Z, two numbers. -/
def pT0 (t : Pst) : Pst := (pByte t).2
def pT1 (t : Pst) : Pst := (pLens 18 (pT0 t)).2
def pT2 (t : Pst) : Pst := (pInts 4 (pT1 t)).2
def pT3 (t : Pst) : Pst := (pOpt (hasZOf (pByte t).1) (pT2 t)).2
def pT4 (t : Pst) : Pst := (pEight (pT3 t)).2
def pT5 (t : Pst) : Pst := (pEight (pT4 t)).2
def pSty (t : Pst) : Sty :=
  ⟨(pByte t).1 % 2 == 1, (pByte t).1 / 2 % 4, (pLens 18 (pT0 t)).1, (pInts 4 (pT1 t)).1, (pByte t).1 / 8 % 2 == 1, hasZOf (pByte t).1, (pOpt (hasZOf (pByte t).1) (pT2 t)).1, (pByte t).1 / 32 % 2 == 1, (pEight (pT3 t)).1, (pEight (pT4 t)).1⟩

def be64 (v : Int) : List Int := be (v % 18446744073709551616) 8
def lenBytes (p : Int × Int) : List Int := if p.1 = 0 then [p.1] else p.1 :: be64 p.2
def bit (b : Bool) (n : Int) : Int := if b = true then n else 0
def flagOf (s : Sty) : Int := s.pos * 2 + bit s.shown 1 + bit s.rtl 8 + bit s.hasZ 16 + bit s.clip 32
def styBytes (s : Sty) : List Int := flagOf s :: (s.lens.flatMap lenBytes ++ (s.border.flatMap be64 ++ ((if s.hasZ = true then be64 s.z else []) ++ (be64 s.back ++ be64 s.line))))

theorem pEight_be (v : Int) (r : List Int) (h : InI64 v) : pEight (be64 v ++ r, false) = (v, r, false) := by
  have := takeN_be 8 (v % 18446744073709551616) r (by omega) (by omega)
  unfold pEight be64
  simp only [this, s64_mod h]
theorem pByte_cons (v : Int) (r : List Int) : pByte (v :: r, false) = (v, r, false) := takeN_one v r
theorem pLen_bytes (p : Int × Int) (r : List Int) (h : InI64 p.2) (hk : p.1 = 0 → p.2 = 0) : pLen (lenBytes p ++ r, false) = (p, r, false) := by
  unfold lenBytes
  by_cases h0 : p.1 = 0
  · rw [if_pos h0]
    have e : pByte ([p.1] ++ r, false) = (p.1, r, false) := pByte_cons _ _
    simp only [pLen, e, if_pos h0]
    rw [show p = (p.1, p.2) from rfl, h0, hk h0]
  · rw [if_neg h0]
    have e : pByte ((p.1 :: be64 p.2) ++ r, false) = (p.1, be64 p.2 ++ r, false) := pByte_cons _ _
    simp only [pLen, e, if_neg h0, pEight_be _ _ h]
theorem pLens_bytes (ls : List (Int × Int)) (h : ∀ p ∈ ls, InI64 p.2 ∧ (p.1 = 0 → p.2 = 0)) : ∀ (n : Nat) (r : List Int), n ≤ ls.length → pLens n ((ls.take n).flatMap lenBytes ++ r, false) = (ls.take n, r, false) := by
  intro n
  induction n with
  | zero => intro r _; simp [pLens]
  | succ n ih =>
    intro r hn
    have hp := h ls[n] (List.getElem_mem _)
    rw [List.take_succ_eq_append_getElem (by omega), List.flatMap_append, List.append_assoc]
    have := ih (([ls[n]].flatMap lenBytes) ++ r) (by omega)
    simp only [pLens, this]
    simp only [List.flatMap_cons, List.flatMap_nil, List.append_nil, pLen_bytes _ _ hp.1 hp.2]
theorem pInts_bytes (ls : List Int) (h : ∀ p ∈ ls, InI64 p) : ∀ (n : Nat) (r : List Int), n ≤ ls.length → pInts n ((ls.take n).flatMap be64 ++ r, false) = (ls.take n, r, false) := by
  intro n
  induction n with
  | zero => intro r _; simp [pInts]
  | succ n ih =>
    intro r hn
    have hp := h ls[n] (List.getElem_mem _)
    rw [List.take_succ_eq_append_getElem (by omega), List.flatMap_append, List.append_assoc]
    have := ih (([ls[n]].flatMap be64) ++ r) (by omega)
    simp only [pInts, this]
    simp only [List.flatMap_cons, List.flatMap_nil, List.append_nil, pEight_be _ _ hp]

theorem flag_facts (s : Sty) (h : 0 ≤ s.pos ∧ s.pos ≤ 3) : 0 ≤ flagOf s ∧ flagOf s < 64 ∧ (flagOf s % 2 == 1) = s.shown ∧ flagOf s / 2 % 4 = s.pos ∧ (flagOf s / 8 % 2 == 1) = s.rtl ∧ hasZOf (flagOf s) = s.hasZ ∧ (flagOf s / 32 % 2 == 1) = s.clip := by
  obtain ⟨shown, pos, lens, border, rtl, hasZ, z, clip, back, line⟩ := s
  simp only at h
  cases shown <;> cases rtl <;> cases hasZ <;> cases clip <;> simp [flagOf, bit, hasZOf] <;> omega

theorem roundtrip (s : Sty) (hs : s.Ok) (hf : SFormed s) (m : List Int) : pSty (styBytes s ++ m, false) = s ∧ pT5 (styBytes s ++ m, false) = (m, false) ∧ (pByte (styBytes s ++ m, false)).1 = flagOf s := by
  obtain ⟨g0, g1, g2, g3, g4, g5, g6⟩ := flag_facts s ⟨hf.2.2.1, hf.2.2.2.1⟩
  have e0 : pByte (styBytes s ++ m, false) = (flagOf s, s.lens.flatMap lenBytes ++ (s.border.flatMap be64 ++ ((if s.hasZ = true then be64 s.z else []) ++ (be64 s.back ++ (be64 s.line ++ m)))), false) := by
    unfold styBytes
    rw [List.cons_append, pByte_cons]
    simp only [List.append_assoc]
  have e1 := pLens_bytes s.lens (fun p hp => ⟨(hs.rl p hp).2, fun h0 => by
    obtain ⟨i, hi, rfl⟩ := List.getElem_of_mem hp
    have := (hf.1 i hi).1
    omega⟩) 18 (s.border.flatMap be64 ++ ((if s.hasZ = true then be64 s.z else []) ++ (be64 s.back ++ (be64 s.line ++ m)))) (by rw [hs.lens]; exact Nat.le_refl _)
  rw [List.take_of_length_le (by rw [hs.lens]; exact Nat.le_refl _)] at e1
  have e2 := pInts_bytes s.border hs.rb 4 ((if s.hasZ = true then be64 s.z else []) ++ (be64 s.back ++ (be64 s.line ++ m))) (by rw [hs.border]; exact Nat.le_refl _)
  rw [List.take_of_length_le (by rw [hs.border]; exact Nat.le_refl _)] at e2
  have t0 : pT0 (styBytes s ++ m, false) = (s.lens.flatMap lenBytes ++ (s.border.flatMap be64 ++ ((if s.hasZ = true then be64 s.z else []) ++ (be64 s.back ++ (be64 s.line ++ m)))), false) := by unfold pT0; rw [e0]
  have t1 : pT1 (styBytes s ++ m, false) = (s.border.flatMap be64 ++ ((if s.hasZ = true then be64 s.z else []) ++ (be64 s.back ++ (be64 s.line ++ m))), false) := by unfold pT1; rw [t0, e1]
  have t2 : pT2 (styBytes s ++ m, false) = ((if s.hasZ = true then be64 s.z else []) ++ (be64 s.back ++ (be64 s.line ++ m)), false) := by unfold pT2; rw [t1, e2]
  have o : pOpt s.hasZ ((if s.hasZ = true then be64 s.z else []) ++ (be64 s.back ++ (be64 s.line ++ m)), false) = (s.z, be64 s.back ++ (be64 s.line ++ m), false) := by
    unfold pOpt
    cases hz : s.hasZ
    · have := hf.2.2.2.2.2.2
      rw [hz] at this
      simp at this
      simp [this]
    · simp only [if_true, pEight_be _ _ hs.rz]
  have t3 : pT3 (styBytes s ++ m, false) = (be64 s.back ++ (be64 s.line ++ m), false) := by unfold pT3; rw [e0, t2, g5, o]
  have e4 := pEight_be s.back (be64 s.line ++ m) hs.rk
  have e5 := pEight_be s.line m hs.rn
  have t4 : pT4 (styBytes s ++ m, false) = (be64 s.line ++ m, false) := by unfold pT4; rw [t3, e4]
  refine ⟨?_, by unfold pT5; rw [t4, e5], by rw [e0]⟩
  unfold pSty
  rw [e0, t0, t1, t2, t3, t4, e1, e2, e4, e5, g5, o]
  simp only [g2, g3, g4, g6]

/-! From what is taken back to the bytes. -/
theorem be_num (n : Nat) : ∀ (l : List Int), l.length = n → Byt l → be (num l) n = l := by
  induction n with
  | zero =>
    intro l hl _
    rw [List.eq_nil_of_length_eq_zero hl]
    rfl
  | succ n ih =>
    intro l hl hb
    have hne : l ≠ [] := by intro e; rw [e] at hl; simp at hl
    have hl' : l.dropLast ++ [l.getLast hne] = l := List.dropLast_concat_getLast hne
    have hc := hb (l.getLast hne) (List.getLast_mem hne)
    have hd : Byt l.dropLast := fun c hc => hb c (List.dropLast_subset _ hc)
    have := ih l.dropLast (by simp [hl]) hd
    rw [← hl', num_snoc, be_low]
    rw [show (num l.dropLast * 256 + l.getLast hne) / 256 = num l.dropLast by omega, show (num l.dropLast * 256 + l.getLast hne) % 256 = l.getLast hne by omega, this]
theorem takeN_inv {n : Nat} {t : Pst} (hb : Byt t.1) (h : (takeN n t.1 t.2).2.2 = false) : t.2 = false ∧ t.1 = be (takeN n t.1 t.2).1 n ++ (takeN n t.1 t.2).2.1 ∧ Byt (takeN n t.1 t.2).2.1 := by
  unfold takeN at h ⊢
  split at h
  · cases h
  · rename_i hc
    rw [if_neg hc]
    simp only [not_or, Bool.not_eq_true, Nat.not_lt] at hc
    have hl : (t.1.take n).length = n := by simp; omega
    refine ⟨hc.1, ?_, fun c hc => hb c (List.mem_of_mem_drop hc)⟩
    rw [be_num n _ hl fun c hc => hb c (List.mem_of_mem_take hc), List.take_append_drop]
theorem be64_s64 {v : Int} (h0 : 0 ≤ v) (h1 : v < 18446744073709551616) : be64 (s64 v) = be v 8 := by
  unfold be64 s64
  rw [IntKind.wrap_i64]
  congr 1
  omega
theorem s64_in (v : Int) : InI64 (s64 v) := by
  unfold s64 InI64
  rw [IntKind.wrap_i64]
  omega
theorem pEight_inv {t : Pst} (hb : Byt t.1) (h : (pEight t).2.2 = false) : t.2 = false ∧ t.1 = be64 (pEight t).1 ++ (pEight t).2.1 ∧ Byt (pEight t).2.1 := by
  obtain ⟨h1, h2, h3⟩ := takeN_inv (n := 8) hb h
  have hv := takeN_bound (n := 8) (bad := t.2) hb
  refine ⟨h1, ?_, h3⟩
  unfold pEight
  simp only
  rw [be64_s64 hv.1 (by omega)]
  exact h2
theorem pEight_in (t : Pst) : InI64 (pEight t).1 := s64_in _
theorem pByte_inv {t : Pst} (hb : Byt t.1) (h : (pByte t).2.2 = false) : t.2 = false ∧ t.1 = (pByte t).1 :: (pByte t).2.1 ∧ Byt (pByte t).2.1 ∧ InU8 (pByte t).1 := by
  obtain ⟨h1, h2, h3⟩ := takeN_inv (n := 1) hb h
  have hv := takeN_bound (n := 1) (bad := t.2) hb
  have e : be (takeN 1 t.1 t.2).1 1 = [(takeN 1 t.1 t.2).1] := by simp [be]; omega
  rw [e] at h2
  exact ⟨h1, h2, h3, by unfold InU8 pByte; omega⟩
theorem pLen_inv {t : Pst} (hb : Byt t.1) (h : (pLen t).2.2 = false) : t.2 = false ∧ t.1 = lenBytes (pLen t).1 ++ (pLen t).2.1 ∧ Byt (pLen t).2.1 := by
  unfold pLen at h ⊢
  by_cases h0 : (pByte t).1 = 0
  · rw [if_pos h0] at h ⊢
    obtain ⟨h1, h2, h3, _⟩ := pByte_inv hb h
    rw [h0] at h2
    exact ⟨h1, by simpa [lenBytes] using h2, h3⟩
  · rw [if_neg h0] at h ⊢
    have hb1 : (pByte t).2.2 = false := by
      have := h
      unfold pEight takeN at this
      cases hc : (pByte t).2.2
      · rfl
      · simp [hc] at this
    obtain ⟨h1, h2, h3, _⟩ := pByte_inv hb hb1
    obtain ⟨_, h5, h6⟩ := pEight_inv h3 h
    refine ⟨h1, ?_, h6⟩
    simp only [lenBytes, if_neg h0]
    rw [List.cons_append, ← h5]
    exact h2
theorem pLens_inv (n : Nat) {t : Pst} (hb : Byt t.1) (h : (pLens n t).2.2 = false) : t.2 = false ∧ t.1 = (pLens n t).1.flatMap lenBytes ++ (pLens n t).2.1 ∧ Byt (pLens n t).2.1 := by
  induction n with
  | zero => exact ⟨h, by simp [pLens], hb⟩
  | succ n ih =>
    have hb1 : (pLens n t).2.2 = false := by
      have := h
      simp only [pLens] at this
      cases hc : (pLens n t).2.2
      · rfl
      · unfold pLen pEight pByte takeN at this
        simp [hc] at this
    obtain ⟨h1, h2, h3⟩ := ih hb1
    obtain ⟨_, h5, h6⟩ := pLen_inv h3 h
    refine ⟨h1, ?_, h6⟩
    simp only [pLens, List.flatMap_append, List.flatMap_cons, List.flatMap_nil, List.append_nil, List.append_assoc]
    rw [← h5]
    exact h2
theorem pInts_inv (n : Nat) {t : Pst} (hb : Byt t.1) (h : (pInts n t).2.2 = false) : t.2 = false ∧ t.1 = (pInts n t).1.flatMap be64 ++ (pInts n t).2.1 ∧ Byt (pInts n t).2.1 := by
  induction n with
  | zero => exact ⟨h, by simp [pInts], hb⟩
  | succ n ih =>
    have hb1 : (pInts n t).2.2 = false := by
      have := h
      simp only [pInts] at this
      cases hc : (pInts n t).2.2
      · rfl
      · unfold pEight takeN at this
        simp [hc] at this
    obtain ⟨h1, h2, h3⟩ := ih hb1
    obtain ⟨_, h5, h6⟩ := pEight_inv h3 h
    refine ⟨h1, ?_, h6⟩
    simp only [pInts, List.flatMap_append, List.flatMap_cons, List.flatMap_nil, List.append_nil, List.append_assoc]
    rw [← h5]
    exact h2
theorem pOpt_inv (b : Bool) {t : Pst} (hb : Byt t.1) (h : (pOpt b t).2.2 = false) : t.2 = false ∧ t.1 = (if b = true then be64 (pOpt b t).1 else []) ++ (pOpt b t).2.1 ∧ Byt (pOpt b t).2.1 := by
  cases b
  · exact ⟨h, by simp [pOpt], hb⟩
  · exact pEight_inv hb h

theorem bad_stays {t : Pst} {n : Nat} (h : (takeN n t.1 t.2).2.2 = false) : t.2 = false := by
  cases hc : t.2
  · rfl
  · unfold takeN at h
    simp [hc] at h

theorem pInts_bad (n : Nat) (t : Pst) : (pInts n t).2.2 = false → t.2 = false := by
  induction n with
  | zero => exact id
  | succ n ih => intro hh; exact ih (bad_stays (n := 8) hh)
theorem pLens_bad (n : Nat) (t : Pst) : (pLens n t).2.2 = false → t.2 = false := by
  induction n with
  | zero => exact id
  | succ n ih =>
    intro hh
    refine ih ?_
    simp only [pLens, pLen] at hh
    split at hh
    · exact bad_stays (n := 1) hh
    · exact bad_stays (n := 1) (bad_stays (n := 8) hh)
theorem flag_back (n : Int) (h : InU8 n) (h64 : n < 64) (s : Sty) (e1 : s.shown = (n % 2 == 1)) (e2 : s.pos = n / 2 % 4) (e3 : s.rtl = (n / 8 % 2 == 1)) (e4 : s.hasZ = hasZOf n) (e5 : s.clip = (n / 32 % 2 == 1)) : flagOf s = n := by
  unfold flagOf
  rw [e1, e2, e3, e4, e5]
  unfold InU8 at h
  unfold bit hasZOf
  simp only [beq_iff_eq]
  split <;> split <;> split <;> split <;> omega

attribute [local irreducible] pLens pInts
/-- What is taken has just these bytes. -/
theorem taken (t : Pst) (hb : Byt t.1) (h : (pT5 t).2 = false) (h64 : (pByte t).1 < 64) : t.2 = false ∧ t.1 = styBytes (pSty t) ++ (pT5 t).1 ∧ Byt (pT5 t).1 := by
  have b4 : (pT4 t).2 = false := bad_stays h
  have b3 : (pT3 t).2 = false := bad_stays b4
  have b2 : (pT2 t).2 = false := by
    unfold pT3 pOpt at b3
    split at b3
    · exact bad_stays b3
    · exact b3
  have b1 : (pT1 t).2 = false := by
    exact pInts_bad 4 _ b2
  have b0 : (pT0 t).2 = false := by
    exact pLens_bad 18 _ b1
  obtain ⟨a0, a1, a2, a3⟩ := pByte_inv hb b0
  obtain ⟨_, c1, c2⟩ := pLens_inv 18 (t := pT0 t) a2 b1
  obtain ⟨_, d1, d2⟩ := pInts_inv 4 (t := pT1 t) c2 b2
  obtain ⟨_, e1, e2⟩ := pOpt_inv (hasZOf (pByte t).1) (t := pT2 t) d2 b3
  obtain ⟨_, f1, f2⟩ := pEight_inv (t := pT3 t) e2 b4
  obtain ⟨_, g1, g2⟩ := pEight_inv (t := pT4 t) f2 h
  refine ⟨a0, ?_, g2⟩
  have hfl : flagOf (pSty t) = (pByte t).1 := flag_back _ a3 h64 _ rfl rfl rfl rfl rfl
  unfold styBytes
  rw [hfl]
  simp only [List.cons_append, List.append_assoc]
  refine a1.trans (congrArg _ ?_)
  refine c1.trans (congrArg _ ?_)
  refine d1.trans (congrArg _ ?_)
  refine e1.trans (congrArg _ ?_)
  refine f1.trans (congrArg _ ?_)
  exact g1

end Go.Proofs.Ytbgnaeagdneikaa
