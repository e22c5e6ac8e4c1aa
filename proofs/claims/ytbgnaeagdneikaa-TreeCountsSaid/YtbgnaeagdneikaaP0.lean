/- Items and their bytes: plain laws. -/
import Derived.Test.YtbgnaeagdneikaaN4
-- pp: new
namespace Go.Proofs.Ytbgnaeagdneikaa
open Go Go.Proofs.Ytbgnaeagdneikaa.Abs
set_option linter.unusedSimpArgs false
set_option linter.unusedVariables false

structure Rc where
  a : Int
  b : Int
  c : Int
  d : Int
def Rc.cells (r : Rc) : List Value := [.int .i64 r.a, .int .i64 r.b, .int .i64 r.c, .int .i64 r.d]
def zeroR : Rc := ⟨0, 0, 0, 0⟩
structure Itm where
  node : Int
  kind : Int
  r : Rc
  h : Rc
  c : Rc
  color : Int
def Itm.cells (x : Itm) : List Value := [.int .i64 x.node, .int .i64 x.kind, .int .i64 x.r.a, .int .i64 x.r.b, .int .i64 x.r.c, .int .i64 x.r.d, .int .i64 x.h.a, .int .i64 x.h.b, .int .i64 x.h.c, .int .i64 x.h.d,
  .int .i64 x.c.a, .int .i64 x.c.b, .int .i64 x.c.c, .int .i64 x.c.d, .int .i64 x.color]
def itmCells (l : List Itm) : List Value := l.flatMap Itm.cells
structure Rc.Ok (r : Rc) : Prop where
  a : InI64 r.a
  b : InI64 r.b
  c : InI64 r.c
  d : InI64 r.d
structure Itm.Ok (x : Itm) : Prop where
  node : InI64 x.node
  kind : InI64 x.kind
  r : x.r.Ok
  h : x.h.Ok
  c : x.c.Ok
  color : InI64 x.color

def fitI (n : Int) : Prop := -1125899906842624 ≤ n ∧ n ≤ 1125899906842624
def Rc.Fit (r : Rc) : Prop := fitI r.a ∧ fitI r.b ∧ fitI r.c ∧ fitI r.d
/-- May an item be written? -/
def RightP (x : Itm) : Prop := (0 ≤ x.node ∧ x.node ≤ 65535 ∧ 1 ≤ x.color ∧ x.color ≤ 16777216) ∧ (x.r.Fit ∧ x.h.Fit ∧ x.c.Fit) ∧ (x.kind = 1 ∨ x.kind = 0 ∧ x.h = zeroR)

def rcBytes (r : Rc) : List Int := be64 r.a ++ (be64 r.b ++ (be64 r.c ++ be64 r.d))
def itmBytes (x : Itm) : List Int := be x.node 4 ++ (x.kind :: (rcBytes x.r ++ ((if x.kind = 1 then rcBytes x.h else []) ++ (rcBytes x.c ++ be64 x.color))))
def flatB (l : List Itm) : List Int := l.flatMap itmBytes
def itemsBytes (l : List Itm) : List Int := be (l.length : Int) 4 ++ flatB l

def pRc (t : Pst) : Rc × Pst := (⟨(pEight t).1, (pEight (pEight t).2).1, (pEight (pEight (pEight t).2).2).1, (pEight (pEight (pEight (pEight t).2).2).2).1⟩, (pEight (pEight (pEight (pEight t).2).2).2).2)
def pFour (t : Pst) : Int × Pst := takeN 4 t.1 t.2
def pOptR (b : Prop) [Decidable b] (t : Pst) : Rc × Pst := if b then pRc t else (zeroR, t)
def pI1 (t : Pst) : Pst := (pFour t).2
def pI2 (t : Pst) : Pst := (pByte (pI1 t)).2
def pI3 (t : Pst) : Pst := (pRc (pI2 t)).2
def pI4 (t : Pst) : Pst := (pOptR ((pByte (pI1 t)).1 = 1) (pI3 t)).2
def pI5 (t : Pst) : Pst := (pRc (pI4 t)).2
def pItm (t : Pst) : Itm × Pst := (⟨(pFour t).1, (pByte (pI1 t)).1, (pRc (pI2 t)).1, (pOptR ((pByte (pI1 t)).1 = 1) (pI3 t)).1, (pRc (pI4 t)).1, (pEight (pI5 t)).1⟩, (pEight (pI5 t)).2)

theorem pRc_bytes (r : Rc) (h : r.Ok) (m : List Int) : pRc (rcBytes r ++ m, false) = (r, m, false) := by
  unfold rcBytes pRc
  simp only [List.append_assoc, pEight_be _ _ h.a, pEight_be _ _ h.b, pEight_be _ _ h.c, pEight_be _ _ h.d]
theorem pFour_be (v : Int) (r : List Int) (h0 : 0 ≤ v) (h1 : v < 4294967296) : pFour (be v 4 ++ r, false) = (v, r, false) := by
  have := takeN_be 4 v r h0 (by simpa using h1)
  unfold pFour
  simp only [this]
theorem fit64 {n : Int} (h : fitI n) : InI64 n := by unfold fitI at h; unfold InI64; omega
theorem Rc.Fit.ok {r : Rc} (h : r.Fit) : r.Ok := ⟨fit64 h.1, fit64 h.2.1, fit64 h.2.2.1, fit64 h.2.2.2⟩
theorem RightP.ok {x : Itm} (h : RightP x) : x.Ok := by
  obtain ⟨⟨h1, h2, h3, h4⟩, ⟨h5, h6, h7⟩, h8⟩ := h
  refine ⟨by unfold InI64; omega, ?_, h5.ok, h6.ok, h7.ok, by unfold InI64; omega⟩
  unfold InI64
  rcases h8 with h8 | ⟨h8, _⟩ <;> omega

/-- An item's bytes are read as it was. -/
theorem pItm_bytes (x : Itm) (h : RightP x) (m : List Int) : pItm (itmBytes x ++ m, false) = (x, m, false) := by
  have hok := h.ok
  obtain ⟨⟨h1, h2, h3, h4⟩, ⟨h5, h6, h7⟩, h8⟩ := h
  have e1 : pFour (itmBytes x ++ m, false) = (x.node, x.kind :: (rcBytes x.r ++ ((if x.kind = 1 then rcBytes x.h else []) ++ (rcBytes x.c ++ (be64 x.color ++ m)))), false) := by
    unfold itmBytes
    simp only [List.append_assoc, List.cons_append]
    exact pFour_be _ _ h1 (by omega)
  have t1 : pI1 (itmBytes x ++ m, false) = (x.kind :: (rcBytes x.r ++ ((if x.kind = 1 then rcBytes x.h else []) ++ (rcBytes x.c ++ (be64 x.color ++ m)))), false) := by unfold pI1; rw [e1]
  have e2 := pByte_cons x.kind (rcBytes x.r ++ ((if x.kind = 1 then rcBytes x.h else []) ++ (rcBytes x.c ++ (be64 x.color ++ m))))
  have t2 : pI2 (itmBytes x ++ m, false) = (rcBytes x.r ++ ((if x.kind = 1 then rcBytes x.h else []) ++ (rcBytes x.c ++ (be64 x.color ++ m))), false) := by unfold pI2; rw [t1, e2]
  have e3 := pRc_bytes x.r hok.r ((if x.kind = 1 then rcBytes x.h else []) ++ (rcBytes x.c ++ (be64 x.color ++ m)))
  have t3 : pI3 (itmBytes x ++ m, false) = ((if x.kind = 1 then rcBytes x.h else []) ++ (rcBytes x.c ++ (be64 x.color ++ m)), false) := by unfold pI3; rw [t2, e3]
  have e4 : pOptR (x.kind = 1) ((if x.kind = 1 then rcBytes x.h else []) ++ (rcBytes x.c ++ (be64 x.color ++ m)), false) = (x.h, rcBytes x.c ++ (be64 x.color ++ m), false) := by
    unfold pOptR
    split
    · exact pRc_bytes x.h hok.h _
    · rename_i hk
      rcases h8 with h8 | ⟨_, h8⟩
      · exact absurd h8 hk
      · rw [h8]; rfl
  have hk : (pByte (pI1 (itmBytes x ++ m, false))).1 = x.kind := by rw [t1, e2]
  have t4 : pI4 (itmBytes x ++ m, false) = (rcBytes x.c ++ (be64 x.color ++ m), false) := by
    unfold pI4
    rw [t3]
    simp only [hk]
    rw [e4]
  have e5 := pRc_bytes x.c hok.c (be64 x.color ++ m)
  have t5 : pI5 (itmBytes x ++ m, false) = (be64 x.color ++ m, false) := by unfold pI5; rw [t4, e5]
  have e6 := pEight_be x.color m hok.color
  unfold pItm
  simp only [hk]
  rw [e1, t2, e3, t3, t4, e5, t5, e6]
  simp only [e4]

theorem pRc_bad {t : Pst} (h : (pRc t).2.2 = false) : t.2 = false :=
  bad_stays (n := 8) (bad_stays (n := 8) (bad_stays (n := 8) (bad_stays (n := 8) h)))
theorem pRc_inv {t : Pst} (hb : Byt t.1) (h : (pRc t).2.2 = false) : t.1 = rcBytes (pRc t).1 ++ (pRc t).2.1 ∧ Byt (pRc t).2.1 := by
  have b3 : (pEight (pEight (pEight t).2).2).2.2 = false := bad_stays (n := 8) h
  have b2 : (pEight (pEight t).2).2.2 = false := bad_stays (n := 8) b3
  have b1 : (pEight t).2.2 = false := bad_stays (n := 8) b2
  obtain ⟨_, a1, a2⟩ := pEight_inv (t := t) hb b1
  obtain ⟨_, c1, c2⟩ := pEight_inv (t := (pEight t).2) a2 b2
  obtain ⟨_, d1, d2⟩ := pEight_inv (t := (pEight (pEight t).2).2) c2 b3
  obtain ⟨_, e1, e2⟩ := pEight_inv (t := (pEight (pEight (pEight t).2).2).2) d2 h
  refine ⟨?_, e2⟩
  unfold rcBytes
  simp only [List.append_assoc]
  refine a1.trans (congrArg _ ?_)
  refine c1.trans (congrArg _ ?_)
  exact d1.trans (congrArg _ e1)
theorem pRc_byt {t : Pst} (h : Byt t.1) : Byt (pRc t).2.1 := takeN_byt (takeN_byt (takeN_byt (takeN_byt h)))
theorem pI1_byt {t : Pst} (h : Byt t.1) : Byt (pI1 t).1 := takeN_byt h
theorem pI2_byt {t : Pst} (h : Byt t.1) : Byt (pI2 t).1 := takeN_byt (pI1_byt h)
theorem pI3_byt {t : Pst} (h : Byt t.1) : Byt (pI3 t).1 := pRc_byt (pI2_byt h)
theorem pI4_byt {t : Pst} (h : Byt t.1) : Byt (pI4 t).1 := by
  unfold pI4 pOptR
  split
  · exact pRc_byt (pI3_byt h)
  · exact pI3_byt h
theorem pI5_byt {t : Pst} (h : Byt t.1) : Byt (pI5 t).1 := pRc_byt (pI4_byt h)
theorem pItm_byt {t : Pst} (h : Byt t.1) : Byt (pItm t).2.1 := takeN_byt (pI5_byt h)

/-- What is read as an item that may be written has its bytes. -/
theorem pItm_inv {t : Pst} (hb : Byt t.1) (h : (pItm t).2.2 = false) (hr : RightP (pItm t).1) : t.2 = false ∧ t.1 = itmBytes (pItm t).1 ++ (pItm t).2.1 := by
  have b5 : (pI5 t).2 = false := bad_stays (n := 8) h
  have b4 : (pI4 t).2 = false := pRc_bad b5
  have b3 : (pI3 t).2 = false := by
    unfold pI4 pOptR at b4
    split at b4
    · exact pRc_bad b4
    · exact b4
  have b2 : (pI2 t).2 = false := pRc_bad b3
  have b1 : (pI1 t).2 = false := bad_stays (n := 1) b2
  obtain ⟨b0, a1, a2⟩ := takeN_inv (n := 4) (t := t) hb b1
  obtain ⟨_, c1, c2, c3⟩ := pByte_inv (t := pI1 t) a2 b2
  obtain ⟨d1, d2⟩ := pRc_inv (t := pI2 t) c2 b3
  have e : (pI3 t).1 = (if (pItm t).1.kind = 1 then rcBytes (pItm t).1.h else []) ++ (pI4 t).1 ∧ Byt (pI4 t).1 := by
    refine ⟨?_, pI4_byt hb⟩
    unfold pI4 at b4
    unfold pI4
    simp only [pItm]
    unfold pOptR at b4 ⊢
    split
    · rename_i hk
      simp only [hk, if_true] at b4
      exact (pRc_inv (t := pI3 t) d2 b4).1
    · rfl
  obtain ⟨f1, f2⟩ := pRc_inv (t := pI4 t) e.2 b5
  obtain ⟨_, g1, g2⟩ := pEight_inv (t := pI5 t) f2 h
  refine ⟨b0, ?_⟩
  unfold itmBytes
  simp only [List.append_assoc, List.cons_append]
  refine a1.trans (congrArg _ ?_)
  refine c1.trans (congrArg _ ?_)
  refine d1.trans (congrArg _ ?_)
  refine e.1.trans (congrArg _ ?_)
  exact f1.trans (congrArg _ g1)

open Classical in
/-- So many items, each of which may be written. -/
noncomputable def decN : Nat → Pst → Option (List Itm × Pst)
  | 0, t => some ([], t)
  | k + 1, t => if (pItm t).2.2 = false ∧ RightP (pItm t).1 then (decN k (pItm t).2).map fun p => ((pItm t).1 :: p.1, p.2) else none

theorem decN_bytes : ∀ (l : List Itm), (∀ x ∈ l, RightP x) → ∀ m, decN l.length (flatB l ++ m, false) = some (l, m, false)
  | [], _, m => rfl
  | x :: l, h, m => by
    have hx := h x (by simp)
    have e := pItm_bytes x hx (flatB l ++ m)
    have : flatB (x :: l) ++ m = itmBytes x ++ (flatB l ++ m) := by simp [flatB]
    rw [this, List.length_cons, decN, e]
    simp only [hx, and_self, if_true]
    rw [decN_bytes l (fun y hy => h y (by simp [hy])) m]
    rfl
theorem decN_inv : ∀ (k : Nat) {t : Pst} {l : List Itm} {t' : Pst}, Byt t.1 → decN k t = some (l, t') → l.length = k ∧ (∀ x ∈ l, RightP x) ∧ (t'.2 = false → t.2 = false) ∧ (t.2 = false → t.1 = flatB l ++ t'.1) ∧ Byt t'.1
  | 0, t, l, t', hb, h => by
    cases h
    exact ⟨rfl, by simp, id, fun _ => by simp [flatB], hb⟩
  | k + 1, t, l, t', hb, h => by
    rw [decN] at h
    split at h
    case isFalse => cases h
    rename_i hc
    obtain ⟨⟨l', s⟩, hd, hp⟩ := Option.map_eq_some_iff.1 h
    cases hp
    obtain ⟨i1, i2, i3, i4, i5⟩ := decN_inv k (pItm_byt hb) hd
    obtain ⟨j1, j2⟩ := pItm_inv hb hc.1 hc.2
    refine ⟨by simp [i1], fun x hx => ?_, fun _ => j1, fun _ => ?_, i5⟩
    · simp only [List.mem_cons] at hx
      rcases hx with rfl | hx
      · exact hc.2
      · exact i2 x hx
    · rw [j2, i4 hc.1]
      simp [flatB]
end Go.Proofs.Ytbgnaeagdneikaa
