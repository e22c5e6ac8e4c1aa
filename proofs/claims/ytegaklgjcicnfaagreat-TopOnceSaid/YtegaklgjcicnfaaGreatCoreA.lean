/- The abstract memory: blocks by name, values with such names for addresses, and how they lie in the machine's memory. -/
import Derived.WalkKit
import Derived.Orders
set_option linter.unusedSimpArgs false
set_option linter.unusedVariables false
namespace Go.Proofs.YtegaklgjcicnfaaGreat.Abs
open Go Go.RowKit
/-- Where an abstract block lies: the machine's block, the first cell, how many cells that block has. -/
structure Loc where
 cb : Nat
 dl : Nat
 csz : Nat
abbrev LMap := Nat → Option Loc
def LMap.le (m m' : LMap) : Prop := ∀ id r, m id = some r → m' id = some r
theorem LMap.le_refl (m : LMap) : m.le m := fun _ _ h => h
theorem LMap.le_trans {a b c : LMap} (h : a.le b) (k : b.le c) : a.le c := fun i r hr => k i r (h i r hr)
def LMap.ext (m : LMap) (id : Nat) (r : Loc) : LMap := fun i => if i = id then some r else m i
structure Blk where
 ro : Bool
 cells : List Value
structure St where
 blk : Nat → Option Blk
 next : Nat
def St.new (S : St) (b : Blk) : St := ⟨fun i => if i = S.next then some b else S.blk i, S.next + 1⟩
def St.set (S : St) (id : Nat) (b : Blk) : St := ⟨fun i => if i = id then some b else S.blk i, S.next⟩
def St.kill (S : St) (id : Nat) : St := ⟨fun i => if i = id then none else S.blk i, S.next⟩
/-- An abstract value is the machine's, but for addresses; a slice tells, in place of its capacity, how many cells an element takes, where what is behind it is its own (0: it may not grow in place). -/
inductive VRel (m : LMap) : Value → Value → Prop
 | bool (b : Bool) : VRel m (.bool b) (.bool b)
 | int (k : IntKind) (n : Int) : VRel m (.int k n) (.int k n)
 | string (s : ByteArray) : VRel m (.string s) (.string s)
 | pnil : VRel m (.pointer none) (.pointer none)
 | ptr {id off : Nat} {r : Loc} (h : m id = some r) : VRel m (.pointer (some ⟨id, off, none⟩)) (.pointer (some ⟨r.cb, r.dl + off, none⟩))
 | snil : VRel m (.slice none 0 0) (.slice none 0 0)
 | slice {id off len cap e : Nat} {r : Loc} (h : m id = some r) (hl : len ≤ cap) (hc : e = 0 ∨ r.dl + off + cap * e ≤ r.csz ∧ cap ≤ 9223372036854775807) :
   VRel m (.slice (some ⟨id, off, none⟩) len e) (.slice (some ⟨r.cb, r.dl + off, none⟩) len cap)
 | sempty {id off : Nat} {r : Loc} (h : m id = some r) (e : Nat) (a : Addr) : VRel m (.slice (some ⟨id, off, none⟩) 0 e) (.slice (some a) 0 0)
 | nilFunc : VRel m .nilFunc .nilFunc
 | func (fn : Fn) {xs ys cs ds : Array Value} (h1 : xs.size = ys.size) (h2 : ∀ (i : Nat) x y, xs[i]? = some x → ys[i]? = some y → VRel m x y)
   (h3 : cs.size = ds.size) (h4 : ∀ (i : Nat) x y, cs[i]? = some x → ds[i]? = some y → VRel m x y) : VRel m (.func fn xs cs) (.func fn ys ds)
 | nilIface : VRel m .nilIface .nilIface
 | iface (t : TypeId) {v u : Value} (h : VRel m v u) : VRel m (.iface t v) (.iface t u)
 | agg {xs ys : Array Value} (h1 : xs.size = ys.size) (ho : ∀ x ∈ xs, x.oneCell' = true)
   (h2 : ∀ (i : Nat) x y, xs[i]? = some x → ys[i]? = some y → VRel m x y) : VRel m (.agg xs) (.agg ys)
 | tuple {xs ys : Array Value} (h1 : xs.size = ys.size) (h2 : ∀ (i : Nat) x y, xs[i]? = some x → ys[i]? = some y → VRel m x y) : VRel m (.tuple xs) (.tuple ys)
theorem VRel.mono {m m' : LMap} (hm : m.le m') {v u : Value} (h : VRel m v u) : VRel m' v u := by
 induction h with
 | bool b => exact .bool b
 | int k n => exact .int k n
 | string s => exact .string s
 | pnil => exact .pnil
 | ptr h => exact .ptr (hm _ _ h)
 | snil => exact .snil
 | slice h hl hc => exact .slice (hm _ _ h) hl hc
 | sempty h e a => exact .sempty (hm _ _ h) e a
 | nilFunc => exact .nilFunc
 | func fn h1 h2 h3 h4 ih2 ih4 => exact .func fn h1 ih2 h3 ih4
 | nilIface => exact .nilIface
 | iface t h ih => exact .iface t ih
 | agg h1 ho h2 ih => exact .agg h1 ho ih
 | tuple h1 h2 ih => exact .tuple h1 ih
/-- Lists of values, place by place. -/
def LRel (m : LMap) (vs us : List Value) : Prop := vs.length = us.length ∧ ∀ (i : Nat) v u, vs[i]? = some v → us[i]? = some u → VRel m v u
def ARel (m : LMap) (vs us : Array Value) : Prop := vs.size = us.size ∧ ∀ (i : Nat) v u, vs[i]? = some v → us[i]? = some u → VRel m v u
theorem LRel.mono {m m' : LMap} (hm : m.le m') {vs us : List Value} (h : LRel m vs us) : LRel m' vs us := ⟨h.1, fun i v u a b => (h.2 i v u a b).mono hm⟩
theorem ARel.mono {m m' : LMap} (hm : m.le m') {vs us : Array Value} (h : ARel m vs us) : ARel m' vs us := ⟨h.1, fun i v u a b => (h.2 i v u a b).mono hm⟩
theorem LRel.nil (m : LMap) : LRel m [] [] := ⟨rfl, fun i v u h => by simp at h⟩
theorem LRel.cons {m : LMap} {v u : Value} {vs us : List Value} (h : VRel m v u) (hs : LRel m vs us) : LRel m (v :: vs) (u :: us) := by
 refine ⟨by simp [hs.1], fun i a b ha hb => ?_⟩
 cases i with
 | zero => simp at ha hb; subst ha; subst hb; exact h
 | succ i => simp at ha hb; exact hs.2 i a b ha hb
theorem LRel.of_array {m : LMap} {vs us : Array Value} (h : ARel m vs us) : LRel m vs.toList us.toList := ⟨by simpa using h.1, fun i v u a b => h.2 i v u (by simpa using a) (by simpa using b)⟩
theorem ARel.of_list {m : LMap} {vs us : List Value} (h : LRel m vs us) : ARel m vs.toArray us.toArray := ⟨by simpa using h.1, fun i v u a b => h.2 i v u (by simpa using a) (by simpa using b)⟩
theorem LRel.append {m : LMap} {vs us vs' us' : List Value} (h : LRel m vs us) (h' : LRel m vs' us') : LRel m (vs ++ vs') (us ++ us') := by
 refine ⟨by simp [h.1, h'.1], fun i v u a b => ?_⟩
 rw [List.getElem?_append] at a b
 rw [h.1] at a
 split at a
 ·rename_i hi; rw [if_pos hi] at b; exact h.2 i v u a b
 ·rename_i hi; rw [if_neg hi] at b; exact h'.2 _ v u a b
theorem LRel.drop {m : LMap} {vs us : List Value} (h : LRel m vs us) (n : Nat) : LRel m (vs.drop n) (us.drop n) :=
 ⟨by simp [h.1], fun i v u a b => h.2 _ v u (by simpa using a) (by simpa using b)⟩
theorem LRel.take {m : LMap} {vs us : List Value} (h : LRel m vs us) (n : Nat) : LRel m (vs.take n) (us.take n) := by
 refine ⟨by simp [h.1], fun i v u a b => ?_⟩
 rw [List.getElem?_take] at a b
 split at a
 ·rename_i hi; rw [if_pos hi] at b; exact h.2 i v u a b
 ·cases a
theorem LRel.set {m : LMap} {vs us : List Value} (h : LRel m vs us) (n : Nat) {v u : Value} (hv : VRel m v u) : LRel m (vs.set n v) (us.set n u) := by
 refine ⟨by simp [h.1], fun i a b ha hb => ?_⟩
 rw [List.getElem?_set] at ha hb
 split at ha
 ·rename_i e; rw [if_pos e] at hb
  split at ha
  ·cases ha
   split at hb
   ·cases hb; exact hv
   ·cases hb
  ·cases ha
 ·rename_i e; rw [if_neg e] at hb; exact h.2 i a b ha hb
theorem LRel.get {m : LMap} {vs us : List Value} (h : LRel m vs us) {i : Nat} {v : Value} (hv : vs[i]? = some v) : ∃ u, us[i]? = some u ∧ VRel m v u := by
 have hi : i < us.length := by rw [← h.1]; exact (List.getElem?_eq_some_iff.1 hv).1
 exact ⟨us[i], List.getElem?_eq_getElem hi, h.2 i v _ hv (List.getElem?_eq_getElem hi)⟩
theorem VRel.oneCell {m : LMap} {v u : Value} (h : VRel m v u) : v.oneCell' = u.oneCell' := by cases h <;> rfl
theorem VRel.cells {m : LMap} {v u : Value} (h : VRel m v u) : LRel m v.cells.toList u.cells.toList := by
 cases h with
 | agg h1 ho h2 => exact LRel.of_array ⟨h1, h2⟩
 | bool b => exact .cons (.bool b) (.nil m)
 | int k n => exact .cons (.int k n) (.nil m)
 | string s => exact .cons (.string s) (.nil m)
 | pnil => exact .cons .pnil (.nil m)
 | ptr h => exact .cons (.ptr h) (.nil m)
 | snil => exact .cons .snil (.nil m)
 | slice h hl hc => exact .cons (.slice h hl hc) (.nil m)
 | sempty h e a => exact .cons (.sempty h e a) (.nil m)
 | nilFunc => exact .cons .nilFunc (.nil m)
 | func fn h1 h2 h3 h4 => exact .cons (.func fn h1 h2 h3 h4) (.nil m)
 | nilIface => exact .cons .nilIface (.nil m)
 | iface t h => exact .cons (.iface t h) (.nil m)
 | tuple h1 h2 => exact .cons (.tuple h1 h2) (.nil m)
/-- May a value stand in memory? -/
def storable : Value → Bool
 | .tuple _ => false
 | _ => true
theorem VRel.cells_one {m : LMap} {v u : Value} (h : VRel m v u) (hs : storable v = true) : ∀ x ∈ v.cells.toList, x.oneCell' = true := by
 cases h with
 | agg h1 ho h2 => intro x hx; exact ho x (by simpa [Value.cells] using hx)
 | tuple h1 h2 => simp [storable] at hs
 | _ => intro x hx; simp [Value.cells] at hx; subst hx; rfl
structure BlkAt (B : Nat) (m : LMap) (w : World) (b : Blk) (r : Loc) : Prop where
 one : ∀ v ∈ b.cells, v.oneCell' = true
 at_ : ∃ (c : Array Value) (e : TypeId) (fr : Nat × Nat), w.heap[r.cb]? = some (.cells c e fr) ∧ c.size = r.csz ∧ r.dl + b.cells.length ≤ r.csz ∧
  (b.ro = false → fr = (0, 0) ∧ B ≤ r.cb) ∧ (b.ro = true → r.cb < B) ∧ ∀ (i : Nat) v, b.cells[i]? = some v → ∃ u, c[r.dl + i]? = some u ∧ VRel m v u
structure Rel (w0 : World) (m : LMap) (S : St) (w : World) : Prop where
 below : Below w0.heap.size w0 w
 dom : ∀ id r, m id = some r → id < S.next
 live : ∀ id b, S.blk id = some b → id < S.next
 blk : ∀ id b r, S.blk id = some b → m id = some r → BlkAt w0.heap.size m w b r
 inj : ∀ i j b c r s, S.blk i = some b → S.blk j = some c → b.ro = false → c.ro = false → m i = some r → m j = some s → r.cb = s.cb → i = j
theorem BlkAt.mono {B : Nat} {m m' : LMap} {w : World} {b : Blk} {r : Loc} (hm : m.le m') (h : BlkAt B m w b r) : BlkAt B m' w b r := by
 obtain ⟨ho, c, e, fr, h1, h2, h3, h4, h5, h6⟩ := h
 exact ⟨ho, c, e, fr, h1, h2, h3, h4, h5, fun i v hv => by obtain ⟨u, hu, hr⟩ := h6 i v hv; exact ⟨u, hu, hr.mono hm⟩⟩
/-- A block reads as it did where its machine's block does. -/
theorem BlkAt.world {B : Nat} {m : LMap} {w w' : World} {b : Blk} {r : Loc} (hw : w'.heap[r.cb]? = w.heap[r.cb]?) (h : BlkAt B m w b r) : BlkAt B m w' b r := by
 obtain ⟨ho, c, e, fr, h1, h2, h3, h4, h5, h6⟩ := h
 exact ⟨ho, c, e, fr, by rw [hw]; exact h1, h2, h3, h4, h5, h6⟩
theorem BlkAt.lt {B : Nat} {m : LMap} {w : World} {b : Blk} {r : Loc} (h : BlkAt B m w b r) : r.cb < w.heap.size := by
 obtain ⟨_, c, e, fr, h1, _⟩ := h
 exact (Array.getElem?_eq_some_iff.1 h1).1
theorem Rel.fresh {w0 : World} {m : LMap} {S : St} {w : World} (h : Rel w0 m S w) : m S.next = none := by
 cases hm : m S.next with
 | none => rfl
 | some r => exact absurd (h.dom _ _ hm) (Nat.lt_irrefl _)
theorem LMap.le_ext {m : LMap} {id : Nat} (h : m id = none) (r : Loc) : m.le (m.ext id r) := by
 intro i s hs
 unfold LMap.ext
 by_cases e : i = id
 ·subst e; rw [h] at hs; cases hs
 ·rw [if_neg e]; exact hs
theorem Rel.lt {w0 : World} {m : LMap} {S : St} {w : World} (h : Rel w0 m S w) {id : Nat} {b : Blk} (hb : S.blk id = some b) : id < S.next := by
 exact h.live id b hb
/-- A draw turns nothing. -/
theorem Rel.drew {w0 : World} {m : LMap} {S : St} {w : World} (h : Rel w0 m S w) : Rel w0 m S w.drew :=
 ⟨h.below.drew, h.dom, h.live, fun id b r hb hr => BlkAt.world (w := w) (w' := w.drew) (by rfl) (h.blk id b r hb hr), h.inj⟩
/-- Dead blocks are forgotten. -/
theorem Rel.kill {w0 : World} {m : LMap} {S : St} {w : World} (h : Rel w0 m S w) (id : Nat) : Rel w0 m (S.kill id) w := by
 refine ⟨h.below, h.dom, fun i b hb => ?_, fun i b r hb => ?_, fun i j b c r s hb hc => ?_⟩
 ·by_cases e : i = id
  ·simp [St.kill, e] at hb
  ·exact h.live i b (by simpa [St.kill, e] using hb)
 ·by_cases e : i = id
  ·simp [St.kill, e] at hb
  ·exact h.blk i b r (by simpa [St.kill, e] using hb)
 ·by_cases e : i = id
  ·simp [St.kill, e] at hb
  ·by_cases e' : j = id
   ·simp [St.kill, e'] at hc
   ·exact h.inj i j b c r s (by simpa [St.kill, e] using hb) (by simpa [St.kill, e'] using hc)
/-- A new block; its cells may be more than what is told. -/
theorem Rel.new {w0 : World} {m : LMap} {S : St} {w : World} (h : Rel w0 m S w) (vs : List Value) (us : Array Value) (e : TypeId)
  (hone : ∀ v ∈ vs, v.oneCell' = true) (hlen : vs.length ≤ us.size) (hrel : LRel m vs (us.toList.take vs.length)) :
  Rel w0 (m.ext S.next ⟨w.heap.size, 0, us.size⟩) (S.new ⟨false, vs⟩) (w.alloc (.cells us e)) := by
 have hfr := h.fresh
 have hle := LMap.le_ext hfr ⟨w.heap.size, 0, us.size⟩
 have hB : w0.heap.size ≤ w.heap.size := h.below.size
 have hold : ∀ i, i < w.heap.size → (w.alloc (.cells us e)).heap[i]? = w.heap[i]? := fun i hi => Below.heap_alloc _ _ _ hi
 refine ⟨h.below.alloc hB _, fun i r hr => ?_, fun i b hb => ?_, fun i b r hb hr => ?_, fun i j b c r s hb hc hbr hcr hr hs hcb => ?_⟩
 ·simp only [St.new]
  unfold LMap.ext at hr
  by_cases hi : i = S.next
  ·omega
  ·rw [if_neg hi] at hr; have := h.dom i r hr; omega
 ·simp only [St.new] at hb ⊢
  by_cases hi : i = S.next
  ·omega
  ·rw [if_neg hi] at hb; have := h.live i b hb; omega
 ·by_cases hi : i = S.next
  ·subst hi
   simp [St.new] at hb
   subst hb
   simp [LMap.ext] at hr
   subst hr
   refine ⟨hone, us, e, (0, 0), heap_alloc_new w _, rfl, by simpa using hlen, fun _ => ⟨rfl, hB⟩, fun hc => (by simp at hc), fun i v hv => ?_⟩
   have hi : i < vs.length := (List.getElem?_eq_some_iff.1 hv).1
   have hu : (us.toList.take vs.length)[i]? = some us[i] := by rw [List.getElem?_take, if_pos hi]; simp [Nat.lt_of_lt_of_le hi hlen]
   exact ⟨us[i], by simp [Nat.lt_of_lt_of_le hi hlen], (hrel.2 i v _ hv hu).mono hle⟩
  ·simp [St.new, hi] at hb
   simp [LMap.ext, hi] at hr
   have hk := h.blk i b r hb hr
   exact (hk.mono hle).world (hold _ hk.lt)
 ·have key : ∀ k d t, (S.new ⟨false, vs⟩).blk k = some d → (m.ext S.next ⟨w.heap.size, 0, us.size⟩) k = some t → k ≠ S.next → S.blk k = some d ∧ m k = some t ∧ t.cb < w.heap.size := by
   intro k d t hd ht hk
   simp [St.new, hk] at hd
   simp [LMap.ext, hk] at ht
   exact ⟨hd, ht, (h.blk k d t hd ht).lt⟩
  by_cases hi : i = S.next
  ·by_cases hj : j = S.next
   ·omega
   ·obtain ⟨_, _, hlt⟩ := key j c s hc hs hj
    subst hi
    simp [LMap.ext] at hr
    subst hr
    simp at hcb
    omega
  ·by_cases hj : j = S.next
   ·obtain ⟨_, _, hlt⟩ := key i b r hb hr hi
    subst hj
    simp [LMap.ext] at hs
    subst hs
    simp at hcb
    omega
   ·obtain ⟨h1, h2, _⟩ := key i b r hb hr hi
    obtain ⟨h3, h4, _⟩ := key j c s hc hs hj
    exact h.inj i j b c r s h1 h3 hbr hcr h2 h4 hcb
/-- Writing over from a place on. -/
def ow (cs : List Value) (o : Nat) : List Value → List Value
 | [] => cs
 | v :: vs => ow (cs.set o v) (o + 1) vs
theorem ow_length (vs : List Value) : ∀ (cs : List Value) (o : Nat), (ow cs o vs).length = cs.length := by
 induction vs with
 | nil => intro cs o; rfl
 | cons v vs ih => intro cs o; simp [ow, ih]
theorem ow_eq (vs : List Value) : ∀ (cs : List Value) (o : Nat), o + vs.length ≤ cs.length → ow cs o vs = cs.take o ++ vs ++ cs.drop (o + vs.length) := by
 induction vs with
 | nil => intro cs o _; simp [ow]
 | cons v vs ih =>
  intro cs o h
  simp only [List.length_cons] at h
  rw [ow, ih _ _ (by simp; omega)]
  apply List.ext_getElem?
  intro i
  simp only [List.getElem?_append, List.length_append, List.length_take, List.length_set, List.getElem?_take, List.getElem?_drop, List.getElem?_set, List.length_cons]
  by_cases h1 : i < o
  ·simp [h1, show i < min (o + 1) cs.length by omega, show i < min o cs.length by omega, show i < o + 1 by omega, show ¬ o = i by omega, show i < min (o + 1) cs.length + vs.length by omega, show i < min o cs.length + (vs.length + 1) by omega]
  ·by_cases h2 : i = o
   ·subst h2
    simp [show i < min (i + 1) cs.length by omega, show ¬ i < min i cs.length by omega, show i < cs.length by omega, show i < min (i + 1) cs.length + vs.length by omega, show i < min i cs.length + (vs.length + 1) by omega, show i - min i cs.length = 0 by omega]
   ·by_cases h3 : i < o + 1 + vs.length
    ·simp [show ¬ i < min (o + 1) cs.length by omega, show ¬ i < min o cs.length by omega, show i < min (o + 1) cs.length + vs.length by omega, show i < min o cs.length + (vs.length + 1) by omega, show i - min o cs.length = (i - min (o + 1) cs.length) + 1 by omega]
    ·simp [show ¬ i < min (o + 1) cs.length + vs.length by omega, show ¬ i < min o cs.length + (vs.length + 1) by omega]
     rw [if_neg (by omega)]
     congr 1
     omega
theorem LRel.ow {m : LMap} {cs ds vs us : List Value} (h : LRel m cs ds) (hv : LRel m vs us) (o : Nat) : LRel m (Go.Proofs.YtegaklgjcicnfaaGreat.Abs.ow cs o vs) (Go.Proofs.YtegaklgjcicnfaaGreat.Abs.ow ds o us) := by
 induction vs generalizing cs ds us o with
 | nil =>
  have : us = [] := List.eq_nil_of_length_eq_zero (by have := hv.1; simp at this; omega)
  subst this; exact h
 | cons v vs ih =>
  cases us with
  | nil => have := hv.1; simp at this
  | cons u us => exact ih (h.set o (hv.2 0 v u rfl rfl)) ⟨by have := hv.1; simpa using this, fun i a b ha hb => hv.2 (i + 1) a b (by simpa using ha) (by simpa using hb)⟩ _
theorem ow_one {cs vs : List Value} (h : ∀ v ∈ cs, v.oneCell' = true) (hv : ∀ v ∈ vs, v.oneCell' = true) (o : Nat) : ∀ v ∈ Go.Proofs.YtegaklgjcicnfaaGreat.Abs.ow cs o vs, v.oneCell' = true := by
 induction vs generalizing cs o with
 | nil => exact h
 | cons v vs ih =>
  refine ih (fun x hx => ?_) (fun x hx => hv x (by simp [hx])) _
  rcases List.mem_or_eq_of_mem_set hx with hx | rfl
  ·exact h x hx
  ·exact hv x (by simp)
/-- A store of cells into a block of the call's own. -/
theorem Rel.write {w0 : World} {m : LMap} {S : St} {w : World} (h : Rel w0 m S w) {id : Nat} {b : Blk} {r : Loc} (hb : S.blk id = some b) (hro : b.ro = false) (hm : m id = some r)
  {vs us : List Value} (hv : LRel m vs us) (hone : ∀ v ∈ vs, v.oneCell' = true) {o : Nat} (ho : o + vs.length ≤ b.cells.length) (c : Array Value) (e : TypeId) (hc : w.heap[r.cb]? = some (.cells c e (0, 0))) :
  Rel w0 m (S.set id { b with cells := Go.Proofs.YtegaklgjcicnfaaGreat.Abs.ow b.cells o vs }) (w.setRow r.cb (c.toList.take (r.dl + o) ++ us ++ c.toList.drop (r.dl + o + us.length)).toArray) := by
 obtain ⟨hone', c', e', fr', h1, h2, h3, h4, h5, h6⟩ := h.blk id b r hb hm
 rw [hc] at h1
 cases h1
 obtain ⟨_, hB⟩ := h4 hro
 have hlt : r.cb < w.heap.size := (Array.getElem?_eq_some_iff.1 hc).1
 have hul : us.length = vs.length := hv.1.symm
 have hcl : r.dl + o + us.length ≤ c.toList.length := by simp; omega
 have hother : ∀ k, k ≠ r.cb → (w.setRow r.cb (c.toList.take (r.dl + o) ++ us ++ c.toList.drop (r.dl + o + us.length)).toArray).heap[k]? = w.heap[k]? := fun k hk => setRow_other w r.cb k _ hk
 refine ⟨h.below.trans ⟨rfl, rfl, rfl, by simp [World.setRow], fun k hk => hother k (by omega)⟩, h.dom, fun i d hd => ?_, fun i d s hd hs => ?_, fun i j d d' s s' hd hd' => ?_⟩
 ·by_cases hi : i = id
  ·exact hi ▸ h.dom id r hm
  ·exact h.live i d (by simpa [St.set, hi] using hd)
 ·by_cases hi : i = id
  ·subst hi
   simp [St.set] at hd
   subst hd
   rw [hm] at hs
   cases hs
   refine ⟨ow_one hone' hone o, _, e, (0, 0), setRow_heap w r.cb c _ e (0, 0) hc, ?_, by simp [ow_length, h3], fun _ => ⟨rfl, hB⟩, fun hx => (by simp [hro] at hx), fun k v hv' => ?_⟩
   ·simp only [List.size_toArray, List.length_append, List.length_take, List.length_drop, Array.length_toList]; simp at hcl; omega
   ·rw [← ow_eq us c.toList (r.dl + o) hcl]
    have key : ∀ (vs us : List Value) (cs : List Value) (ds : List Value) (o : Nat), LRel m vs us → (∀ (k : Nat) v, cs[k]? = some v → ∃ u, ds[r.dl + k]? = some u ∧ VRel m v u) →
      ∀ (k : Nat) v, (Go.Proofs.YtegaklgjcicnfaaGreat.Abs.ow cs o vs)[k]? = some v → ∃ u, (Go.Proofs.YtegaklgjcicnfaaGreat.Abs.ow ds (r.dl + o) us)[r.dl + k]? = some u ∧ VRel m v u := by
     intro vs
     induction vs with
     | nil =>
      intro us cs ds o hvu hcd
      have : us = [] := List.eq_nil_of_length_eq_zero (by have := hvu.1; simp at this; omega)
      subst this; exact hcd
     | cons v vs ih =>
      intro us cs ds o hvu hcd
      cases us with
      | nil => have := hvu.1; simp at this
      | cons u us =>
       refine ih us (cs.set o v) (ds.set (r.dl + o) u) (o + 1) ⟨by have := hvu.1; simpa using this, fun i a b ha hb => hvu.2 (i + 1) a b (by simpa using ha) (by simpa using hb)⟩ (fun k x hx => ?_)
       rw [List.getElem?_set] at hx ⊢
       by_cases hok : o = k
       ·subst hok
        simp only [if_true] at hx ⊢
        split at hx
        ·rename_i hol
         cases hx
         obtain ⟨u', hu', _⟩ := hcd o cs[o] (List.getElem?_eq_getElem hol)
         have : r.dl + o < ds.length := (List.getElem?_eq_some_iff.1 hu').1
         rw [if_pos this]
         exact ⟨u, rfl, hvu.2 0 _ _ rfl rfl⟩
        ·cases hx
       ·rw [if_neg hok] at hx
        rw [if_neg (by omega)]
        exact hcd k x hx
    have := key vs us b.cells c.toList o hv (fun k v hk => by simpa using h6 k v hk) k v hv'
    simpa using this
  ·simp [St.set, hi] at hd
   have hks := h.blk i d s hd hs
   refine hks.world (hother _ ?_)
   intro hcb
   obtain ⟨_, _, _, _, _, _, _, g4, g5, _⟩ := hks
   cases hdro : d.ro with
   | true => have := g5 hdro; omega
   | false => exact hi (h.inj i id d b s r hd hb hdro hro hs hm hcb)
 ·have key : ∀ k x, (S.set id { b with cells := Go.Proofs.YtegaklgjcicnfaaGreat.Abs.ow b.cells o vs }).blk k = some x → ∃ y, S.blk k = some y ∧ y.ro = x.ro := by
   intro k x hx
   by_cases hk : k = id
   ·subst hk; simp [St.set] at hx; subst hx; exact ⟨b, hb, rfl⟩
   ·simp [St.set, hk] at hx; exact ⟨x, hx, rfl⟩
  obtain ⟨y, hy, hyr⟩ := key i d hd
  obtain ⟨y', hy', hyr'⟩ := key j d' hd'
  intro p1 p2
  exact h.inj i j y y' s s' hy hy' (by rw [hyr]; exact p1) (by rw [hyr']; exact p2)
/-! What a call leaves alone: all that no live name of the caller's own stands for. -/
def Claimed (S : St) (m : LMap) (B : Nat) : Prop := ∃ id b r, S.blk id = some b ∧ b.ro = false ∧ m id = some r ∧ r.cb = B
structure Frame (S : St) (m : LMap) (w : World) (S' : St) (m' : LMap) (w' : World) : Prop where
 size : w.heap.size ≤ w'.heap.size
 same : ∀ B, B < w.heap.size → ¬ Claimed S m B → w'.heap[B]? = w.heap[B]? ∧ ¬ Claimed S' m' B
 nx : S.next ≤ S'.next
 ghost : ∀ id, id < S.next → m id = none → m' id = none ∧ S'.blk id = S.blk id
theorem Frame.refl (S : St) (m : LMap) (w : World) : Frame S m w S m w := ⟨Nat.le_refl _, fun _ _ h => ⟨rfl, h⟩, Nat.le_refl _, fun _ _ h => ⟨h, rfl⟩⟩
theorem Frame.trans {S S' S'' : St} {m m' m'' : LMap} {w w' w'' : World} (h : Frame S m w S' m' w') (k : Frame S' m' w' S'' m'' w'') : Frame S m w S'' m'' w'' :=
 ⟨Nat.le_trans h.size k.size, fun B hB hc => by
  obtain ⟨h1, h2⟩ := h.same B hB hc
  obtain ⟨k1, k2⟩ := k.same B (Nat.lt_of_lt_of_le hB h.size) h2
  exact ⟨k1.trans h1, k2⟩, Nat.le_trans h.nx k.nx, fun id hi hm => by
  obtain ⟨h1, h2⟩ := h.ghost id hi hm
  obtain ⟨k1, k2⟩ := k.ghost id (Nat.lt_of_lt_of_le hi h.nx) h1
  exact ⟨k1, k2.trans h2⟩⟩
theorem Frame.drew {S : St} {m : LMap} {w : World} : Frame S m w S m w.drew := ⟨Nat.le_refl _, fun _ _ h => ⟨rfl, h⟩, Nat.le_refl _, fun _ _ h => ⟨h, rfl⟩⟩
theorem Frame.kill {S S' : St} {m m' : LMap} {w w' : World} (h : Frame S m w S' m' w') (id : Nat) {r : Loc} (hr : m' id = some r) : Frame S m w (S'.kill id) m' w' :=
 ⟨h.size, fun B hB hc => ⟨(h.same B hB hc).1, fun ⟨i, b, r, h1, h2, h3, h4⟩ => (h.same B hB hc).2 ⟨i, b, r, by
  unfold St.kill at h1
  simp only at h1
  split at h1
  ·cases h1
  ·exact h1, h2, h3, h4⟩⟩, h.nx, fun i hi hm => by
  obtain ⟨h1, h2⟩ := h.ghost i hi hm
  refine ⟨h1, ?_⟩
  have : i ≠ id := fun e => by rw [e, hr] at h1; cases h1
  simp only [St.kill, if_neg this]
  exact h2⟩
theorem Frame.new (S : St) (m : LMap) (w : World) (b : Blk) (k : Nat) (c : Array Value) (e : TypeId) : Frame S m w (S.new b) (m.ext S.next ⟨w.heap.size, 0, k⟩) (w.alloc (.cells c e)) :=
 ⟨by simp, fun B hB hc => ⟨Below.heap_alloc _ _ _ hB, fun ⟨i, d, r, h1, h2, h3, h4⟩ => hc (by
  by_cases hi : i = S.next
  ·subst hi
   simp [LMap.ext] at h3
   subst h3
   simp at h4
   omega
  ·refine ⟨i, d, r, ?_, h2, ?_, h4⟩
   ·simpa [St.new, hi] using h1
   ·simpa [LMap.ext, hi] using h3)⟩, by simp [St.new], fun i hi hm => by simp [LMap.ext, St.new, Nat.ne_of_lt hi, hm]⟩
theorem setRow_size (w : World) (k : Nat) (c : Array Value) : (w.setRow k c).heap.size = w.heap.size := by simp [World.setRow]
theorem Frame.write {S : St} {m : LMap} (w : World) {id : Nat} {b : Blk} {r : Loc} (hb : S.blk id = some b) (hro : b.ro = false) (hm : m id = some r) (b' : Blk) (hro' : b'.ro = b.ro) (c : Array Value) :
  Frame S m w (S.set id b') m (w.setRow r.cb c) :=
 ⟨Nat.le_of_eq (setRow_size _ _ _).symm, fun B hB hc => ⟨setRow_other w r.cb B c fun e => hc ⟨id, b, r, hb, hro, hm, e.symm⟩, fun ⟨i, d, s, h1, h2, h3, h4⟩ => hc (by
  by_cases hi : i = id
  ·subst hi
   rw [hm] at h3
   cases h3
   exact ⟨i, b, r, hb, hro, hm, h4⟩
  ·exact ⟨i, d, s, by simpa [St.set, hi] using h1, h2, h3, h4⟩)⟩, Nat.le_refl _, fun i _ hn => ⟨hn, by
  have : i ≠ id := fun e => by rw [e, hm] at hn; cases hn
  simp only [St.set, if_neg this]⟩⟩
theorem Frame.regrow {S : St} {m : LMap} (w : World) {id : Nat} {b : Blk} {r : Loc} (hb : S.blk id = some b) (hro : b.ro = false) (hm : m id = some r) (b' : Blk) (o k : Nat) (c : Array Value) :
  Frame S m w ((S.kill id).new b') (m.ext S.next ⟨r.cb, o, k⟩) (w.setRow r.cb c) :=
 ⟨Nat.le_of_eq (setRow_size _ _ _).symm, fun B hB hc => ⟨setRow_other w r.cb B c fun e => hc ⟨id, b, r, hb, hro, hm, e.symm⟩, fun ⟨i, d, s, h1, h2, h3, h4⟩ => hc (by
  by_cases hi : i = S.next
  ·subst hi
   simp [LMap.ext] at h3
   subst h3
   exact ⟨id, b, r, hb, hro, hm, h4⟩
  ·refine ⟨i, d, s, ?_, h2, by simpa [LMap.ext, hi] using h3, h4⟩
   simp only [St.new, St.kill, hi, if_false] at h1
   split at h1
   ·cases h1
   ·exact h1)⟩, by simp [St.new, St.kill], fun i hi hn => by
  have : i ≠ id := fun e => by rw [e, hm] at hn; cases hn
  simp [LMap.ext, St.new, St.kill, Nat.ne_of_lt hi, hn, this]⟩
end Go.Proofs.YtegaklgjcicnfaaGreat.Abs
namespace Go.Proofs.YtegaklgjcicnfaaGreat.Abs
open Go Go.RowKit
abbrev Env := Nat → Value
def Env.put (t : Env) (d : Option Nat) (v : Value) : Env := match d with
 | some d => fun i => if i = d then v else t i
 | none => t
def ev (t : Env) : Operand → Value
 | .tmp i => t i
 | .const v => v
 | .global g => .pointer (some ⟨g, 0, none⟩)
 | .func f => .func (.func f) #[] #[]
def atomOk : Value → Bool
 | .bool _ | .int _ _ | .string _ | .pointer none | .slice none 0 0 | .nilFunc | .nilIface => true
 | _ => false
def constOk : Value → Bool
 | .agg cs => cs.all atomOk
 | v => atomOk v
theorem atomOk_rel (m : LMap) {v : Value} (h : atomOk v = true) : VRel m v v ∧ v.oneCell' = true := by
 unfold atomOk at h
 split at h
 ·exact ⟨.bool _, rfl⟩
 ·exact ⟨.int _ _, rfl⟩
 ·exact ⟨.string _, rfl⟩
 ·exact ⟨.pnil, rfl⟩
 ·exact ⟨.snil, rfl⟩
 ·exact ⟨.nilFunc, rfl⟩
 ·exact ⟨.nilIface, rfl⟩
 ·cases h
theorem constOk_rel (m : LMap) {v : Value} (h : constOk v = true) : VRel m v v := by
 unfold constOk at h
 split at h
 ·rename_i cs
  have hc : ∀ x ∈ cs, atomOk x = true := fun x hx => Array.all_eq_true_iff_forall_mem.1 h x hx
  refine .agg rfl (fun x hx => (atomOk_rel m (hc x hx)).2) fun i x y hx hy => ?_
  rw [hx] at hy; cases hy
  exact (atomOk_rel m (hc x (Array.mem_of_getElem? hx))).1
 ·exact (atomOk_rel m h).1
/-! ### Operations that only compute -/
inductive PO where
 | mov (x : Operand)
 | pick (c a b : Operand)
 | nilchk (x : Operand)
 | int2 (op : BinOp) (x y : Operand)
 | eqn (kind : Nat) (neg : Bool) (x : Operand)
 | eqb (neg : Bool) (x y : Operand)
 | eqs (neg : Bool) (x y : Operand)
 | eqa (sg : List Bool) (neg : Bool) (x y : Operand)
 | un (op : UnOp) (x : Operand)
 | conv (k : IntKind) (x : Operand)
 | fieldAddr (off : Nat) (x : Operand)
 | field (off sz : Nat) (agg : Bool) (x : Operand)
 | idxA (len esz : Nat) (x i : Operand)
 | idxS (esz : Nat) (x i : Operand)
 | idxV (len esz : Nat) (agg : Bool) (x i : Operand)
 | build (z : List Value) (parts : List (Nat × Nat × Operand))
 | sliceS (esz : Nat) (x : Operand) (lo hi : Option Operand)
 | sliceA (len : Nat) (x : Operand)
 | extract (x : Operand) (i : Nat)
 | lenS (x : Operand)
 | lenC (n : Nat)
 | minmax (mx : Bool) (x y : Operand)
 | mkFunc (f : Nat) (first cap : List Operand)
 | mkIface (t : TypeId) (x : Operand)
 | tassert (t : TypeId) (z : Value) (x : Operand)
inductive HO where
 | load (sz : Nat) (agg : Bool) (x : Operand)
 | store (sz : Nat) (x v : Operand)
 | box (x : Operand)
 | alloc (z : List Value)
 | buildSlice (esz len : Nat) (z : List Value) (parts : List (Nat × Nat × Operand))
 | makeSlice (esz bytes : Nat) (z : List Value) (l c : Operand)
 | append (esz bytes : Nat) (x y : Operand)
 | b2s (x : Operand)
 | clear (z : List Value) (x : Operand)
def int2 (op : BinOp) (k : IntKind) (a : Int) (k' : IntKind) (b : Int) : Option Value :=
 match op with
 | .shl => if b < 0 then none else some (.int k (k.wrap (a * 2 ^ (min b.toNat k.bits))))
 | .shr => if b < 0 then none else some (.int k (a.fdiv (2 ^ (min b.toNat k.bits))))
 | .add => if k = k' then some (.int k (k.wrap (a + b))) else none
 | .sub => if k = k' then some (.int k (k.wrap (a - b))) else none
 | .mul => if k = k' then some (.int k (k.wrap (a * b))) else none
 | .quo => if k = k' then (if b = 0 then none else some (.int k (k.wrap (a.tdiv b)))) else none
 | .rem => if k = k' then (if b = 0 then none else some (.int k (a.tmod b))) else none
 | .and => if k = k' then some (.int k (k.wrap (BitVec.ofInt k.bits a &&& BitVec.ofInt k.bits b).toNat)) else none
 | .or => if k = k' then some (.int k (k.wrap (BitVec.ofInt k.bits a ||| BitVec.ofInt k.bits b).toNat)) else none
 | .xor => if k = k' then some (.int k (k.wrap (BitVec.ofInt k.bits a ^^^ BitVec.ofInt k.bits b).toNat)) else none
 | .andNot => if k = k' then some (.int k (k.wrap (BitVec.ofInt k.bits a &&& ~~~BitVec.ofInt k.bits b).toNat)) else none
 | .eql => if k = k' then some (.bool (a == b)) else none
 | .neq => if k = k' then some (.bool (a != b)) else none
 | .lss => if k = k' then some (.bool (decide (a < b))) else none
 | .leq => if k = k' then some (.bool (decide (a ≤ b))) else none
 | .gtr => if k = k' then some (.bool (decide (a > b))) else none
 | .geq => if k = k' then some (.bool (decide (a ≥ b))) else none
/-- Is a pointer (0), a slice (1), a function (2) nil? -/
def isNil : Nat → Value → Option Bool
 | 0, .pointer none => some true
 | 0, .pointer (some _) => some false
 | 1, .slice none 0 0 => some true
 | 1, .slice (some _) _ _ => some false
 | 2, .nilFunc => some true
 | 2, .func .. => some false
 | _, _ => none
/-- Are two rows of numbers (true) and bools (false) alike? -/
def flatEq : List Bool → List Value → List Value → Option Bool
 | [], [], [] => some true
 | true :: s, .int k a :: xs, .int k' b :: ys => if k = k' then (flatEq s xs ys).map fun r => a == b && r else none
 | false :: s, .bool a :: xs, .bool b :: ys => (flatEq s xs ys).map fun r => a == b && r
 | _, _, _ => none
def partL (agg : Bool) (off sz : Nat) (cs : List Value) : Option Value :=
 if agg then (if off + sz ≤ cs.length then some (.agg ((cs.drop off).take sz).toArray) else none) else cs[off]?
def fillL (cs : List Value) : List (Nat × Nat × Value) → Option (List Value)
 | [] => some cs
 | (o, sz, v) :: r => if v.cells.toList.length = sz ∧ o + sz ≤ cs.length ∧ storable v = true then fillL (ow cs o v.cells.toList) r else none
def bnd (ρ : Operand → Value) (d : Nat) : Option Operand → Option Nat
 | none => some d
 | some x => match ρ x with
  | .int _ i => if 0 ≤ i then some i.toNat else none
  | _ => none
def apure (ρ : Operand → Value) : PO → Option Value
 | .mov x => some (ρ x)
 | .pick c a b => match ρ c with
  | .bool r => some (if r then ρ a else ρ b)
  | _ => none
 | .nilchk x => match ρ x with
  | .pointer (some a) => some (.pointer (some a))
  | _ => none
 | .int2 op x y => match ρ x, ρ y with
  | .int k a, .int k' b => int2 op k a k' b
  | _, _ => none
 | .eqn kind neg x => (isNil kind (ρ x)).map fun b => .bool (b != neg)
 | .eqb neg x y => match ρ x, ρ y with
  | .bool a, .bool b => some (.bool ((a == b) != neg))
  | _, _ => none
 | .eqs neg x y => match ρ x, ρ y with
  | .string a, .string b => some (.bool ((a.toList == b.toList) != neg))
  | _, _ => none
 | .eqa sg neg x y => match ρ x, ρ y with
  | .agg a, .agg b => (flatEq sg a.toList b.toList).map fun r => .bool (r != neg)
  | _, _ => none
 | .un op x => match op, ρ x with
  | .not, .bool b => some (.bool (!b))
  | .neg, .int k n => some (.int k (k.wrap (0 - n)))
  | _, _ => none
 | .conv k x => match ρ x with
  | .int _ n => some (.int k (k.wrap n))
  | _ => none
 | .fieldAddr off x => match ρ x with
  | .pointer (some ⟨id, o, none⟩) => some (.pointer (some ⟨id, o + off, none⟩))
  | _ => none
 | .field off sz agg x => match ρ x with
  | .agg cs => partL agg off sz cs.toList
  | _ => none
 | .idxA len esz x i => match ρ x, ρ i with
  | .pointer (some ⟨id, o, none⟩), .int _ i => if 0 ≤ i ∧ i < (len : Int) then some (.pointer (some ⟨id, o + i.toNat * esz, none⟩)) else none
  | _, _ => none
 | .idxS esz x i => match ρ x, ρ i with
  | .slice (some ⟨id, o, none⟩) len _, .int _ i => if 0 ≤ i ∧ i < (len : Int) then some (.pointer (some ⟨id, o + i.toNat * esz, none⟩)) else none
  | _, _ => none
 | .idxV len esz agg x i => match ρ x, ρ i with
  | .agg cs, .int _ i => if 0 ≤ i ∧ i < (len : Int) then partL agg (i.toNat * esz) esz cs.toList else none
  | _, _ => none
 | .build z parts => (fillL z (parts.map fun p => (p.1, p.2.1, ρ p.2.2))).map fun cs => .agg cs.toArray
 | .sliceS esz x lo hi => match ρ x with
  | .slice none 0 0 => if bnd ρ 0 lo = some 0 ∧ bnd ρ 0 hi = some 0 then some (.slice none 0 0) else none
  | .slice (some ⟨id, o, none⟩) len e => match bnd ρ 0 lo, bnd ρ len hi with
   | some l, some h => if l ≤ h ∧ h ≤ len ∧ (e = 0 ∨ e = esz) then some (.slice (some ⟨id, o + l * esz, none⟩) (h - l) e) else none
   | _, _ => none
  | _ => none
 | .sliceA len x => match ρ x with
  | .pointer (some ⟨id, o, none⟩) => some (.slice (some ⟨id, o, none⟩) len 0)
  | _ => none
 | .extract x i => match ρ x with
  | .tuple vs => vs[i]?
  | _ => none
 | .lenS x => match ρ x with
  | .slice _ n _ => some (.int .i64 n)
  | _ => none
 | .lenC n => some (.int .i64 n)
 | .minmax mx x y => match ρ x, ρ y with
  | .int k a, .int _ b => some (.int k (if mx then (if b > a then b else a) else (if b < a then b else a)))
  | _, _ => none
 | .mkFunc f first cap => some (.func (.func f) (first.map ρ).toArray (cap.map ρ).toArray)
 | .mkIface t x => some (.iface t (ρ x))
 | .tassert t z x => match ρ x with
  | .iface t' v => some (.tuple (if t' = t then #[v, .bool true] else #[z, .bool false]))
  | .nilIface => some (.tuple #[z, .bool false])
  | _ => none
/-- The numbers of a row of bytes. -/
def numsOf : List Value → Option (List Int)
 | [] => some []
 | .int .u8 n :: r => (numsOf r).map (n :: ·)
 | _ => none
/-- The cells of a slice. -/
def cellsOf (S : St) (id o k : Nat) : Option (List Value) :=
 match S.blk id with
 | some b => if o + k ≤ b.cells.length then some ((b.cells.drop o).take k) else none
 | none => none
/-- One cell. -/
def rd (S : St) (id o : Nat) : Option Value :=
 match S.blk id with
 | some b => b.cells[o]?
 | none => none
/-- What is loaded. -/
def ldv (S : St) (agg : Bool) (id o sz : Nat) : Option Value :=
 match agg with
 | true => (cellsOf S id o sz).map fun cs => .agg cs.toArray
 | false => rd S id o
def doAppend (esz bytes : Nat) (x y : Value) (S : St) : Option (Value × St) :=
 match x, y with
  | .slice a len e, .slice none 0 0 => some (.slice a len e, S)
  | .slice a len e, .slice (some ⟨id', o', none⟩) n _ =>
   if n = 0 then some (.slice a len e, S) else
   if (len + n) * bytes ≤ 1099511627776 then
    match cellsOf S id' o' (n * esz) with
    | none => none
    | some new => match a with
     | none => if len = 0 ∧ e = 0 then some (.slice (some ⟨S.next, 0, none⟩) n esz, S.new ⟨false, new⟩) else none
     | some ⟨id, o, none⟩ => match S.blk id, cellsOf S id o (len * esz) with
      | some b, some old => if b.ro = false ∧ e = esz then some (.slice (some ⟨S.next, 0, none⟩) (len + n) esz, (S.kill id).new ⟨false, old ++ new⟩) else none
      | _, _ => none
     | _ => none
   else none
  | _, _ => none
/-- The string of a slice's bytes. -/
def b2sV (x : Value) (S : St) : Option (Value × St) :=
 match x with
  | .slice none 0 0 => some (.string .empty, S)
  | .slice (some ⟨id, o, none⟩) n _ => match cellsOf S id o n with
   | some cs => (numsOf cs).map fun ns => (.string (strOfNums ns), S)
   | none => none
  | _ => none
/-- The cells of a slice, made zero. -/
def clearV (z : List Value) (x : Value) (S : St) : Option (Value × St) :=
 match x with
  | .slice none 0 0 => some (undef, S)
  | .slice (some ⟨id, o, none⟩) n _ => if n = 0 then some (undef, S) else match S.blk id with
   | some b => if b.ro = false ∧ o + n * z.length ≤ b.cells.length then some (undef, S.set id { b with cells := ow b.cells o (Builtin.zeroCells z.toArray n).toList }) else none
   | none => none
  | _ => none
def aheap (ρ : Operand → Value) (S : St) : HO → Option (Value × St)
 | .load sz agg x => match ρ x with
  | .pointer (some ⟨id, o, none⟩) => (ldv S agg id o sz).map fun v => (v, S)
  | _ => none
 | .store sz x v => match ρ x with
  | .pointer (some ⟨id, o, none⟩) => match S.blk id with
   | some b => if b.ro = false ∧ (ρ v).cells.toList.length = sz ∧ o + sz ≤ b.cells.length ∧ storable (ρ v) = true then
     some (undef, S.set id { b with cells := ow b.cells o (ρ v).cells.toList }) else none
   | none => none
  | _ => none
 | .box x => if storable (ρ x) = true then some (.pointer (some ⟨S.next, 0, none⟩), S.new ⟨false, (ρ x).cells.toList⟩) else none
 | .alloc z => some (.pointer (some ⟨S.next, 0, none⟩), S.new ⟨false, z⟩)
 | .buildSlice esz len z parts => (fillL z (parts.map fun p => (p.1, p.2.1, ρ p.2.2))).map fun cs => (.slice (some ⟨S.next, 0, none⟩) len esz, S.new ⟨false, cs⟩)
 | .makeSlice esz bytes z l c => match ρ l, ρ c with
  | .int _ l, .int _ c => if 0 ≤ l ∧ l ≤ c ∧ c * bytes ≤ 1099511627776 then
    some (.slice (some ⟨S.next, 0, none⟩) l.toNat esz, S.new ⟨false, (madeCells z.toArray (c.toNat * esz)).toList⟩) else none
  | _, _ => none
 | .append esz bytes x y => doAppend esz bytes (ρ x) (ρ y) S
 | .b2s x => b2sV (ρ x) S
 | .clear z x => clearV z (ρ x) S
end Go.Proofs.YtegaklgjcicnfaaGreat.Abs
namespace Go.Proofs.YtegaklgjcicnfaaGreat.Abs
open Go Go.RowKit
def szT (P : Program) (t : TypeId) : Option Nat := (P.info? t).map (·.size)
def aggT (P : Program) (t : TypeId) : Option Bool :=
 match P.underlying t with
 | some (.struct _) => some true
 | some (.array _ _) => some true
 | some _ => some false
 | none => none
/-- The literal nil, of a kind. -/
def nilKind : TypeDesc → Operand → Option Nat
 | .pointer _, .const (.pointer none) => some 0
 | .slice _, .const (.slice none 0 0) => some 1
 | .func .., .const .nilFunc => some 2
 | _, _ => none
/-- The cells of a type of numbers (true) and bools (false) alone; none: it isn't such a one. -/
def flatT (P : Program) : Nat → TypeId → Option (List Bool)
 | 0, _ => none
 | d + 1, t =>
  match P.underlying t with
  | some (.int _) => some [true]
  | some .bool => some [false]
  | some (.struct fs) => if P.stoodInHeld t then none else
    fs.toList.foldl (fun acc f => acc.bind fun sg =>
     if f.name ≠ "_" ∧ f.offset = sg.length then (flatT P d f.type).bind fun s => if szT P f.type = some s.length then some (sg ++ s) else none else none) (some [])
  | some (.array n e) => (flatT P d e).bind fun s => if szT P e = some s.length then some (List.replicate n s).flatten else none
  | _ => none
def enters (P : Program) (f : FuncId) : Bool :=
 match P.funcs[f]? with
 | some fn => fn.name != "runtime.NumGoroutine" && fn.body.isSome
 | none => false
def fieldPl (P : Program) (fs : Array Field) (p : Nat × Operand) : Option (Nat × Nat × Operand) :=
 match fs[p.1]? with
 | some f => (szT P f.type).map fun s => (f.offset, s, p.2)
 | none => none
def eqk : BinOp → PO → PO → Option PO
 | .eql, a, _ => some a
 | .neq, _, b => some b
 | _, _, _ => none
def compBin (P : Program) (op : BinOp) (t : TypeId) (x y : Operand) : Option PO :=
 match P.underlying t with
 | none => none
 | some d => match d with
  | .int _ => some (.int2 op x y)
  | .bool => eqk op (.eqb false x y) (.eqb true x y)
  | .string => eqk op (.eqs false x y) (.eqs true x y)
  | .struct _ | .array _ _ => if P.eqGuardType P.depth t = false then (flatT P 20 t).bind fun sg => eqk op (.eqa sg false x y) (.eqa sg true x y) else none
  | d => (nilKind d y).bind fun k => eqk op (.eqn k false x) (.eqn k true x)
def compConv (P : Program) (src dst : TypeId) (x : Operand) : Option PO :=
 match P.underlying src with
 | some (.int _) => match P.underlying dst with
  | some (.int k) => some (.conv k x)
  | _ => none
 | _ => none
def fieldOf (P : Program) (s : TypeId) (f : Nat) : Option Field :=
 match P.underlying s with
 | some (.struct fs) => fs[f]?
 | _ => none
def compFieldAddr (P : Program) (s : TypeId) (x : Operand) (f : Nat) : Option PO :=
 (fieldOf P s f).bind fun fd => (szT P fd.type).bind fun n => if n = 0 then none else some (.fieldAddr fd.offset x)
def compField (P : Program) (s : TypeId) (x : Operand) (f : Nat) : Option PO :=
 (fieldOf P s f).bind fun fd => (szT P fd.type).bind fun sz => (aggT P fd.type).bind fun ag => some (.field fd.offset sz ag x)
def compIndexAddr (P : Program) (t : TypeId) (x i : Operand) : Option PO :=
 match P.underlying t with
 | some (.array n e) => (szT P e).map fun sz => .idxA n sz x i
 | some (.slice e) => (szT P e).map fun sz => .idxS sz x i
 | _ => none
def compIndex (P : Program) (t : TypeId) (x i : Operand) : Option PO :=
 match P.underlying t with
 | some (.array n e) => (szT P e).bind fun sz => (aggT P e).bind fun ag => some (.idxV n sz ag x i)
 | _ => none
def zeroT (P : Program) (t : TypeId) : Option Value := (P.info? t).bind (·.zero)
def compBuild (P : Program) (t : TypeId) (parts : Array (Nat × Operand)) : Option PO :=
 (zeroT P t).bind fun z => if constOk z = true then
  (match P.underlying t with
  | some (.struct fs) => if fs.toList.all (fun f => (szT P f.type).isSome) = true then (parts.toList.mapM (fieldPl P fs)).map fun ps => .build z.cells.toList ps else none
  | some (.array _ e) => (szT P e).map fun sz => .build z.cells.toList (parts.toList.map fun p => (p.1 * sz, sz, p.2))
  | _ => none)
 else none
def compSlice (P : Program) (t : TypeId) (x : Operand) (lo hi mx : Option Operand) : Option PO :=
 match mx with
 | some _ => none
 | none => match P.underlying t with
  | some (.array n e) => if lo.isNone = true ∧ hi.isNone = true then (szT P e).map fun _ => .sliceA n x else none
  | some (.slice e) => (szT P e).map fun sz => .sliceS sz x lo hi
  | _ => none
def compLen (P : Program) (args : List Operand) (ts : List TypeId) : Option PO :=
 match args, ts with
 | [x], [t] => match P.underlying t with
  | some (.slice _) => some (.lenS x)
  | some (.array n _) => some (.lenC n)
  | _ => none
 | _, _ => none
def compMinmax (mx : Bool) : List Operand → Option PO
 | [x, y] => some (.minmax mx x y)
 | _ => none
def compCall (P : Program) (c : Call) : Option PO :=
 match c.callee with
 | .builtin .len => compLen P c.args.toList c.argTypes.toList
 | .builtin .max => compMinmax true c.args.toList
 | .builtin .min => compMinmax false c.args.toList
 | _ => none
def compP (P : Program) : Op → Option PO
 | .move x => some (.mov x)
 | .assign x => some (.mov x)
 | .pick c a b => some (.pick c a b)
 | .nilCheck x => some (.nilchk x)
 | .binOp op t x y _ => compBin P op t x y
 | .unOp op _ x => some (.un op x)
 | .convert src dst x => compConv P src dst x
 | .fieldAddr s x f => compFieldAddr P s x f
 | .field s x f => compField P s x f
 | .indexAddr t x i => compIndexAddr P t x i
 | .index t x i => compIndex P t x i
 | .build t parts => compBuild P t parts
 | .slice t x lo hi mx => compSlice P t x lo hi mx
 | .extract x i => some (.extract x i)
 | .makeFunc (.func f) first cap => some (.mkFunc f first.toList cap.toList)
 | .makeInterface t x => match P.underlying t with
  | none => none
  | some d => match d with
   | .interface _ => none
   | _ => some (.mkIface t x)
 | .typeAssert x _ t ok => if ok = true then (match P.underlying t with
  | none => none
  | some d => match d with
   | .interface _ => none
   | _ => (zeroT P t).bind fun z => if constOk z = true then some (.tassert t z x) else none) else none
 | .call c => compCall P c
 | _ => none
def PO.operands : PO → List Operand
 | .mov x | .nilchk x | .eqn _ _ x | .un _ x | .conv _ x | .fieldAddr _ x | .field _ _ _ x | .sliceA _ x | .extract x _ | .lenS x | .mkIface _ x | .tassert _ _ x => [x]
 | .pick c a b => [c, a, b]
 | .int2 _ x y | .eqb _ x y | .eqs _ x y | .eqa _ _ x y | .idxA _ _ x y | .idxS _ x y | .idxV _ _ _ x y | .minmax _ x y => [x, y]
 | .build _ ps => ps.map (·.2.2)
 | .sliceS _ x lo hi => [x] ++ lo.toList ++ hi.toList
 | .lenC _ => []
 | .mkFunc _ first cap => first ++ cap
/-- The abstract environment against the machine's, at all operands that an operation names. -/
def Sees (m : LMap) (ρ ρ' : Operand → Value) (xs : List Operand) : Prop := ∀ x ∈ xs, VRel m (ρ x) (ρ' x)
section lemmas
variable {m : LMap}
theorem VRel.of_int {k : IntKind} {n : Int} {v u : Value} (h : VRel m v u) (e : v = .int k n) : u = .int k n := by subst e; cases h; rfl
theorem VRel.of_bool {b : Bool} {v u : Value} (h : VRel m v u) (e : v = .bool b) : u = .bool b := by subst e; cases h; rfl
theorem VRel.of_string {s : ByteArray} {v u : Value} (h : VRel m v u) (e : v = .string s) : u = .string s := by subst e; cases h; rfl
theorem VRel.of_agg {cs : Array Value} {v u : Value} (h : VRel m v u) (e : v = .agg cs) : ∃ ds, u = .agg ds ∧ ARel m cs ds ∧ ∀ x ∈ cs, x.oneCell' = true := by
 subst e; cases h; rename_i h1 ho h2; exact ⟨_, rfl, ⟨h1, h2⟩, ho⟩
theorem VRel.of_tuple {cs : Array Value} {v u : Value} (h : VRel m v u) (e : v = .tuple cs) : ∃ ds, u = .tuple ds ∧ ARel m cs ds := by
 subst e; cases h; rename_i h1 h2; exact ⟨_, rfl, ⟨h1, h2⟩⟩
theorem VRel.of_ptr {id o : Nat} {v u : Value} (h : VRel m v u) (e : v = .pointer (some ⟨id, o, none⟩)) : ∃ r, m id = some r ∧ u = .pointer (some ⟨r.cb, r.dl + o, none⟩) := by
 subst e; cases h; rename_i r hr; exact ⟨r, hr, rfl⟩
theorem VRel.of_slice {id o len e : Nat} {v u : Value} (h : VRel m v u) (he : v = .slice (some ⟨id, o, none⟩) len e) :
  ∃ r, m id = some r ∧ ((∃ cap, u = .slice (some ⟨r.cb, r.dl + o, none⟩) len cap ∧ len ≤ cap ∧ (e = 0 ∨ r.dl + o + cap * e ≤ r.csz ∧ cap ≤ 9223372036854775807)) ∨ (len = 0 ∧ ∃ a, u = .slice (some a) 0 0)) := by
 subst he
 cases h with
 | slice h hl hc => exact ⟨_, h, .inl ⟨_, rfl, hl, hc⟩⟩
 | sempty h e a => exact ⟨_, h, .inr ⟨rfl, a, rfl⟩⟩
theorem VRel.of_snil {v u : Value} {l c : Nat} (h : VRel m v u) (he : v = .slice none l c) : l = 0 ∧ c = 0 ∧ u = .slice none 0 0 := by
 subst he; cases h; exact ⟨rfl, rfl, rfl⟩
theorem addr_add (cb o n : Nat) : (⟨cb, o, none⟩ : Addr).add n = ⟨cb, o + n, none⟩ := by
 unfold Addr.add
 split
 ·rename_i h; subst h; rfl
 ·rfl
theorem partL_rel {agg : Bool} {off sz : Nat} {cs ds : List Value} (h : LRel m cs ds) (ho : ∀ x ∈ cs, x.oneCell' = true) {v : Value} (hv : partL agg off sz cs = some v) :
  ∃ u, partL agg off sz ds = some u ∧ VRel m v u := by
 unfold partL at hv ⊢
 cases agg with
 | true =>
  simp only [if_true] at hv ⊢
  split at hv
  ·rename_i hl
   cases hv
   rw [if_pos (by rw [← h.1]; exact hl)]
   refine ⟨_, rfl, ?_⟩
   have hr := ARel.of_list ((h.drop off).take sz)
   exact .agg hr.1 (fun x hx => ho x (by simp at hx; exact List.mem_of_mem_drop (List.mem_of_mem_take hx))) hr.2
  ·cases hv
 | false =>
  simp only [Bool.false_eq_true, if_false] at hv ⊢
  exact h.get hv
theorem fillL_rel {cs ds : List Value} (h : LRel m cs ds) (ho : ∀ x ∈ cs, x.oneCell' = true) :
  ∀ (ps qs : List (Nat × Nat × Value)), ps.length = qs.length → (∀ (i : Nat) p q, ps[i]? = some p → qs[i]? = some q → p.1 = q.1 ∧ p.2.1 = q.2.1 ∧ VRel m p.2.2 q.2.2) →
  ∀ {vs}, fillL cs ps = some vs → ∃ us, fillL ds qs = some us ∧ LRel m vs us ∧ ∀ x ∈ vs, x.oneCell' = true := by
 intro ps
 induction ps generalizing cs ds with
 | nil =>
  intro qs hl _ vs hv
  have : qs = [] := List.eq_nil_of_length_eq_zero (by simpa using hl.symm)
  subst this
  simp [fillL] at hv ⊢
  subst hv
  exact ⟨h, ho⟩
 | cons p ps ih =>
  intro qs hl hq vs hv
  cases qs with
  | nil => simp at hl
  | cons q qs =>
   obtain ⟨e1, e2, hr⟩ := hq 0 p q rfl rfl
   obtain ⟨o, sz, v⟩ := p
   obtain ⟨o', sz', u⟩ := q
   simp only at e1 e2 hr
   subst e1; subst e2
   simp only [fillL] at hv ⊢
   split at hv
   ·rename_i hc
    obtain ⟨c1, c2, c3⟩ := hc
    have hcr := hr.cells
    have hst : storable u = true := by cases hr <;> first | rfl | (simp [storable] at c3)
    rw [if_pos ⟨by rw [← hcr.1]; exact c1, by rw [← h.1]; exact c2, hst⟩]
    exact ih (h.ow hcr o) (ow_one ho (hr.cells_one c3) o) qs (by simpa using hl) (fun i a b ha hb => hq (i + 1) a b (by simpa using ha) (by simpa using hb)) hv
   ·cases hv
theorem run_part (P : Program) (w : World) (t : TypeId) (cs : List Value) (off sz : Nat) (agg : Bool) (hs : szT P t = some sz) (ha : aggT P t = some agg) {v : Value}
  (hv : partL agg off sz cs = some v) : (part t cs.toArray off).run P w = .ok v w := by
 unfold szT at hs
 obtain ⟨i, hi, hsz⟩ := Option.map_eq_some_iff.1 hs
 unfold aggT at ha
 cases hu : P.underlying t with
 | none => simp [hu] at ha
 | some d =>
  unfold partL at hv
  have hag : (isAgg t).run P w = .ok agg w := by
   unfold isAgg
   simp only [Sem.run_bind, run_underlying hu, Result.andThen_ok]
   cases d <;> simp [hu] at ha <;> subst ha <;> rfl
  unfold part
  simp only [Sem.run_bind, hag, Result.andThen_ok]
  cases agg with
  | true =>
   simp only [if_true] at hv ⊢
   split at hv
   ·cases hv
    simp only [sizeOf, typeInfo, Sem.run_bind, run_program, hi, Result.andThen_ok, Sem.run_pure, hsz]
    congr 2
    simp [List.extract_toArray, List.extract_eq_take_drop]
   ·cases hv
  | false =>
   simp only [Bool.false_eq_true, if_false] at hv ⊢
   rw [List.getElem?_toArray, hv]
   rfl
end lemmas
end Go.Proofs.YtegaklgjcicnfaaGreat.Abs
namespace Go.Proofs.YtegaklgjcicnfaaGreat.Abs
open Go Go.RowKit
/-! equality of flat values -/
theorem flatEq_cons {b : Bool} {sg : List Bool} {xs ys : List Value} {r : Bool} (h : flatEq (b :: sg) xs ys = some r) :
  ∃ x xs' y ys' c r', xs = x :: xs' ∧ ys = y :: ys' ∧ flatEq sg xs' ys' = some r' ∧ r = (c && r') ∧
   ((b = true ∧ ∃ k a d, x = .int k a ∧ y = .int k d ∧ c = (a == d)) ∨ (b = false ∧ ∃ a d, x = .bool a ∧ y = .bool d ∧ c = (a == d))) := by
 cases b with
 | true =>
  cases xs with
  | nil => simp [flatEq] at h
  | cons x xs =>
   cases ys with
   | nil => cases x <;> simp [flatEq] at h
   | cons y ys =>
    cases x <;> cases y <;> first | (simp [flatEq] at h; done) | skip
    simp only [flatEq] at h
    split at h
    ·rename_i hk
     subst hk
     obtain ⟨r', h1, rfl⟩ := Option.map_eq_some_iff.1 h
     exact ⟨_, _, _, _, _, _, rfl, rfl, h1, rfl, .inl ⟨rfl, _, _, _, rfl, rfl, rfl⟩⟩
    ·cases h
 | false =>
  cases xs with
  | nil => simp [flatEq] at h
  | cons x xs =>
   cases ys with
   | nil => cases x <;> simp [flatEq] at h
   | cons y ys =>
    cases x <;> cases y <;> first | (simp [flatEq] at h; done) | skip
    simp only [flatEq] at h
    obtain ⟨r', h1, rfl⟩ := Option.map_eq_some_iff.1 h
    exact ⟨_, _, _, _, _, _, rfl, rfl, h1, rfl, .inr ⟨rfl, _, _, rfl, rfl, rfl⟩⟩
theorem flatEq_len : ∀ (sg : List Bool) (xs ys : List Value) {r : Bool}, flatEq sg xs ys = some r → xs.length = sg.length ∧ ys.length = sg.length ∧ (∀ x ∈ xs, x.oneCell' = true) ∧ (∀ x ∈ ys, x.oneCell' = true) := by
 intro sg
 induction sg with
 | nil =>
  intro xs ys r h
  cases xs <;> cases ys <;> simp [flatEq] at h
  simp
 | cons b sg ih =>
  intro xs ys r h
  obtain ⟨x, xs', y, ys', c, r', rfl, rfl, h1, _, h2⟩ := flatEq_cons h
  obtain ⟨a1, a2, a3, a4⟩ := ih _ _ h1
  refine ⟨by simp [a1], by simp [a2], ?_, ?_⟩
  ·intro z hz; simp at hz; rcases hz with rfl | hz
   ·rcases h2 with ⟨_, _, _, _, rfl, _, _⟩ | ⟨_, _, _, rfl, _, _⟩ <;> rfl
   ·exact a3 z hz
  ·intro z hz; simp at hz; rcases hz with rfl | hz
   ·rcases h2 with ⟨_, _, _, _, _, rfl, _⟩ | ⟨_, _, _, _, rfl, _⟩ <;> rfl
   ·exact a4 z hz
theorem flatEq_append : ∀ (s s' : List Bool) (xs ys : List Value) {r : Bool}, flatEq (s ++ s') xs ys = some r →
  ∃ a b, flatEq s (xs.take s.length) (ys.take s.length) = some a ∧ flatEq s' (xs.drop s.length) (ys.drop s.length) = some b ∧ r = (a && b) := by
 intro s
 induction s with
 | nil => intro s' xs ys r h; exact ⟨true, r, rfl, by simpa using h, by simp⟩
 | cons b s ih =>
  intro s' xs ys r h
  obtain ⟨x, xs', y, ys', c, r', rfl, rfl, h1, rfl, h2⟩ := flatEq_cons h
  obtain ⟨a, d, ha, hd, rfl⟩ := ih s' xs' ys' h1
  refine ⟨c && a, d, ?_, by simpa using hd, by simp [Bool.and_assoc]⟩
  rcases h2 with ⟨rfl, k, p, q, rfl, rfl, rfl⟩ | ⟨rfl, p, q, rfl, rfl, rfl⟩ <;> simp [flatEq, ha]
/-- A value of a flat type: its cells, and whether it is a row of cells. -/
def Fits (P : Program) (t : TypeId) (v : Value) : Prop := (aggT P t = some true → ∃ cs, v = .agg cs) ∧ (aggT P t = some false → v.cells = #[v])
theorem flat_agg {P : Program} {d : Nat} {t : TypeId} {n : List Bool} (h : flatT P d t = some n) : ∃ b, aggT P t = some b ∧ (b = false → n.length = 1) := by
 cases d with
 | zero => simp [flatT] at h
 | succ d =>
  unfold flatT at h
  unfold aggT
  cases hu : P.underlying t with
  | none => simp [hu] at h
  | some x => cases x <;> simp [hu] at h ⊢ <;> (subst h; rfl)
/-- A part of a flat value fits its type, and is the cells from its place on. -/
theorem run_part_flat (P : Program) (w : World) {d : Nat} {t : TypeId} {n : List Bool} (hf : flatT P d t = some n) (hs : szT P t = some n.length) (cs : List Value) (off : Nat) (ho : off + n.length ≤ cs.length)
  (hone : ∀ x ∈ cs, x.oneCell' = true) :
  ∃ v, (part t cs.toArray off).run P w = .ok v w ∧ Fits P t v ∧ v.cells.toList = (cs.drop off).take n.length := by
 obtain ⟨b, hb, h1⟩ := flat_agg hf
 cases b with
 | true =>
  exact ⟨.agg ((cs.drop off).take n.length).toArray, run_part P w t cs off n.length true hs hb (by simp [partL, ho]), ⟨fun _ => ⟨_, rfl⟩, fun h => (by rw [hb] at h; cases h)⟩, by simp [Value.cells]⟩
 | false =>
  have hn := h1 rfl
  rw [hn] at ho ⊢
  have hlt : off < cs.length := by omega
  have h1 := hone cs[off] (List.getElem_mem hlt)
  have hcell : (cs[off]).cells = #[cs[off]] := by
   cases hv : cs[off] <;> first | rfl | (rw [hv] at h1; cases h1)
  refine ⟨cs[off], run_part P w t cs off 1 false (by rw [hs, hn]) hb (by simp [partL, hlt]), ⟨fun h => (by rw [hb] at h; cases h), fun _ => hcell⟩, ?_⟩
  rw [hcell, List.drop_eq_getElem_cons hlt, List.take_succ_cons, List.take_zero]
theorem flat_fields_none (P : Program) (d : Nat) : ∀ (fs : List Field), fs.foldl (fun acc f => acc.bind fun (sg : List Bool) =>
     if f.name ≠ "_" ∧ f.offset = sg.length then (flatT P d f.type).bind fun s => if szT P f.type = some s.length then some (sg ++ s) else none else none) none = none := by
 intro fs
 induction fs with
 | nil => rfl
 | cons f fs ih => simpa using ih
theorem run_equalIn_flat (P : Program) : ∀ (d D : Nat) (t : TypeId) (n : List Bool), flatT P d t = some n → d ≤ D → ∀ (w : World) (v u : Value), Fits P t v → Fits P t u →
  ∀ {r : Bool}, flatEq n v.cells.toList u.cells.toList = some r → (Op.equalIn D t v u).run P w = .ok r w := by
 intro d
 induction d with
 | zero => intro D t n h; simp [flatT] at h
 | succ d ih =>
  intro D t n h hD w v u hv hu r hr
  obtain ⟨D, rfl⟩ : ∃ D', D = D' + 1 := ⟨D - 1, by omega⟩
  have hD' : d ≤ D := by omega
  obtain ⟨hl, hl', ho, ho'⟩ := flatEq_len _ _ _ hr
  unfold flatT at h
  cases hut : P.underlying t with
  | none => simp [hut] at h
  | some x =>
   rw [hut] at h
   cases x <;> simp only [] at h <;> first | (cases h; done) | skip
   case bool =>
    cases h
    rw [hv.2 (by simp [aggT, hut]), hu.2 (by simp [aggT, hut])] at hr
    obtain ⟨x, xs', y, ys', c, r', e1, e2, h1, rfl, h2⟩ := flatEq_cons hr
    simp at e1 e2
    obtain ⟨rfl, rfl⟩ := e1
    obtain ⟨rfl, rfl⟩ := e2
    simp [flatEq] at h1
    subst h1
    rcases h2 with ⟨h, _⟩ | ⟨_, a, b, rfl, rfl, rfl⟩
    ·cases h
    ·simpa using run_equalIn_bool w D t a b hut
   case int k0 =>
    cases h
    rw [hv.2 (by simp [aggT, hut]), hu.2 (by simp [aggT, hut])] at hr
    obtain ⟨x, xs', y, ys', c, r', e1, e2, h1, rfl, h2⟩ := flatEq_cons hr
    simp at e1 e2
    obtain ⟨rfl, rfl⟩ := e1
    obtain ⟨rfl, rfl⟩ := e2
    simp [flatEq] at h1
    subst h1
    rcases h2 with ⟨_, k, a, b, rfl, rfl, rfl⟩ | ⟨h, _⟩
    ·simp [Op.equalIn, run_underlying hut]
    ·cases h
   case struct fs =>
    obtain ⟨xs, rfl⟩ := hv.1 (by simp [aggT, hut])
    obtain ⟨ys, rfl⟩ := hu.1 (by simp [aggT, hut])
    have hfo : P.fieldsOf t = fs := by simp [Program.fieldsOf, hut]
    split at h
    ·cases h
    rename_i hst
    rw [run_equalIn_struct w D t xs ys (by rw [hfo]; exact hut) (by simpa using hst), hfo]
    simp only [Value.cells] at hr hl hl' ho ho'
    revert h
    generalize fs.toList = fl
    intro h
    have key : ∀ (fl : List Field) (sg sg' : List Bool), fl.foldl (fun acc f => acc.bind fun (sg : List Bool) =>
       if f.name ≠ "_" ∧ f.offset = sg.length then (flatT P d f.type).bind fun s => if szT P f.type = some s.length then some (sg ++ s) else none else none) (some sg) = some (sg ++ sg') →
      xs.toList.length = sg.length + sg'.length → ys.toList.length = sg.length + sg'.length → ∀ {r}, flatEq sg' (xs.toList.drop sg.length) (ys.toList.drop sg.length) = some r →
      (Op.eqFields D xs ys fl).run P w = .ok r w := by
     intro fl
     induction fl with
     | nil =>
      intro sg sg' h hx hy r hr
      simp at h
      subst h
      have e1 : xs.toList.drop sg.length = [] := List.drop_eq_nil_of_le (by rw [hx]; simp)
      have e2 : ys.toList.drop sg.length = [] := List.drop_eq_nil_of_le (by rw [hy]; simp)
      rw [e1, e2] at hr
      simp [flatEq] at hr
      subst hr
      simp [Op.eqFields]
     | cons f fl ihf =>
      intro sg sg' h hx hy r hr
      simp only [List.foldl_cons, Option.bind_some] at h
      split at h
      ·rename_i hc
       obtain ⟨hname, hoff⟩ := hc
       cases hft : flatT P d f.type with
       | none => simp only [hft, Option.bind_none] at h; rw [flat_fields_none] at h; cases h
       | some s =>
        simp only [hft, Option.bind_some] at h
        split at h
        ·rename_i hsz
         have hpre : ∀ (fl : List Field) (a b : List Bool), fl.foldl (fun acc f => acc.bind fun (sg : List Bool) =>
           if f.name ≠ "_" ∧ f.offset = sg.length then (flatT P d f.type).bind fun s => if szT P f.type = some s.length then some (sg ++ s) else none else none) (some a) = some b → ∃ c, b = a ++ c := by
          intro fl
          induction fl with
          | nil => intro a b h; simp at h; exact ⟨[], by simp [h]⟩
          | cons f fl ih =>
           intro a b h
           simp only [List.foldl_cons, Option.bind_some] at h
           split at h
           ·cases hft : flatT P d f.type with
            | none => simp only [hft, Option.bind_none] at h; rw [flat_fields_none] at h; cases h
            | some s =>
             simp only [hft, Option.bind_some] at h
             split at h
             ·obtain ⟨c, rfl⟩ := ih _ _ h
              exact ⟨s ++ c, by simp⟩
             ·rw [flat_fields_none] at h; cases h
           ·rw [flat_fields_none] at h; cases h
         obtain ⟨c, hc⟩ := hpre _ _ _ h
         rw [List.append_assoc] at hc
         have hc := List.append_cancel_left hc
         subst hc
         obtain ⟨a, b, ha, hb, rfl⟩ := flatEq_append s c _ _ hr
         have hxs : ∀ x ∈ xs.toList, x.oneCell' = true := ho
         have hys : ∀ x ∈ ys.toList, x.oneCell' = true := ho'
         simp only [List.length_append, Array.length_toList] at hx hy
         have hx' : sg.length + s.length ≤ xs.toList.length := by simp only [Array.length_toList]; omega
         have hy' : sg.length + s.length ≤ ys.toList.length := by simp only [Array.length_toList]; omega
         obtain ⟨p1, r1, f1, c1⟩ := run_part_flat P w hft hsz xs.toList f.offset (by rw [hoff]; exact hx') hxs
         obtain ⟨p2, r2, f2, c2⟩ := run_part_flat P w hft hsz ys.toList f.offset (by rw [hoff]; exact hy') hys
         simp only [Array.toArray_toList] at r1 r2
         rw [hoff] at c1 c2
         have hq := ih D f.type s hft hD' w p1 p2 f1 f2 (r := a) (by rw [c1, c2]; exact ha)
         simp only [Op.eqFields, hname, ne_eq, not_false_eq_true, if_true, Sem.run_bind, r1, r2, Result.andThen_ok, hq]
         cases a with
         | false => simp
         | true =>
          simp only [Bool.not_true, Bool.false_eq_true, if_false, Bool.true_and]
          refine ihf (sg ++ s) c (by rw [List.append_assoc]; exact h) (by simp only [Array.length_toList, List.length_append]; omega) (by simp only [Array.length_toList, List.length_append]; omega) ?_
          simpa [List.drop_drop] using hb
        ·rw [flat_fields_none] at h; cases h
      ·rw [flat_fields_none] at h; cases h
    exact key fl [] n (by simpa using h) (by simpa using hl) (by simpa using hl') (by simpa using hr)
   case array k e =>
    obtain ⟨xs, rfl⟩ := hv.1 (by simp [aggT, hut])
    obtain ⟨ys, rfl⟩ := hu.1 (by simp [aggT, hut])
    simp only [Value.cells] at hr hl hl' ho ho'
    obtain ⟨s, hs, h⟩ := Option.bind_eq_some_iff.1 h
    split at h
    case isFalse => cases h
    rename_i hsz
    cases h
    have hsize : (sizeOf e).run P w = .ok s.length w := by
     unfold szT at hsz
     obtain ⟨i, hi, hh⟩ := Option.map_eq_some_iff.1 hsz
     simp [sizeOf, typeInfo, hi, hh]
    simp only [Op.equalIn, Sem.run_bind, run_underlying hut, Result.andThen_ok, hsize]
    rw [Std.Legacy.Range.forIn_eq_forIn_range']
    simp only [Std.Legacy.Range.size, Nat.sub_zero, Nat.add_sub_cancel, Nat.div_one]
    have key : ∀ (j i : Nat), i + j = k → ∀ {r}, flatEq (List.replicate j s).flatten (xs.toList.drop (i * s.length)) (ys.toList.drop (i * s.length)) = some r →
      (forIn (List.range' i j) ((none, ()) : Option Bool × Unit) fun i __s => (do
       let a ← part e xs (i * s.length)
       let b ← part e ys (i * s.length)
       let c ← Op.equalIn D e a b
       if (!c) = true then pure (ForInStep.done (some false, ())) else pure (ForInStep.yield (none, ())) : Sem (ForInStep (Option Bool × Unit)))).run P w = .ok (if r then none else some false, ()) w := by
     intro j
     induction j with
     | zero =>
      intro i hi r hr
      obtain ⟨a1, a2, _⟩ := flatEq_len _ _ _ hr
      simp at a1 a2
      rw [List.drop_eq_nil_of_le (by simp only [Array.length_toList]; omega), List.drop_eq_nil_of_le (by simp only [Array.length_toList]; omega)] at hr
      simp [flatEq] at hr
      subst hr
      simp
     | succ j ihj =>
      intro i hi r hr
      rw [List.replicate_succ, List.flatten_cons] at hr
      obtain ⟨a, b, ha, hb, rfl⟩ := flatEq_append s _ _ _ hr
      have hk1 : (List.replicate k s).flatten.length = k * s.length := by simp
      have hle : i * s.length + s.length ≤ k * s.length := by
       have : (i + 1) * s.length ≤ k * s.length := Nat.mul_le_mul_right _ (by omega)
       rwa [Nat.succ_mul] at this
      obtain ⟨p1, r1, f1, c1⟩ := run_part_flat P w hs hsz xs.toList (i * s.length) (by rw [hl, hk1]; exact hle) ho
      obtain ⟨p2, r2, f2, c2⟩ := run_part_flat P w hs hsz ys.toList (i * s.length) (by rw [hl', hk1]; exact hle) ho'
      simp only [Array.toArray_toList] at r1 r2
      have hq := ih D e s hs hD' w p1 p2 f1 f2 (r := a) (by rw [c1, c2]; exact ha)
      simp only [List.range'_succ, List.forIn_cons, Sem.run_bind, r1, r2, Result.andThen_ok, hq, Sem.run_ite, Sem.run_pure]
      cases a with
      | false => simp
      | true =>
       simp only [Bool.not_true, Bool.false_eq_true, if_false, Result.andThen_ok, Bool.true_and]
       exact ihj (i + 1) (by omega) (by rw [List.drop_drop, List.drop_drop] at hb; rw [Nat.succ_mul]; exact hb)
    rw [key k 0 (by omega) (by simpa using hr)]
    cases r <;> simp
end Go.Proofs.YtegaklgjcicnfaaGreat.Abs
namespace Go.Proofs.YtegaklgjcicnfaaGreat.Abs
open Go Go.RowKit
section
variable {P : Program} {m : LMap} {ρ ρ' : Operand → Value}
theorem run_int2 (op : BinOp) (t : TypeId) (x y : Operand) (k k' : IntKind) (a b : Int) {v : Value} (hv : int2 op k a k' b = some v) (w : World) :
  ((do eqGuard op t x y (.int k a) (.int k' b); binOp op t (.int k a) (.int k' b)) : Sem Value).run P w = .ok v w := by
 have hg : (eqGuard op t x y (.int k a) (.int k' b)).run P w = .ok () w := by cases op <;> rfl
 simp only [Sem.run_bind, hg, Result.andThen_ok]
 cases op <;> simp only [int2] at hv
 case shl => split at hv; · cases hv
             ·cases hv; rename_i h; simp [binOp, Op.shift, h]
 case shr => split at hv; · cases hv
             ·cases hv; rename_i h; simp [binOp, Op.shift, h]
 case quo => split at hv
             ·rename_i hk; subst hk; split at hv
              ·cases hv
              ·cases hv; rename_i h; simp [binOp, Op.intDiv, h]
             ·cases hv
 case rem => split at hv
             ·rename_i hk; subst hk; split at hv
              ·cases hv
              ·cases hv; rename_i h; simp [binOp, Op.intDiv, h]
             ·cases hv
 all_goals
  split at hv
  ·rename_i hk; subst hk; cases hv; simp [binOp, Op.intArith, Op.intBits, Op.intCmp]
  ·cases hv
theorem isNil_rel {v u : Value} (h : VRel m v u) {k : Nat} {b : Bool} (hb : isNil k v = some b) : isNil k u = some b := by
 unfold isNil at hb
 split at hb <;> first | (cases h <;> exact hb) | cases hb
theorem bnd_rel {d : Nat} {o : Option Operand} (hs : ∀ x, o = some x → VRel m (ρ x) (ρ' x)) {n : Nat} (h : bnd ρ d o = some n) :
  (o = none ∧ n = d) ∨ ∃ x k i, o = some x ∧ ρ' x = .int k i ∧ 0 ≤ i ∧ n = i.toNat := by
 cases o with
 | none => simp [bnd] at h; exact .inl ⟨rfl, h.symm⟩
 | some x =>
  right
  simp only [bnd] at h
  split at h
  ·rename_i k i hx
   split at h
   ·rename_i h0
    cases h
    exact ⟨x, k, i, rfl, (hs x rfl).of_int hx, h0, rfl⟩
   ·cases h
  ·cases h
theorem Sees.head {x : Operand} {xs : List Operand} (h : Sees m ρ ρ' (x :: xs)) : VRel m (ρ x) (ρ' x) := h x (by simp)
theorem Sees.tail {x : Operand} {xs : List Operand} (h : Sees m ρ ρ' (x :: xs)) : Sees m ρ ρ' xs := fun y hy => h y (by simp [hy])
theorem run_eql_of (t : TypeId) (x y : Operand) (v u : Value) (hg : ∀ op w, (eqGuard op t x y v u).run P w = .ok () w) (he : binOp .eql t v u = (do pure (.bool (← Op.equal t v u)))) (hn : binOp .neq t v u = (do pure (.bool (!(← Op.equal t v u)))))
  {b : Bool} (hb : ∀ D w, (Op.equalIn (D + 1) t v u).run P w = .ok b w) (w : World) : ((do eqGuard .eql t x y v u; binOp .eql t v u) : Sem Value).run P w = .ok (.bool b) w ∧
   ((do eqGuard .neq t x y v u; binOp .neq t v u) : Sem Value).run P w = .ok (.bool (!b)) w := by
 have h1 : (Op.equal t v u).run P w = .ok b w := hb 9999 w
 constructor
 ·simp only [Sem.run_bind, hg, Result.andThen_ok, he, h1, Sem.run_pure]
 ·simp only [Sem.run_bind, hg, Result.andThen_ok, hn, h1, Sem.run_pure]
theorem run_isEq (t : TypeId) (x y : Operand) (v u : Value) {d : TypeDesc} (hd : P.underlying t = some d) {k : Nat} (hn : nilKind d y = some k) (hu : ∀ c, y = .const c → u = c)
  {b : Bool} (hb : isNil k v = some b) (w : World) : ((do eqGuard .eql t x y v u; binOp .eql t v u) : Sem Value).run P w = .ok (.bool b) w ∧
   ((do eqGuard .neq t x y v u; binOp .neq t v u) : Sem Value).run P w = .ok (.bool (!b)) w := by
 unfold nilKind at hn
 split at hn
 ·cases hn; obtain rfl := hu _ rfl
  cases v <;> first | (simp [isNil] at hb; done) | skip
  rename_i a
  refine run_eql_of t x _ _ _ (fun op w => by cases op <;> rfl) rfl rfl (fun D w => ?_) w
  cases a <;> simp [isNil] at hb <;> subst hb <;> simp [Op.equalIn, run_underlying hd]
 ·cases hn; obtain rfl := hu _ rfl
  cases v <;> first | (simp [isNil] at hb; done) | skip
  rename_i a l c
  refine run_eql_of t x _ _ _ (fun op w => by cases op <;> rfl) rfl rfl (fun D w => ?_) w
  cases a with
  | none => unfold isNil at hb; split at hb <;> first | (cases hb; done) | skip
            all_goals first | (cases hb; simp [Op.equalIn, run_underlying hd]; done) | (simp_all; done)
  | some a => simp [isNil] at hb; subst hb; simp [Op.equalIn, run_underlying hd]
 ·cases hn; obtain rfl := hu _ rfl
  cases v <;> first | (simp [isNil] at hb; done) | skip
  ·refine run_eql_of t x _ _ _ (fun op w => by cases op <;> rfl) rfl rfl (fun D w => ?_) w
   simp [isNil] at hb; subst hb; simp [Op.equalIn, run_underlying hd]
  ·refine run_eql_of t x _ _ _ (fun op w => by cases op <;> rfl) rfl rfl (fun D w => ?_) w
   simp [isNil] at hb; subst hb; simp [Op.equalIn, run_underlying hd]
 ·cases hn
theorem fillOf (place : Nat → Option (Nat × Nat)) : ∀ (ps : List (Nat × Value)) (qs : List (Nat × Nat × Value)) (cs : List Value), ps.length = qs.length →
  (∀ (i : Nat) p q, ps[i]? = some p → qs[i]? = some q → place p.1 = some (q.1, q.2.1) ∧ p.2 = q.2.2) → ∀ {vs}, fillL cs qs = some vs → Instr.fill place cs.toArray ps = some vs.toArray := by
 intro ps
 induction ps with
 | nil =>
  intro qs cs hl _ vs hv
  have : qs = [] := List.eq_nil_of_length_eq_zero (by simpa using hl.symm)
  subst this
  simp [fillL] at hv
  subst hv; rfl
 | cons p ps ih =>
  intro qs cs hl hq vs hv
  cases qs with
  | nil => simp at hl
  | cons q qs =>
   obtain ⟨i, v⟩ := p
   obtain ⟨o, sz, v'⟩ := q
   obtain ⟨e1, e2⟩ := hq 0 _ _ rfl rfl
   simp only at e1 e2
   subst e2
   simp only [fillL] at hv
   split at hv
   ·rename_i hc
    obtain ⟨c1, c2, c3⟩ := hc
    simp only [Instr.fill, e1]
    have c1' : v.cells.size = sz := by simpa using c1
    rw [if_neg (by simp only [c1', List.size_toArray]; simp; omega)]
    have hfold : ∀ (us : List Value) (k : Nat) (cs : List Value), (us.zipIdx k).foldl (fun (acc : Array Value) (x : Value × Nat) => acc.setIfInBounds (o + x.2) x.1) cs.toArray = (ow cs (o + k) us).toArray := by
     intro us
     induction us with
     | nil => intro k cs; rfl
     | cons u us ihu =>
      intro k cs
      simp only [List.zipIdx_cons, List.foldl_cons, ow]
      rw [List.setIfInBounds_toArray, ihu (k + 1) (cs.set (o + k) u)]
      rfl
    have hz : (v.cells.zipIdx.foldl (fun (acc : Array Value) (x : Value × Nat) => acc.setIfInBounds (o + x.2) x.1) cs.toArray) = (ow cs o v.cells.toList).toArray := by
     rw [← Array.foldl_toList, Array.toList_zipIdx, hfold]
     rfl
    have := ih qs (ow cs o v.cells.toList) (by simpa using hl) (fun i a b ha hb => hq (i + 1) a b (by simpa using ha) (by simpa using hb)) hv
    rw [← hz] at this
    exact this
   ·cases hv
end
end Go.Proofs.YtegaklgjcicnfaaGreat.Abs
