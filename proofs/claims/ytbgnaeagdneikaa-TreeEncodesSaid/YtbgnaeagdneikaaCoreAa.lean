/- The abstract memory: blocks by name, values with such names for addresses, and how they lie in the machine's memory. -/
import Derived.WalkKit
import Derived.Orders
namespace Go.Proofs.Ytbgnaeagdneikaa.Abs
open Go Go.RowKit

/-- Where an abstract block lies: the machine's block, the first cell, how many cells that block has. -/
structure Loc where
  cb : Nat
  dl : Nat
  csz : Nat

abbrev LMap := Nat → Option Loc

def LMap.le (m m' : LMap) : Prop := ∀ id r, m id = some r → m' id = some r
theorem LMap.le_refl (m : LMap) : m.le m := fun _ _ h => h
theorem LMap.le_trans {a b c : LMap} (h : a.le b) (k : b.le c) : a.le c := fun i r hr => k i r (h i r hr)
def LMap.ext (m : LMap) (id : Nat) (r : Loc) : LMap := fun i => if i = id then some r else m i

structure Blk where
  ro : Bool
  cells : List Value

structure St where
  blk : Nat → Option Blk
  next : Nat

def St.new (S : St) (b : Blk) : St := ⟨fun i => if i = S.next then some b else S.blk i, S.next + 1⟩
def St.set (S : St) (id : Nat) (b : Blk) : St := ⟨fun i => if i = id then some b else S.blk i, S.next⟩
def St.kill (S : St) (id : Nat) : St := ⟨fun i => if i = id then none else S.blk i, S.next⟩

/-- An abstract value is the machine's, but for addresses; a slice tells, in place of its capacity, how many cells an element takes, where what is behind it is its own (0: it may not grow in place). -/
inductive VRel (m : LMap) : Value → Value → Prop
  | bool (b : Bool) : VRel m (.bool b) (.bool b)
  | int (k : IntKind) (n : Int) : VRel m (.int k n) (.int k n)
  | string (s : ByteArray) : VRel m (.string s) (.string s)
  | pnil : VRel m (.pointer none) (.pointer none)
  | ptr {id off : Nat} {r : Loc} (h : m id = some r) : VRel m (.pointer (some ⟨id, off, none⟩)) (.pointer (some ⟨r.cb, r.dl + off, none⟩))
  | snil : VRel m (.slice none 0 0) (.slice none 0 0)
  | slice {id off len cap e : Nat} {r : Loc} (h : m id = some r) (hl : len ≤ cap) (hc : e = 0 ∨ r.dl + off + cap * e ≤ r.csz) :
      VRel m (.slice (some ⟨id, off, none⟩) len e) (.slice (some ⟨r.cb, r.dl + off, none⟩) len cap)
  | sempty {id off : Nat} {r : Loc} (h : m id = some r) (e : Nat) (a : Addr) : VRel m (.slice (some ⟨id, off, none⟩) 0 e) (.slice (some a) 0 0)
  | nilFunc : VRel m .nilFunc .nilFunc
  | func (fn : Fn) {xs ys cs ds : Array Value} (h1 : xs.size = ys.size) (h2 : ∀ (i : Nat) x y, xs[i]? = some x → ys[i]? = some y → VRel m x y)
      (h3 : cs.size = ds.size) (h4 : ∀ (i : Nat) x y, cs[i]? = some x → ds[i]? = some y → VRel m x y) : VRel m (.func fn xs cs) (.func fn ys ds)
  | nilIface : VRel m .nilIface .nilIface
  | iface (t : TypeId) {v u : Value} (h : VRel m v u) : VRel m (.iface t v) (.iface t u)
  | agg {xs ys : Array Value} (h1 : xs.size = ys.size) (ho : ∀ x ∈ xs, x.oneCell' = true)
      (h2 : ∀ (i : Nat) x y, xs[i]? = some x → ys[i]? = some y → VRel m x y) : VRel m (.agg xs) (.agg ys)
  | tuple {xs ys : Array Value} (h1 : xs.size = ys.size) (h2 : ∀ (i : Nat) x y, xs[i]? = some x → ys[i]? = some y → VRel m x y) : VRel m (.tuple xs) (.tuple ys)

theorem VRel.mono {m m' : LMap} (hm : m.le m') {v u : Value} (h : VRel m v u) : VRel m' v u := by
  induction h with
  | bool b => exact .bool b
  | int k n => exact .int k n
  | string s => exact .string s
  | pnil => exact .pnil
  | ptr h => exact .ptr (hm _ _ h)
  | snil => exact .snil
  | slice h hl hc => exact .slice (hm _ _ h) hl hc
  | sempty h e a => exact .sempty (hm _ _ h) e a
  | nilFunc => exact .nilFunc
  | func fn h1 h2 h3 h4 ih2 ih4 => exact .func fn h1 ih2 h3 ih4
  | nilIface => exact .nilIface
  | iface t h ih => exact .iface t ih
  | agg h1 ho h2 ih => exact .agg h1 ho ih
  | tuple h1 h2 ih => exact .tuple h1 ih

/-- Lists of values, place by place. -/
def LRel (m : LMap) (vs us : List Value) : Prop := vs.length = us.length ∧ ∀ (i : Nat) v u, vs[i]? = some v → us[i]? = some u → VRel m v u
def ARel (m : LMap) (vs us : Array Value) : Prop := vs.size = us.size ∧ ∀ (i : Nat) v u, vs[i]? = some v → us[i]? = some u → VRel m v u

theorem LRel.mono {m m' : LMap} (hm : m.le m') {vs us : List Value} (h : LRel m vs us) : LRel m' vs us := ⟨h.1, fun i v u a b => (h.2 i v u a b).mono hm⟩
theorem ARel.mono {m m' : LMap} (hm : m.le m') {vs us : Array Value} (h : ARel m vs us) : ARel m' vs us := ⟨h.1, fun i v u a b => (h.2 i v u a b).mono hm⟩
theorem LRel.nil (m : LMap) : LRel m [] [] := ⟨rfl, fun i v u h => by simp at h⟩
theorem LRel.cons {m : LMap} {v u : Value} {vs us : List Value} (h : VRel m v u) (hs : LRel m vs us) : LRel m (v :: vs) (u :: us) := by
  refine ⟨by simp [hs.1], fun i a b ha hb => ?_⟩
  cases i with
  | zero => simp at ha hb; subst ha; subst hb; exact h
  | succ i => simp at ha hb; exact hs.2 i a b ha hb
theorem LRel.of_array {m : LMap} {vs us : Array Value} (h : ARel m vs us) : LRel m vs.toList us.toList := ⟨by simpa using h.1, fun i v u a b => h.2 i v u (by simpa using a) (by simpa using b)⟩
theorem ARel.of_list {m : LMap} {vs us : List Value} (h : LRel m vs us) : ARel m vs.toArray us.toArray := ⟨by simpa using h.1, fun i v u a b => h.2 i v u (by simpa using a) (by simpa using b)⟩
theorem LRel.append {m : LMap} {vs us vs' us' : List Value} (h : LRel m vs us) (h' : LRel m vs' us') : LRel m (vs ++ vs') (us ++ us') := by
  refine ⟨by simp [h.1, h'.1], fun i v u a b => ?_⟩
  rw [List.getElem?_append] at a b
  rw [h.1] at a
  split at a
  · rename_i hi; rw [if_pos hi] at b; exact h.2 i v u a b
  · rename_i hi; rw [if_neg hi] at b; exact h'.2 _ v u a b
theorem LRel.drop {m : LMap} {vs us : List Value} (h : LRel m vs us) (n : Nat) : LRel m (vs.drop n) (us.drop n) :=
  ⟨by simp [h.1], fun i v u a b => h.2 _ v u (by simpa using a) (by simpa using b)⟩
theorem LRel.take {m : LMap} {vs us : List Value} (h : LRel m vs us) (n : Nat) : LRel m (vs.take n) (us.take n) := by
  refine ⟨by simp [h.1], fun i v u a b => ?_⟩
  rw [List.getElem?_take] at a b
  split at a
  · rename_i hi; rw [if_pos hi] at b; exact h.2 i v u a b
  · cases a
theorem LRel.set {m : LMap} {vs us : List Value} (h : LRel m vs us) (n : Nat) {v u : Value} (hv : VRel m v u) : LRel m (vs.set n v) (us.set n u) := by
  refine ⟨by simp [h.1], fun i a b ha hb => ?_⟩
  rw [List.getElem?_set] at ha hb
  split at ha
  · rename_i e; rw [if_pos e] at hb
    split at ha
    · cases ha
      split at hb
      · cases hb; exact hv
      · cases hb
    · cases ha
  · rename_i e; rw [if_neg e] at hb; exact h.2 i a b ha hb
theorem LRel.get {m : LMap} {vs us : List Value} (h : LRel m vs us) {i : Nat} {v : Value} (hv : vs[i]? = some v) : ∃ u, us[i]? = some u ∧ VRel m v u := by
  have hi : i < us.length := by rw [← h.1]; exact (List.getElem?_eq_some_iff.1 hv).1
  exact ⟨us[i], List.getElem?_eq_getElem hi, h.2 i v _ hv (List.getElem?_eq_getElem hi)⟩

theorem VRel.oneCell {m : LMap} {v u : Value} (h : VRel m v u) : v.oneCell' = u.oneCell' := by cases h <;> rfl

theorem VRel.cells {m : LMap} {v u : Value} (h : VRel m v u) : LRel m v.cells.toList u.cells.toList := by
  cases h with
  | agg h1 ho h2 => exact LRel.of_array ⟨h1, h2⟩
  | bool b => exact .cons (.bool b) (.nil m)
  | int k n => exact .cons (.int k n) (.nil m)
  | string s => exact .cons (.string s) (.nil m)
  | pnil => exact .cons .pnil (.nil m)
  | ptr h => exact .cons (.ptr h) (.nil m)
  | snil => exact .cons .snil (.nil m)
  | slice h hl hc => exact .cons (.slice h hl hc) (.nil m)
  | sempty h e a => exact .cons (.sempty h e a) (.nil m)
  | nilFunc => exact .cons .nilFunc (.nil m)
  | func fn h1 h2 h3 h4 => exact .cons (.func fn h1 h2 h3 h4) (.nil m)
  | nilIface => exact .cons .nilIface (.nil m)
  | iface t h => exact .cons (.iface t h) (.nil m)
  | tuple h1 h2 => exact .cons (.tuple h1 h2) (.nil m)

/-- May a value stand in memory? -/
def storable : Value → Bool
  | .tuple _ => false
  | _ => true

theorem VRel.cells_one {m : LMap} {v u : Value} (h : VRel m v u) (hs : storable v = true) : ∀ x ∈ v.cells.toList, x.oneCell' = true := by
  cases h with
  | agg h1 ho h2 => intro x hx; exact ho x (by simpa [Value.cells] using hx)
  | tuple h1 h2 => simp [storable] at hs
  | _ => intro x hx; simp [Value.cells] at hx; subst hx; rfl

structure BlkAt (B : Nat) (m : LMap) (w : World) (b : Blk) (r : Loc) : Prop where
  one : ∀ v ∈ b.cells, v.oneCell' = true
  at_ : ∃ (c : Array Value) (e : TypeId) (fr : Nat × Nat), w.heap[r.cb]? = some (.cells c e fr) ∧ c.size = r.csz ∧ r.dl + b.cells.length ≤ r.csz ∧
    (b.ro = false → fr = (0, 0) ∧ B ≤ r.cb) ∧ (b.ro = true → r.cb < B) ∧ ∀ (i : Nat) v, b.cells[i]? = some v → ∃ u, c[r.dl + i]? = some u ∧ VRel m v u

structure Rel (w0 : World) (m : LMap) (S : St) (w : World) : Prop where
  below : Below w0.heap.size w0 w
  dom : ∀ id r, m id = some r → id < S.next
  blk : ∀ id b, S.blk id = some b → ∃ r, m id = some r ∧ BlkAt w0.heap.size m w b r
  inj : ∀ i j b c r s, S.blk i = some b → S.blk j = some c → b.ro = false → c.ro = false → m i = some r → m j = some s → r.cb = s.cb → i = j

theorem BlkAt.mono {B : Nat} {m m' : LMap} {w : World} {b : Blk} {r : Loc} (hm : m.le m') (h : BlkAt B m w b r) : BlkAt B m' w b r := by
  obtain ⟨ho, c, e, fr, h1, h2, h3, h4, h5, h6⟩ := h
  exact ⟨ho, c, e, fr, h1, h2, h3, h4, h5, fun i v hv => by obtain ⟨u, hu, hr⟩ := h6 i v hv; exact ⟨u, hu, hr.mono hm⟩⟩

/-- A block reads as it did where its machine's block does. -/
theorem BlkAt.world {B : Nat} {m : LMap} {w w' : World} {b : Blk} {r : Loc} (hw : w'.heap[r.cb]? = w.heap[r.cb]?) (h : BlkAt B m w b r) : BlkAt B m w' b r := by
  obtain ⟨ho, c, e, fr, h1, h2, h3, h4, h5, h6⟩ := h
  exact ⟨ho, c, e, fr, by rw [hw]; exact h1, h2, h3, h4, h5, h6⟩

theorem BlkAt.lt {B : Nat} {m : LMap} {w : World} {b : Blk} {r : Loc} (h : BlkAt B m w b r) : r.cb < w.heap.size := by
  obtain ⟨_, c, e, fr, h1, _⟩ := h
  exact (Array.getElem?_eq_some_iff.1 h1).1

theorem Rel.fresh {w0 : World} {m : LMap} {S : St} {w : World} (h : Rel w0 m S w) : m S.next = none := by
  cases hm : m S.next with
  | none => rfl
  | some r => exact absurd (h.dom _ _ hm) (Nat.lt_irrefl _)

theorem LMap.le_ext {m : LMap} {id : Nat} (h : m id = none) (r : Loc) : m.le (m.ext id r) := by
  intro i s hs
  unfold LMap.ext
  by_cases e : i = id
  · subst e; rw [h] at hs; cases hs
  · rw [if_neg e]; exact hs

theorem Rel.lt {w0 : World} {m : LMap} {S : St} {w : World} (h : Rel w0 m S w) {id : Nat} {b : Blk} (hb : S.blk id = some b) : id < S.next := by
  obtain ⟨r, hr, _⟩ := h.blk id b hb
  exact h.dom id r hr

/-- A draw turns nothing. -/
theorem Rel.drew {w0 : World} {m : LMap} {S : St} {w : World} (h : Rel w0 m S w) : Rel w0 m S w.drew :=
  ⟨h.below.drew, h.dom, fun id b hb => by obtain ⟨r, hr, hk⟩ := h.blk id b hb; exact ⟨r, hr, BlkAt.world (w := w) (w' := w.drew) (by rfl) hk⟩, h.inj⟩

/-- Dead blocks are forgotten. -/
theorem Rel.kill {w0 : World} {m : LMap} {S : St} {w : World} (h : Rel w0 m S w) (id : Nat) : Rel w0 m (S.kill id) w := by
  refine ⟨h.below, h.dom, fun i b hb => ?_, fun i j b c r s hb hc => ?_⟩
  · by_cases e : i = id
    · simp [St.kill, e] at hb
    · exact h.blk i b (by simpa [St.kill, e] using hb)
  · by_cases e : i = id
    · simp [St.kill, e] at hb
    · by_cases e' : j = id
      · simp [St.kill, e'] at hc
      · exact h.inj i j b c r s (by simpa [St.kill, e] using hb) (by simpa [St.kill, e'] using hc)

/-- A new block; its cells may be more than what is told. -/
theorem Rel.new {w0 : World} {m : LMap} {S : St} {w : World} (h : Rel w0 m S w) (vs : List Value) (us : Array Value) (e : TypeId)
    (hone : ∀ v ∈ vs, v.oneCell' = true) (hlen : vs.length ≤ us.size) (hrel : LRel m vs (us.toList.take vs.length)) :
    Rel w0 (m.ext S.next ⟨w.heap.size, 0, us.size⟩) (S.new ⟨false, vs⟩) (w.alloc (.cells us e)) := by
  have hfr := h.fresh
  have hle := LMap.le_ext hfr ⟨w.heap.size, 0, us.size⟩
  have hB : w0.heap.size ≤ w.heap.size := h.below.size
  have hold : ∀ i, i < w.heap.size → (w.alloc (.cells us e)).heap[i]? = w.heap[i]? := fun i hi => Below.heap_alloc _ _ _ hi
  refine ⟨h.below.alloc hB _, fun i r hr => ?_, fun i b hb => ?_, fun i j b c r s hb hc hbr hcr hr hs hcb => ?_⟩
  · simp only [St.new]
    unfold LMap.ext at hr
    by_cases hi : i = S.next
    · omega
    · rw [if_neg hi] at hr; have := h.dom i r hr; omega
  · by_cases hi : i = S.next
    · subst hi
      simp [St.new] at hb
      subst hb
      refine ⟨⟨w.heap.size, 0, us.size⟩, by simp [LMap.ext], hone, us, e, (0, 0), heap_alloc_new w _, rfl, by simpa using hlen, fun _ => ⟨rfl, hB⟩, fun hc => (by simp at hc), fun i v hv => ?_⟩
      have hi : i < vs.length := (List.getElem?_eq_some_iff.1 hv).1
      have hu : (us.toList.take vs.length)[i]? = some us[i] := by rw [List.getElem?_take, if_pos hi]; simp [Nat.lt_of_lt_of_le hi hlen]
      exact ⟨us[i], by simp [Nat.lt_of_lt_of_le hi hlen], (hrel.2 i v _ hv hu).mono hle⟩
    · simp [St.new, hi] at hb
      obtain ⟨r, hr, hk⟩ := h.blk i b hb
      exact ⟨r, hle _ _ hr, (hk.mono hle).world (hold _ hk.lt)⟩
  · have key : ∀ k d t, (S.new ⟨false, vs⟩).blk k = some d → (m.ext S.next ⟨w.heap.size, 0, us.size⟩) k = some t → k ≠ S.next → S.blk k = some d ∧ m k = some t ∧ t.cb < w.heap.size := by
      intro k d t hd ht hk
      simp [St.new, hk] at hd
      simp [LMap.ext, hk] at ht
      obtain ⟨r, hr, hkk⟩ := h.blk k d hd
      rw [ht] at hr; cases hr
      exact ⟨hd, ht, hkk.lt⟩
    by_cases hi : i = S.next
    · by_cases hj : j = S.next
      · omega
      · obtain ⟨_, _, hlt⟩ := key j c s hc hs hj
        subst hi
        simp [LMap.ext] at hr
        subst hr
        simp at hcb
        omega
    · by_cases hj : j = S.next
      · obtain ⟨_, _, hlt⟩ := key i b r hb hr hi
        subst hj
        simp [LMap.ext] at hs
        subst hs
        simp at hcb
        omega
      · obtain ⟨h1, h2, _⟩ := key i b r hb hr hi
        obtain ⟨h3, h4, _⟩ := key j c s hc hs hj
        exact h.inj i j b c r s h1 h3 hbr hcr h2 h4 hcb

/-- Writing over from a place on. -/
def ow (cs : List Value) (o : Nat) : List Value → List Value
  | [] => cs
  | v :: vs => ow (cs.set o v) (o + 1) vs

theorem ow_length (vs : List Value) : ∀ (cs : List Value) (o : Nat), (ow cs o vs).length = cs.length := by
  induction vs with
  | nil => intro cs o; rfl
  | cons v vs ih => intro cs o; simp [ow, ih]

theorem ow_eq (vs : List Value) : ∀ (cs : List Value) (o : Nat), o + vs.length ≤ cs.length → ow cs o vs = cs.take o ++ vs ++ cs.drop (o + vs.length) := by
  induction vs with
  | nil => intro cs o _; simp [ow]
  | cons v vs ih =>
    intro cs o h
    simp only [List.length_cons] at h
    rw [ow, ih _ _ (by simp; omega)]
    apply List.ext_getElem?
    intro i
    simp only [List.getElem?_append, List.length_append, List.length_take, List.length_set, List.getElem?_take, List.getElem?_drop, List.getElem?_set, List.length_cons]
    by_cases h1 : i < o
    · simp [h1, show i < min (o + 1) cs.length by omega, show i < min o cs.length by omega, show i < o + 1 by omega, show ¬ o = i by omega, show i < min (o + 1) cs.length + vs.length by omega, show i < min o cs.length + (vs.length + 1) by omega]
    · by_cases h2 : i = o
      · subst h2
        simp [show i < min (i + 1) cs.length by omega, show ¬ i < min i cs.length by omega, show i < cs.length by omega, show i < min (i + 1) cs.length + vs.length by omega, show i < min i cs.length + (vs.length + 1) by omega, show i - min i cs.length = 0 by omega]
      · by_cases h3 : i < o + 1 + vs.length
        · simp [show ¬ i < min (o + 1) cs.length by omega, show ¬ i < min o cs.length by omega, show i < min (o + 1) cs.length + vs.length by omega, show i < min o cs.length + (vs.length + 1) by omega, show i - min o cs.length = (i - min (o + 1) cs.length) + 1 by omega]
        · simp [show ¬ i < min (o + 1) cs.length + vs.length by omega, show ¬ i < min o cs.length + (vs.length + 1) by omega]
          rw [if_neg (by omega)]
          congr 1
          omega

theorem LRel.ow {m : LMap} {cs ds vs us : List Value} (h : LRel m cs ds) (hv : LRel m vs us) (o : Nat) : LRel m (Go.Proofs.Ytbgnaeagdneikaa.Abs.ow cs o vs) (Go.Proofs.Ytbgnaeagdneikaa.Abs.ow ds o us) := by
  induction vs generalizing cs ds us o with
  | nil =>
    have : us = [] := List.eq_nil_of_length_eq_zero (by have := hv.1; simp at this; omega)
    subst this; exact h
  | cons v vs ih =>
    cases us with
    | nil => have := hv.1; simp at this
    | cons u us => exact ih (h.set o (hv.2 0 v u rfl rfl)) ⟨by have := hv.1; simpa using this, fun i a b ha hb => hv.2 (i + 1) a b (by simpa using ha) (by simpa using hb)⟩ _

theorem ow_one {cs vs : List Value} (h : ∀ v ∈ cs, v.oneCell' = true) (hv : ∀ v ∈ vs, v.oneCell' = true) (o : Nat) : ∀ v ∈ Go.Proofs.Ytbgnaeagdneikaa.Abs.ow cs o vs, v.oneCell' = true := by
  induction vs generalizing cs o with
  | nil => exact h
  | cons v vs ih =>
    refine ih (fun x hx => ?_) (fun x hx => hv x (by simp [hx])) _
    rcases List.mem_or_eq_of_mem_set hx with hx | rfl
    · exact h x hx
    · exact hv x (by simp)

/-- A store of cells into a block of the call's own. -/
theorem Rel.write {w0 : World} {m : LMap} {S : St} {w : World} (h : Rel w0 m S w) {id : Nat} {b : Blk} {r : Loc} (hb : S.blk id = some b) (hro : b.ro = false) (hm : m id = some r)
    {vs us : List Value} (hv : LRel m vs us) (hone : ∀ v ∈ vs, v.oneCell' = true) {o : Nat} (ho : o + vs.length ≤ b.cells.length) (c : Array Value) (e : TypeId) (hc : w.heap[r.cb]? = some (.cells c e (0, 0))) :
    Rel w0 m (S.set id { b with cells := Go.Proofs.Ytbgnaeagdneikaa.Abs.ow b.cells o vs }) (w.setRow r.cb (c.toList.take (r.dl + o) ++ us ++ c.toList.drop (r.dl + o + us.length)).toArray) := by
  obtain ⟨r', hr', hk⟩ := h.blk id b hb
  rw [hm] at hr'; cases hr'
  obtain ⟨hone', c', e', fr', h1, h2, h3, h4, h5, h6⟩ := hk
  rw [hc] at h1
  cases h1
  obtain ⟨_, hB⟩ := h4 hro
  have hlt : r.cb < w.heap.size := (Array.getElem?_eq_some_iff.1 hc).1
  have hul : us.length = vs.length := hv.1.symm
  have hcl : r.dl + o + us.length ≤ c.toList.length := by simp; omega
  have hother : ∀ k, k ≠ r.cb → (w.setRow r.cb (c.toList.take (r.dl + o) ++ us ++ c.toList.drop (r.dl + o + us.length)).toArray).heap[k]? = w.heap[k]? := fun k hk => setRow_other w r.cb k _ hk
  refine ⟨h.below.trans ⟨rfl, rfl, rfl, by simp [World.setRow], fun k hk => hother k (by omega)⟩, h.dom, fun i d hd => ?_, fun i j d d' s s' hd hd' => ?_⟩
  · by_cases hi : i = id
    · subst hi
      simp [St.set] at hd
      subst hd
      refine ⟨r, hm, ow_one hone' hone o, _, e, (0, 0), setRow_heap w r.cb c _ e (0, 0) hc, ?_, by simp [ow_length, h3], fun _ => ⟨rfl, hB⟩, fun hx => (by simp [hro] at hx), fun k v hv' => ?_⟩
      · simp only [List.size_toArray, List.length_append, List.length_take, List.length_drop, Array.length_toList]; simp at hcl; omega
      · rw [← ow_eq us c.toList (r.dl + o) hcl]
        -- both sides written over
        have key : ∀ (vs us : List Value) (cs : List Value) (ds : List Value) (o : Nat), LRel m vs us → (∀ (k : Nat) v, cs[k]? = some v → ∃ u, ds[r.dl + k]? = some u ∧ VRel m v u) →
            ∀ (k : Nat) v, (Go.Proofs.Ytbgnaeagdneikaa.Abs.ow cs o vs)[k]? = some v → ∃ u, (Go.Proofs.Ytbgnaeagdneikaa.Abs.ow ds (r.dl + o) us)[r.dl + k]? = some u ∧ VRel m v u := by
          intro vs
          induction vs with
          | nil =>
            intro us cs ds o hvu hcd
            have : us = [] := List.eq_nil_of_length_eq_zero (by have := hvu.1; simp at this; omega)
            subst this; exact hcd
          | cons v vs ih =>
            intro us cs ds o hvu hcd
            cases us with
            | nil => have := hvu.1; simp at this
            | cons u us =>
              refine ih us (cs.set o v) (ds.set (r.dl + o) u) (o + 1) ⟨by have := hvu.1; simpa using this, fun i a b ha hb => hvu.2 (i + 1) a b (by simpa using ha) (by simpa using hb)⟩ (fun k x hx => ?_)
              rw [List.getElem?_set] at hx ⊢
              by_cases hok : o = k
              · subst hok
                simp only [if_true] at hx ⊢
                split at hx
                · rename_i hol
                  cases hx
                  obtain ⟨u', hu', _⟩ := hcd o cs[o] (List.getElem?_eq_getElem hol)
                  have : r.dl + o < ds.length := (List.getElem?_eq_some_iff.1 hu').1
                  rw [if_pos this]
                  exact ⟨u, rfl, hvu.2 0 _ _ rfl rfl⟩
                · cases hx
              · rw [if_neg hok] at hx
                rw [if_neg (by omega)]
                exact hcd k x hx
        have := key vs us b.cells c.toList o hv (fun k v hk => by simpa using h6 k v hk) k v hv'
        simpa using this
    · simp [St.set, hi] at hd
      obtain ⟨s, hs, hks⟩ := h.blk i d hd
      refine ⟨s, hs, hks.world (hother _ ?_)⟩
      intro hcb
      obtain ⟨_, _, _, _, _, _, _, g4, g5, _⟩ := hks
      cases hdro : d.ro with
      | true => have := g5 hdro; omega
      | false => exact hi (h.inj i id d b s r hd hb hdro hro hs hm hcb)
  · have key : ∀ k x, (S.set id { b with cells := Go.Proofs.Ytbgnaeagdneikaa.Abs.ow b.cells o vs }).blk k = some x → ∃ y, S.blk k = some y ∧ y.ro = x.ro := by
      intro k x hx
      by_cases hk : k = id
      · subst hk; simp [St.set] at hx; subst hx; exact ⟨b, hb, rfl⟩
      · simp [St.set, hk] at hx; exact ⟨x, hx, rfl⟩
    obtain ⟨y, hy, hyr⟩ := key i d hd
    obtain ⟨y', hy', hyr'⟩ := key j d' hd'
    intro p1 p2
    exact h.inj i j y y' s s' hy hy' (by rw [hyr]; exact p1) (by rw [hyr']; exact p2)

/-! What a call leaves alone: all that no live name of the caller's own stands for. -/
def Claimed (S : St) (m : LMap) (B : Nat) : Prop := ∃ id b r, S.blk id = some b ∧ b.ro = false ∧ m id = some r ∧ r.cb = B

structure Frame (S : St) (m : LMap) (w : World) (S' : St) (m' : LMap) (w' : World) : Prop where
  size : w.heap.size ≤ w'.heap.size
  same : ∀ B, B < w.heap.size → ¬ Claimed S m B → w'.heap[B]? = w.heap[B]? ∧ ¬ Claimed S' m' B

theorem Frame.refl (S : St) (m : LMap) (w : World) : Frame S m w S m w := ⟨Nat.le_refl _, fun _ _ h => ⟨rfl, h⟩⟩
theorem Frame.trans {S S' S'' : St} {m m' m'' : LMap} {w w' w'' : World} (h : Frame S m w S' m' w') (k : Frame S' m' w' S'' m'' w'') : Frame S m w S'' m'' w'' :=
  ⟨Nat.le_trans h.size k.size, fun B hB hc => by
    obtain ⟨h1, h2⟩ := h.same B hB hc
    obtain ⟨k1, k2⟩ := k.same B (Nat.lt_of_lt_of_le hB h.size) h2
    exact ⟨k1.trans h1, k2⟩⟩
theorem Frame.drew {S : St} {m : LMap} {w : World} : Frame S m w S m w.drew := ⟨Nat.le_refl _, fun _ _ h => ⟨rfl, h⟩⟩
theorem Frame.kill {S S' : St} {m m' : LMap} {w w' : World} (h : Frame S m w S' m' w') (id : Nat) : Frame S m w (S'.kill id) m' w' :=
  ⟨h.size, fun B hB hc => ⟨(h.same B hB hc).1, fun ⟨i, b, r, h1, h2, h3, h4⟩ => (h.same B hB hc).2 ⟨i, b, r, by
    unfold St.kill at h1
    simp only at h1
    split at h1
    · cases h1
    · exact h1, h2, h3, h4⟩⟩⟩
theorem Frame.new (S : St) (m : LMap) (w : World) (b : Blk) (k : Nat) (c : Array Value) (e : TypeId) : Frame S m w (S.new b) (m.ext S.next ⟨w.heap.size, 0, k⟩) (w.alloc (.cells c e)) :=
  ⟨by simp, fun B hB hc => ⟨Below.heap_alloc _ _ _ hB, fun ⟨i, d, r, h1, h2, h3, h4⟩ => hc (by
    by_cases hi : i = S.next
    · subst hi
      simp [LMap.ext] at h3
      subst h3
      simp at h4
      omega
    · refine ⟨i, d, r, ?_, h2, ?_, h4⟩
      · simpa [St.new, hi] using h1
      · simpa [LMap.ext, hi] using h3)⟩⟩
theorem setRow_size (w : World) (k : Nat) (c : Array Value) : (w.setRow k c).heap.size = w.heap.size := by simp [World.setRow]
theorem Frame.write {S : St} {m : LMap} (w : World) {id : Nat} {b : Blk} {r : Loc} (hb : S.blk id = some b) (hro : b.ro = false) (hm : m id = some r) (b' : Blk) (hro' : b'.ro = b.ro) (c : Array Value) :
    Frame S m w (S.set id b') m (w.setRow r.cb c) :=
  ⟨Nat.le_of_eq (setRow_size _ _ _).symm, fun B hB hc => ⟨setRow_other w r.cb B c fun e => hc ⟨id, b, r, hb, hro, hm, e.symm⟩, fun ⟨i, d, s, h1, h2, h3, h4⟩ => hc (by
    by_cases hi : i = id
    · subst hi
      rw [hm] at h3
      cases h3
      exact ⟨i, b, r, hb, hro, hm, h4⟩
    · exact ⟨i, d, s, by simpa [St.set, hi] using h1, h2, h3, h4⟩)⟩⟩
theorem Frame.regrow {S : St} {m : LMap} (w : World) {id : Nat} {b : Blk} {r : Loc} (hb : S.blk id = some b) (hro : b.ro = false) (hm : m id = some r) (b' : Blk) (o k : Nat) (c : Array Value) :
    Frame S m w ((S.kill id).new b') (m.ext S.next ⟨r.cb, o, k⟩) (w.setRow r.cb c) :=
  ⟨Nat.le_of_eq (setRow_size _ _ _).symm, fun B hB hc => ⟨setRow_other w r.cb B c fun e => hc ⟨id, b, r, hb, hro, hm, e.symm⟩, fun ⟨i, d, s, h1, h2, h3, h4⟩ => hc (by
    by_cases hi : i = S.next
    · subst hi
      simp [LMap.ext] at h3
      subst h3
      exact ⟨id, b, r, hb, hro, hm, h4⟩
    · refine ⟨i, d, s, ?_, h2, by simpa [LMap.ext, hi] using h3, h4⟩
      simp only [St.new, St.kill, hi, if_false] at h1
      split at h1
      · cases h1
      · exact h1)⟩⟩

end Go.Proofs.Ytbgnaeagdneikaa.Abs
