/- Which abstract operation an operation of the loaded program is; the operations that only compute. -/
import Derived.Test.YtbgnaeagdneikaaCoreAb
namespace Go.Proofs.Ytbgnaeagdneikaa.Abs
open Go Go.RowKit

def szT (P : Program) (t : TypeId) : Option Nat := (P.info? t).map (·.size)
def aggT (P : Program) (t : TypeId) : Option Bool :=
  match P.underlying t with
  | some (.struct _) => some true
  | some (.array _ _) => some true
  | some _ => some false
  | none => none

/-- The literal nil, of a kind. -/
def nilKind : TypeDesc → Operand → Option Nat
  | .pointer _, .const (.pointer none) => some 0
  | .slice _, .const (.slice none 0 0) => some 1
  | .func .., .const .nilFunc => some 2
  | _, _ => none

/-- The cells of a type of numbers (true) and bools (false) alone; none: it isn't such a one. -/
def flatT (P : Program) : Nat → TypeId → Option (List Bool)
  | 0, _ => none
  | d + 1, t =>
    match P.underlying t with
    | some (.int _) => some [true]
    | some .bool => some [false]
    | some (.struct fs) => if P.stoodInHeld t then none else
        fs.toList.foldl (fun acc f => acc.bind fun sg =>
          if f.name ≠ "_" ∧ f.offset = sg.length then (flatT P d f.type).bind fun s => if szT P f.type = some s.length then some (sg ++ s) else none else none) (some [])
    | some (.array n e) => (flatT P d e).bind fun s => if szT P e = some s.length then some (List.replicate n s).flatten else none
    | _ => none

def enters (P : Program) (f : FuncId) : Bool :=
  match P.funcs[f]? with
  | some fn => fn.name != "runtime.NumGoroutine" && fn.body.isSome
  | none => false

def fieldPl (P : Program) (fs : Array Field) (p : Nat × Operand) : Option (Nat × Nat × Operand) :=
  match fs[p.1]? with
  | some f => (szT P f.type).map fun s => (f.offset, s, p.2)
  | none => none

def eqk : BinOp → PO → PO → Option PO
  | .eql, a, _ => some a
  | .neq, _, b => some b
  | _, _, _ => none

def compBin (P : Program) (op : BinOp) (t : TypeId) (x y : Operand) : Option PO :=
  match P.underlying t with
  | none => none
  | some d => match d with
    | .int _ => some (.int2 op x y)
    | .bool => eqk op (.eqb false x y) (.eqb true x y)
    | .string => eqk op (.eqs false x y) (.eqs true x y)
    | .struct _ | .array _ _ => if P.eqGuardType P.depth t = false then (flatT P 20 t).bind fun sg => eqk op (.eqa sg false x y) (.eqa sg true x y) else none
    | d => (nilKind d y).bind fun k => eqk op (.eqn k false x) (.eqn k true x)

def compConv (P : Program) (src dst : TypeId) (x : Operand) : Option PO :=
  match P.underlying src with
  | some (.int _) => match P.underlying dst with
    | some (.int k) => some (.conv k x)
    | _ => none
  | _ => none

def fieldOf (P : Program) (s : TypeId) (f : Nat) : Option Field :=
  match P.underlying s with
  | some (.struct fs) => fs[f]?
  | _ => none

def compFieldAddr (P : Program) (s : TypeId) (x : Operand) (f : Nat) : Option PO :=
  (fieldOf P s f).bind fun fd => (szT P fd.type).bind fun n => if n = 0 then none else some (.fieldAddr fd.offset x)

def compField (P : Program) (s : TypeId) (x : Operand) (f : Nat) : Option PO :=
  (fieldOf P s f).bind fun fd => (szT P fd.type).bind fun sz => (aggT P fd.type).bind fun ag => some (.field fd.offset sz ag x)

def compIndexAddr (P : Program) (t : TypeId) (x i : Operand) : Option PO :=
  match P.underlying t with
  | some (.array n e) => (szT P e).map fun sz => .idxA n sz x i
  | some (.slice e) => (szT P e).map fun sz => .idxS sz x i
  | _ => none

def compIndex (P : Program) (t : TypeId) (x i : Operand) : Option PO :=
  match P.underlying t with
  | some (.array n e) => (szT P e).bind fun sz => (aggT P e).bind fun ag => some (.idxV n sz ag x i)
  | _ => none

def zeroT (P : Program) (t : TypeId) : Option Value := (P.info? t).bind (·.zero)

def compBuild (P : Program) (t : TypeId) (parts : Array (Nat × Operand)) : Option PO :=
  (zeroT P t).bind fun z => if constOk z = true then
    (match P.underlying t with
     | some (.struct fs) => if fs.toList.all (fun f => (szT P f.type).isSome) = true then (parts.toList.mapM (fieldPl P fs)).map fun ps => .build z.cells.toList ps else none
     | some (.array _ e) => (szT P e).map fun sz => .build z.cells.toList (parts.toList.map fun p => (p.1 * sz, sz, p.2))
     | _ => none)
  else none

def compSlice (P : Program) (t : TypeId) (x : Operand) (lo hi mx : Option Operand) : Option PO :=
  match mx with
  | some _ => none
  | none => match P.underlying t with
    | some (.array n e) => if lo.isNone = true ∧ hi.isNone = true then (szT P e).map fun _ => .sliceA n x else none
    | some (.slice e) => (szT P e).map fun sz => .sliceS sz x lo hi
    | _ => none

def compLen (P : Program) (args : List Operand) (ts : List TypeId) : Option PO :=
  match args, ts with
  | [x], [t] => match P.underlying t with
    | some (.slice _) => some (.lenS x)
    | some (.array n _) => some (.lenC n)
    | _ => none
  | _, _ => none

def compMinmax (mx : Bool) : List Operand → Option PO
  | [x, y] => some (.minmax mx x y)
  | _ => none

def compCall (P : Program) (c : Call) : Option PO :=
  match c.callee with
  | .builtin .len => compLen P c.args.toList c.argTypes.toList
  | .builtin .max => compMinmax true c.args.toList
  | .builtin .min => compMinmax false c.args.toList
  | _ => none

def compP (P : Program) : Op → Option PO
  | .move x => some (.mov x)
  | .assign x => some (.mov x)
  | .pick c a b => some (.pick c a b)
  | .nilCheck x => some (.nilchk x)
  | .binOp op t x y _ => compBin P op t x y
  | .unOp op _ x => some (.un op x)
  | .convert src dst x => compConv P src dst x
  | .fieldAddr s x f => compFieldAddr P s x f
  | .field s x f => compField P s x f
  | .indexAddr t x i => compIndexAddr P t x i
  | .index t x i => compIndex P t x i
  | .build t parts => compBuild P t parts
  | .slice t x lo hi mx => compSlice P t x lo hi mx
  | .extract x i => some (.extract x i)
  | .makeFunc (.func f) first cap => if first.isEmpty = true then some (.mkFunc f cap.toList) else none
  | .call c => compCall P c
  | _ => none

def PO.operands : PO → List Operand
  | .mov x | .nilchk x | .eqn _ _ x | .un _ x | .conv _ x | .fieldAddr _ x | .field _ _ _ x | .sliceA _ x | .extract x _ | .lenS x => [x]
  | .pick c a b => [c, a, b]
  | .int2 _ x y | .eqb _ x y | .eqs _ x y | .eqa _ _ x y | .idxA _ _ x y | .idxS _ x y | .idxV _ _ _ x y | .minmax _ x y => [x, y]
  | .build _ ps => ps.map (·.2.2)
  | .sliceS _ x lo hi => [x] ++ lo.toList ++ hi.toList
  | .lenC _ => []
  | .mkFunc _ cap => cap

/-- The abstract environment against the machine's, at all operands that an operation names. -/
def Sees (m : LMap) (ρ ρ' : Operand → Value) (xs : List Operand) : Prop := ∀ x ∈ xs, VRel m (ρ x) (ρ' x)

section lemmas
variable {m : LMap}

theorem VRel.of_int {k : IntKind} {n : Int} {v u : Value} (h : VRel m v u) (e : v = .int k n) : u = .int k n := by subst e; cases h; rfl
theorem VRel.of_bool {b : Bool} {v u : Value} (h : VRel m v u) (e : v = .bool b) : u = .bool b := by subst e; cases h; rfl
theorem VRel.of_string {s : ByteArray} {v u : Value} (h : VRel m v u) (e : v = .string s) : u = .string s := by subst e; cases h; rfl
theorem VRel.of_agg {cs : Array Value} {v u : Value} (h : VRel m v u) (e : v = .agg cs) : ∃ ds, u = .agg ds ∧ ARel m cs ds ∧ ∀ x ∈ cs, x.oneCell' = true := by
  subst e; cases h; rename_i h1 ho h2; exact ⟨_, rfl, ⟨h1, h2⟩, ho⟩
theorem VRel.of_tuple {cs : Array Value} {v u : Value} (h : VRel m v u) (e : v = .tuple cs) : ∃ ds, u = .tuple ds ∧ ARel m cs ds := by
  subst e; cases h; rename_i h1 h2; exact ⟨_, rfl, ⟨h1, h2⟩⟩
theorem VRel.of_ptr {id o : Nat} {v u : Value} (h : VRel m v u) (e : v = .pointer (some ⟨id, o, none⟩)) : ∃ r, m id = some r ∧ u = .pointer (some ⟨r.cb, r.dl + o, none⟩) := by
  subst e; cases h; rename_i r hr; exact ⟨r, hr, rfl⟩
theorem VRel.of_slice {id o len e : Nat} {v u : Value} (h : VRel m v u) (he : v = .slice (some ⟨id, o, none⟩) len e) :
    ∃ r, m id = some r ∧ ((∃ cap, u = .slice (some ⟨r.cb, r.dl + o, none⟩) len cap ∧ len ≤ cap ∧ (e = 0 ∨ r.dl + o + cap * e ≤ r.csz)) ∨ (len = 0 ∧ ∃ a, u = .slice (some a) 0 0)) := by
  subst he
  cases h with
  | slice h hl hc => exact ⟨_, h, .inl ⟨_, rfl, hl, hc⟩⟩
  | sempty h e a => exact ⟨_, h, .inr ⟨rfl, a, rfl⟩⟩
theorem VRel.of_snil {v u : Value} {l c : Nat} (h : VRel m v u) (he : v = .slice none l c) : l = 0 ∧ c = 0 ∧ u = .slice none 0 0 := by
  subst he; cases h; exact ⟨rfl, rfl, rfl⟩

theorem addr_add (cb o n : Nat) : (⟨cb, o, none⟩ : Addr).add n = ⟨cb, o + n, none⟩ := by
  unfold Addr.add
  split
  · rename_i h; subst h; rfl
  · rfl

theorem partL_rel {agg : Bool} {off sz : Nat} {cs ds : List Value} (h : LRel m cs ds) (ho : ∀ x ∈ cs, x.oneCell' = true) {v : Value} (hv : partL agg off sz cs = some v) :
    ∃ u, partL agg off sz ds = some u ∧ VRel m v u := by
  unfold partL at hv ⊢
  cases agg with
  | true =>
    simp only [if_true] at hv ⊢
    split at hv
    · rename_i hl
      cases hv
      rw [if_pos (by rw [← h.1]; exact hl)]
      refine ⟨_, rfl, ?_⟩
      have hr := ARel.of_list ((h.drop off).take sz)
      exact .agg hr.1 (fun x hx => ho x (by simp at hx; exact List.mem_of_mem_drop (List.mem_of_mem_take hx))) hr.2
    · cases hv
  | false =>
    simp only [Bool.false_eq_true, if_false] at hv ⊢
    exact h.get hv

theorem fillL_rel {cs ds : List Value} (h : LRel m cs ds) (ho : ∀ x ∈ cs, x.oneCell' = true) :
    ∀ (ps qs : List (Nat × Nat × Value)), ps.length = qs.length → (∀ (i : Nat) p q, ps[i]? = some p → qs[i]? = some q → p.1 = q.1 ∧ p.2.1 = q.2.1 ∧ VRel m p.2.2 q.2.2) →
    ∀ {vs}, fillL cs ps = some vs → ∃ us, fillL ds qs = some us ∧ LRel m vs us ∧ ∀ x ∈ vs, x.oneCell' = true := by
  intro ps
  induction ps generalizing cs ds with
  | nil =>
    intro qs hl _ vs hv
    have : qs = [] := List.eq_nil_of_length_eq_zero (by simpa using hl.symm)
    subst this
    simp [fillL] at hv ⊢
    subst hv
    exact ⟨h, ho⟩
  | cons p ps ih =>
    intro qs hl hq vs hv
    cases qs with
    | nil => simp at hl
    | cons q qs =>
      obtain ⟨e1, e2, hr⟩ := hq 0 p q rfl rfl
      obtain ⟨o, sz, v⟩ := p
      obtain ⟨o', sz', u⟩ := q
      simp only at e1 e2 hr
      subst e1; subst e2
      simp only [fillL] at hv ⊢
      split at hv
      · rename_i hc
        obtain ⟨c1, c2, c3⟩ := hc
        have hcr := hr.cells
        have hst : storable u = true := by cases hr <;> first | rfl | (simp [storable] at c3)
        rw [if_pos ⟨by rw [← hcr.1]; exact c1, by rw [← h.1]; exact c2, hst⟩]
        exact ih (h.ow hcr o) (ow_one ho (hr.cells_one c3) o) qs (by simpa using hl) (fun i a b ha hb => hq (i + 1) a b (by simpa using ha) (by simpa using hb)) hv
      · cases hv

theorem run_part (P : Program) (w : World) (t : TypeId) (cs : List Value) (off sz : Nat) (agg : Bool) (hs : szT P t = some sz) (ha : aggT P t = some agg) {v : Value}
    (hv : partL agg off sz cs = some v) : (part t cs.toArray off).run P w = .ok v w := by
  unfold szT at hs
  obtain ⟨i, hi, hsz⟩ := Option.map_eq_some_iff.1 hs
  unfold aggT at ha
  cases hu : P.underlying t with
  | none => simp [hu] at ha
  | some d =>
    unfold partL at hv
    have hag : (isAgg t).run P w = .ok agg w := by
      unfold isAgg
      simp only [Sem.run_bind, run_underlying hu, Result.andThen_ok]
      cases d <;> simp [hu] at ha <;> subst ha <;> rfl
    unfold part
    simp only [Sem.run_bind, hag, Result.andThen_ok]
    cases agg with
    | true =>
      simp only [if_true] at hv ⊢
      split at hv
      · cases hv
        simp only [sizeOf, typeInfo, Sem.run_bind, run_program, hi, Result.andThen_ok, Sem.run_pure, hsz]
        congr 2
        simp [List.extract_toArray, List.extract_eq_take_drop]
      · cases hv
    | false =>
      simp only [Bool.false_eq_true, if_false] at hv ⊢
      rw [List.getElem?_toArray, hv]
      rfl
end lemmas
end Go.Proofs.Ytbgnaeagdneikaa.Abs
