/- The operations over the abstract memory, and what the machine's operations are told as. -/
import Derived.Test.YtbgnaeagdneikaaCoreAa
namespace Go.Proofs.Ytbgnaeagdneikaa.Abs
open Go Go.RowKit

abbrev Env := Nat → Value
def Env.put (t : Env) (d : Option Nat) (v : Value) : Env := match d with
  | some d => fun i => if i = d then v else t i
  | none => t

def ev (t : Env) : Operand → Value
  | .tmp i => t i
  | .const v => v
  | .global g => .pointer (some ⟨g, 0, none⟩)
  | .func f => .func (.func f) #[] #[]

def atomOk : Value → Bool
  | .bool _ | .int _ _ | .string _ | .pointer none | .slice none 0 0 | .nilFunc | .nilIface => true
  | _ => false
def constOk : Value → Bool
  | .agg cs => cs.all atomOk
  | v => atomOk v
theorem atomOk_rel (m : LMap) {v : Value} (h : atomOk v = true) : VRel m v v ∧ v.oneCell' = true := by
  unfold atomOk at h
  split at h
  · exact ⟨.bool _, rfl⟩
  · exact ⟨.int _ _, rfl⟩
  · exact ⟨.string _, rfl⟩
  · exact ⟨.pnil, rfl⟩
  · exact ⟨.snil, rfl⟩
  · exact ⟨.nilFunc, rfl⟩
  · exact ⟨.nilIface, rfl⟩
  · cases h

theorem constOk_rel (m : LMap) {v : Value} (h : constOk v = true) : VRel m v v := by
  unfold constOk at h
  split at h
  · rename_i cs
    have hc : ∀ x ∈ cs, atomOk x = true := fun x hx => Array.all_eq_true_iff_forall_mem.1 h x hx
    refine .agg rfl (fun x hx => (atomOk_rel m (hc x hx)).2) fun i x y hx hy => ?_
    rw [hx] at hy; cases hy
    exact (atomOk_rel m (hc x (Array.mem_of_getElem? hx))).1
  · exact (atomOk_rel m h).1

/-! ### Operations that only compute -/
inductive PO where
  | mov (x : Operand)
  | pick (c a b : Operand)
  | nilchk (x : Operand)
  | int2 (op : BinOp) (x y : Operand)
  | eqn (kind : Nat) (neg : Bool) (x : Operand)
  | eqb (neg : Bool) (x y : Operand)
  | eqs (neg : Bool) (x y : Operand)
  | eqa (sg : List Bool) (neg : Bool) (x y : Operand)
  | un (op : UnOp) (x : Operand)
  | conv (k : IntKind) (x : Operand)
  | fieldAddr (off : Nat) (x : Operand)
  | field (off sz : Nat) (agg : Bool) (x : Operand)
  | idxA (len esz : Nat) (x i : Operand)
  | idxS (esz : Nat) (x i : Operand)
  | idxV (len esz : Nat) (agg : Bool) (x i : Operand)
  | build (z : List Value) (parts : List (Nat × Nat × Operand))
  | sliceS (esz : Nat) (x : Operand) (lo hi : Option Operand)
  | sliceA (len : Nat) (x : Operand)
  | extract (x : Operand) (i : Nat)
  | lenS (x : Operand)
  | lenC (n : Nat)
  | minmax (mx : Bool) (x y : Operand)
  | mkFunc (f : Nat) (cap : List Operand)

inductive HO where
  | load (sz : Nat) (agg : Bool) (x : Operand)
  | store (sz : Nat) (x v : Operand)
  | box (x : Operand)
  | alloc (z : List Value)
  | buildSlice (esz len : Nat) (z : List Value) (parts : List (Nat × Nat × Operand))
  | makeSlice (esz bytes : Nat) (z : List Value) (l c : Operand)
  | append (esz bytes : Nat) (x y : Operand)
  | b2s (x : Operand)

inductive AOp where
  | p (o : PO)
  | h (o : HO)
  | call (f : Nat) (args : List Operand)
  | callv (x : Operand) (args : List Operand)
  | bad

def int2 (op : BinOp) (k : IntKind) (a : Int) (k' : IntKind) (b : Int) : Option Value :=
  match op with
  | .shl => if b < 0 then none else some (.int k (k.wrap (a * 2 ^ (min b.toNat k.bits))))
  | .shr => if b < 0 then none else some (.int k (a.fdiv (2 ^ (min b.toNat k.bits))))
  | .add => if k = k' then some (.int k (k.wrap (a + b))) else none
  | .sub => if k = k' then some (.int k (k.wrap (a - b))) else none
  | .mul => if k = k' then some (.int k (k.wrap (a * b))) else none
  | .quo => if k = k' then (if b = 0 then none else some (.int k (k.wrap (a.tdiv b)))) else none
  | .rem => if k = k' then (if b = 0 then none else some (.int k (a.tmod b))) else none
  | .and => if k = k' then some (.int k (k.wrap (BitVec.ofInt k.bits a &&& BitVec.ofInt k.bits b).toNat)) else none
  | .or => if k = k' then some (.int k (k.wrap (BitVec.ofInt k.bits a ||| BitVec.ofInt k.bits b).toNat)) else none
  | .xor => if k = k' then some (.int k (k.wrap (BitVec.ofInt k.bits a ^^^ BitVec.ofInt k.bits b).toNat)) else none
  | .andNot => if k = k' then some (.int k (k.wrap (BitVec.ofInt k.bits a &&& ~~~BitVec.ofInt k.bits b).toNat)) else none
  | .eql => if k = k' then some (.bool (a == b)) else none
  | .neq => if k = k' then some (.bool (a != b)) else none
  | .lss => if k = k' then some (.bool (decide (a < b))) else none
  | .leq => if k = k' then some (.bool (decide (a ≤ b))) else none
  | .gtr => if k = k' then some (.bool (decide (a > b))) else none
  | .geq => if k = k' then some (.bool (decide (a ≥ b))) else none

/-- Is a pointer (0), a slice (1), a function (2) nil? -/
def isNil : Nat → Value → Option Bool
  | 0, .pointer none => some true
  | 0, .pointer (some _) => some false
  | 1, .slice none 0 0 => some true
  | 1, .slice (some _) _ _ => some false
  | 2, .nilFunc => some true
  | 2, .func .. => some false
  | _, _ => none

/-- Are two rows of numbers (true) and bools (false) alike? -/
def flatEq : List Bool → List Value → List Value → Option Bool
  | [], [], [] => some true
  | true :: s, .int k a :: xs, .int k' b :: ys => if k = k' then (flatEq s xs ys).map fun r => a == b && r else none
  | false :: s, .bool a :: xs, .bool b :: ys => (flatEq s xs ys).map fun r => a == b && r
  | _, _, _ => none

def partL (agg : Bool) (off sz : Nat) (cs : List Value) : Option Value :=
  if agg then (if off + sz ≤ cs.length then some (.agg ((cs.drop off).take sz).toArray) else none) else cs[off]?

def fillL (cs : List Value) : List (Nat × Nat × Value) → Option (List Value)
  | [] => some cs
  | (o, sz, v) :: r => if v.cells.toList.length = sz ∧ o + sz ≤ cs.length ∧ storable v = true then fillL (ow cs o v.cells.toList) r else none

def bnd (ρ : Operand → Value) (d : Nat) : Option Operand → Option Nat
  | none => some d
  | some x => match ρ x with
    | .int _ i => if 0 ≤ i then some i.toNat else none
    | _ => none

def apure (ρ : Operand → Value) : PO → Option Value
  | .mov x => some (ρ x)
  | .pick c a b => match ρ c with
    | .bool r => some (if r then ρ a else ρ b)
    | _ => none
  | .nilchk x => match ρ x with
    | .pointer (some a) => some (.pointer (some a))
    | _ => none
  | .int2 op x y => match ρ x, ρ y with
    | .int k a, .int k' b => int2 op k a k' b
    | _, _ => none
  | .eqn kind neg x => (isNil kind (ρ x)).map fun b => .bool (b != neg)
  | .eqb neg x y => match ρ x, ρ y with
    | .bool a, .bool b => some (.bool ((a == b) != neg))
    | _, _ => none
  | .eqs neg x y => match ρ x, ρ y with
    | .string a, .string b => some (.bool ((a.toList == b.toList) != neg))
    | _, _ => none
  | .eqa sg neg x y => match ρ x, ρ y with
    | .agg a, .agg b => (flatEq sg a.toList b.toList).map fun r => .bool (r != neg)
    | _, _ => none
  | .un op x => match op, ρ x with
    | .not, .bool b => some (.bool (!b))
    | .neg, .int k n => some (.int k (k.wrap (0 - n)))
    | _, _ => none
  | .conv k x => match ρ x with
    | .int _ n => some (.int k (k.wrap n))
    | _ => none
  | .fieldAddr off x => match ρ x with
    | .pointer (some ⟨id, o, none⟩) => some (.pointer (some ⟨id, o + off, none⟩))
    | _ => none
  | .field off sz agg x => match ρ x with
    | .agg cs => partL agg off sz cs.toList
    | _ => none
  | .idxA len esz x i => match ρ x, ρ i with
    | .pointer (some ⟨id, o, none⟩), .int _ i => if 0 ≤ i ∧ i < (len : Int) then some (.pointer (some ⟨id, o + i.toNat * esz, none⟩)) else none
    | _, _ => none
  | .idxS esz x i => match ρ x, ρ i with
    | .slice (some ⟨id, o, none⟩) len _, .int _ i => if 0 ≤ i ∧ i < (len : Int) then some (.pointer (some ⟨id, o + i.toNat * esz, none⟩)) else none
    | _, _ => none
  | .idxV len esz agg x i => match ρ x, ρ i with
    | .agg cs, .int _ i => if 0 ≤ i ∧ i < (len : Int) then partL agg (i.toNat * esz) esz cs.toList else none
    | _, _ => none
  | .build z parts => (fillL z (parts.map fun p => (p.1, p.2.1, ρ p.2.2))).map fun cs => .agg cs.toArray
  | .sliceS esz x lo hi => match ρ x with
    | .slice none 0 0 => if bnd ρ 0 lo = some 0 ∧ bnd ρ 0 hi = some 0 then some (.slice none 0 0) else none
    | .slice (some ⟨id, o, none⟩) len e => match bnd ρ 0 lo, bnd ρ len hi with
      | some l, some h => if l ≤ h ∧ h ≤ len ∧ (e = 0 ∨ e = esz) then some (.slice (some ⟨id, o + l * esz, none⟩) (h - l) e) else none
      | _, _ => none
    | _ => none
  | .sliceA len x => match ρ x with
    | .pointer (some ⟨id, o, none⟩) => some (.slice (some ⟨id, o, none⟩) len 0)
    | _ => none
  | .extract x i => match ρ x with
    | .tuple vs => vs[i]?
    | _ => none
  | .lenS x => match ρ x with
    | .slice _ n _ => some (.int .i64 n)
    | _ => none
  | .lenC n => some (.int .i64 n)
  | .minmax mx x y => match ρ x, ρ y with
    | .int k a, .int _ b => some (.int k (if mx then (if b > a then b else a) else (if b < a then b else a)))
    | _, _ => none
  | .mkFunc f cap => some (.func (.func f) #[] (cap.map ρ).toArray)

/-- The numbers of a row of bytes. -/
def numsOf : List Value → Option (List Int)
  | [] => some []
  | .int .u8 n :: r => (numsOf r).map (n :: ·)
  | _ => none

/-- The cells of a slice. -/
def cellsOf (S : St) (id o k : Nat) : Option (List Value) :=
  match S.blk id with
  | some b => if o + k ≤ b.cells.length then some ((b.cells.drop o).take k) else none
  | none => none

/-- One cell. -/
def rd (S : St) (id o : Nat) : Option Value :=
  match S.blk id with
  | some b => b.cells[o]?
  | none => none

/-- What is loaded. -/
def ldv (S : St) (agg : Bool) (id o sz : Nat) : Option Value :=
  match agg with
  | true => (cellsOf S id o sz).map fun cs => .agg cs.toArray
  | false => rd S id o

def doAppend (esz bytes : Nat) (x y : Value) (S : St) : Option (Value × St) :=
  match x, y with
    | .slice a len e, .slice none 0 0 => some (.slice a len e, S)
    | .slice a len e, .slice (some ⟨id', o', none⟩) n _ =>
      if n = 0 then some (.slice a len e, S) else
      if (len + n) * bytes ≤ 1099511627776 then
        match cellsOf S id' o' (n * esz) with
        | none => none
        | some new => match a with
          | none => if len = 0 ∧ e = 0 then some (.slice (some ⟨S.next, 0, none⟩) n esz, S.new ⟨false, new⟩) else none
          | some ⟨id, o, none⟩ => match S.blk id, cellsOf S id o (len * esz) with
            | some b, some old => if b.ro = false ∧ e = esz then some (.slice (some ⟨S.next, 0, none⟩) (len + n) esz, (S.kill id).new ⟨false, old ++ new⟩) else none
            | _, _ => none
          | _ => none
      else none
    | _, _ => none

/-- The string of a slice's bytes. -/
def b2sV (x : Value) (S : St) : Option (Value × St) :=
  match x with
    | .slice none 0 0 => some (.string .empty, S)
    | .slice (some ⟨id, o, none⟩) n _ => match cellsOf S id o n with
      | some cs => (numsOf cs).map fun ns => (.string (strOfNums ns), S)
      | none => none
    | _ => none

def aheap (ρ : Operand → Value) (S : St) : HO → Option (Value × St)
  | .load sz agg x => match ρ x with
    | .pointer (some ⟨id, o, none⟩) => (ldv S agg id o sz).map fun v => (v, S)
    | _ => none
  | .store sz x v => match ρ x with
    | .pointer (some ⟨id, o, none⟩) => match S.blk id with
      | some b => if b.ro = false ∧ (ρ v).cells.toList.length = sz ∧ o + sz ≤ b.cells.length ∧ storable (ρ v) = true then
          some (undef, S.set id { b with cells := ow b.cells o (ρ v).cells.toList }) else none
      | none => none
    | _ => none
  | .box x => if storable (ρ x) = true then some (.pointer (some ⟨S.next, 0, none⟩), S.new ⟨false, (ρ x).cells.toList⟩) else none
  | .alloc z => some (.pointer (some ⟨S.next, 0, none⟩), S.new ⟨false, z⟩)
  | .buildSlice esz len z parts => (fillL z (parts.map fun p => (p.1, p.2.1, ρ p.2.2))).map fun cs => (.slice (some ⟨S.next, 0, none⟩) len esz, S.new ⟨false, cs⟩)
  | .makeSlice esz bytes z l c => match ρ l, ρ c with
    | .int _ l, .int _ c => if 0 ≤ l ∧ l ≤ c ∧ c * bytes ≤ 1099511627776 then
        some (.slice (some ⟨S.next, 0, none⟩) l.toNat esz, S.new ⟨false, (madeCells z.toArray (c.toNat * esz)).toList⟩) else none
    | _, _ => none
  | .append esz bytes x y => doAppend esz bytes (ρ x) (ρ y) S
  | .b2s x => b2sV (ρ x) S

end Go.Proofs.Ytbgnaeagdneikaa.Abs
