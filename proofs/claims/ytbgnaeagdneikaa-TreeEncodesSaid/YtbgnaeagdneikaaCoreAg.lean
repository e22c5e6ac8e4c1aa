/- The operations on memory, held against the machine's. -/
import Derived.Test.YtbgnaeagdneikaaCoreAf
namespace Go.Proofs.Ytbgnaeagdneikaa.Abs
open Go Go.RowKit

def compAppend (P : Program) (args : List Operand) (ts : List TypeId) : Option HO :=
  match args, ts with
  | [x, y], [t, t'] => if t' = t then (match P.underlying t with
    | some (.slice e) => (P.info? e).bind fun i => if i.size = 0 then none else i.zero.bind fun z => if z.cells.size = i.size ∧ 0 < i.bytes then some (.append i.size i.bytes x y) else none
    | _ => none) else none
  | _, _ => none

def compH (P : Program) : Op → Option HO
  | .load t x => (szT P t).bind fun sz => (aggT P t).bind fun ag => some (.load sz ag x)
  | .store t a v => (szT P t).map fun sz => .store sz a v
  | .box _ x => some (.box x)
  | .alloc t => (zeroT P t).bind fun z => if constOk z = true then some (.alloc z.cells.toList) else none
  | .buildSlice t len parts => match P.underlying t with
    | some (.slice e) => (szT P e).bind fun sz => (zeroT P e).bind fun z =>
      if len * sz ≤ 16777216 ∧ z.cells.toList.all atomOk = true ∧ 0 < z.cells.size then
        some (.buildSlice sz len ((if len * sz = 0 then #[] else (Array.range (len * sz)).map (z.cells[· % z.cells.size]!)).toList) (parts.toList.map fun p => (p.1 * sz, sz, p.2))) else none
    | _ => none
  | .makeSlice t l c => match P.underlying t with
    | some (.slice e) => (P.info? e).bind fun i => i.zero.bind fun z => if z.cells.toList.all atomOk = true ∧ 0 < i.bytes ∧ 0 < z.cells.size then some (.makeSlice i.size i.bytes z.cells.toList l c) else none
    | _ => none
  | .convert src dst x => match P.underlying src, P.underlying dst with
    | some (.slice e), some .string => match P.underlying e with
      | some (.int .u8) => some (.b2s x)
      | _ => none
    | _, _ => none
  | .call { callee := .builtin .append, args, argTypes } => compAppend P args.toList argTypes.toList
  | _ => none

def HO.operands : HO → List Operand
  | .load _ _ x | .box x | .b2s x => [x]
  | .store _ x v => [x, v]
  | .alloc _ => []
  | .buildSlice _ _ _ ps => ps.map (·.2.2)
  | .makeSlice _ _ _ l c => [l, c]
  | .append _ _ x y => [x, y]

section
variable {P : Program} {m : LMap} {ρ ρ' : Operand → Value} {w0 w : World} {S : St}

theorem cell_at {cb o : Nat} {c : Array Value} {e : TypeId} {fr : Nat × Nat} (h : w.heap[cb]? = some (.cells c e fr)) (j : Nat) : w.cell? ((⟨cb, o, none⟩ : Addr).add j) = c[o + j]? := by
  rw [addr_add, cell_of_row w cb (o + j) c e fr h]

/-- Cells of an abstract block, as the machine reads them. -/
theorem Rel.read (h : Rel w0 m S w) {id o k : Nat} {cs : List Value} (hc : cellsOf S id o k = some cs) {r : Loc} (hr : m id = some r) :
    cs.length = k ∧ (∀ x ∈ cs, x.oneCell' = true) ∧ ∃ us, LRel m cs us ∧ ∀ (j : Nat) v, us[j]? = some v → w.cell? ((⟨r.cb, r.dl + o, none⟩ : Addr).add j) = some v := by
  unfold cellsOf at hc
  cases hb : S.blk id with
  | none => simp [hb] at hc
  | some b =>
    simp only [hb] at hc
    split at hc
    case isFalse => cases hc
    rename_i hl
    cases hc
    obtain ⟨r', hr', hone, c, e, fr, h1, h2, h3, _, _, h6⟩ := h.blk id b hb
    rw [hr] at hr'; cases hr'
    refine ⟨by simp; omega, fun x hx => hone x (List.mem_of_mem_drop (List.mem_of_mem_take hx)), (c.toList.drop (r.dl + o)).take k, ⟨by simp; omega, fun i v u hv hu => ?_⟩, fun j v hv => ?_⟩
    · rw [List.getElem?_take] at hv hu
      split at hv
      · rename_i hi
        rw [if_pos hi] at hu
        rw [List.getElem?_drop] at hv hu
        obtain ⟨u', hu', hvu⟩ := h6 _ v hv
        rw [← Nat.add_assoc] at hu'
        have : u' = u := by
          have hu'' : c[r.dl + o + i]? = some u := by simpa using hu
          rw [hu''] at hu'; cases hu'; rfl
        exact this ▸ hvu
      · cases hv
    · rw [List.getElem?_take] at hv
      split at hv
      · rw [List.getElem?_drop] at hv
        rw [cell_at h1 j]
        simpa using hv
      · cases hv

theorem run_isAgg {t : TypeId} {b : Bool} (h : aggT P t = some b) (w : World) : (isAgg t).run P w = .ok b w := by
  unfold aggT at h
  cases hu : P.underlying t with
  | none => simp [hu] at h
  | some d =>
    unfold isAgg
    simp only [Sem.run_bind, run_underlying hu, Result.andThen_ok]
    cases d <;> simp [hu] at h <;> subst h <;> rfl

/-- What an operation on memory comes to. -/
def Does (P : Program) (w0 : World) (m : LMap) (S : St) (w : World) (ρ' : Operand → Value) (o : Oper) (v : Value) (S' : St) : Prop :=
  ∃ m' u w', m.le m' ∧ Rel w0 m' S' w' ∧ Frame S m w S' m' w' ∧ S.next ≤ S'.next ∧ VRel m' v u ∧
    ((execOp ρ' o).run P w = .ok (.value u) w' ∨ ((execOp ρ' o).run P w = .ok .skip w' ∧ u = undef))

variable {dst : Option Tmp} {type : TypeId} {pos : String} {after : Array Edge} {guard : Option (Nat × Bool)}

theorem ldv_rel (hR : Rel w0 m S w) {ty : TypeId} {sz : Nat} {ag : Bool} (hsz : szT P ty = some sz) (hag : aggT P ty = some ag) {id o : Nat} {v : Value} (hv : ldv S ag id o sz = some v)
    {r : Loc} (hr : m id = some r) : ∃ u, VRel m v u ∧ (loadVar ty ⟨r.cb, r.dl + o, none⟩).run P w = .ok u w := by
  cases ag with
  | true =>
    simp only [ldv] at hv
    obtain ⟨cs, hco, rfl⟩ := Option.map_eq_some_iff.1 hv
    obtain ⟨hlen, hone, us, hru, hcell⟩ := hR.read hco hr
    have hrr := ARel.of_list hru
    refine ⟨.agg us.toArray, .agg hrr.1 (fun z hz => hone z (by simpa using hz)) hrr.2, ?_⟩
    have hld := run_loadCells_list (P := P) w ⟨r.cb, r.dl + o, none⟩ us hcell
    rw [← hru.1, hlen] at hld
    simp [loadVar, run_isAgg hag, run_sizeOf hsz, hld]
  | false =>
    simp only [ldv, rd] at hv
    split at hv
    case h_2 => cases hv
    rename_i b hb
    obtain ⟨r', hr', hone, c, e, fr, h1, h2, h3, _, _, h6⟩ := hR.blk id b hb
    rw [hr] at hr'; cases hr'
    obtain ⟨u, huc, hvu⟩ := h6 o v hv
    have hcell : w.cell? ⟨r.cb, r.dl + o, none⟩ = some u := by rw [cell_of_row w r.cb (r.dl + o) c e fr h1]; exact huc
    exact ⟨u, hvu, by simp [loadVar, run_isAgg hag, hcell]⟩

theorem does_load {t : TypeId} {x : Operand} {ho : HO} (hc : compH P (.load t x) = some ho) (hR : Rel w0 m S w) (hs : Sees m ρ ρ' ho.operands) {v : Value} {S' : St} (hv : aheap ρ S ho = some (v, S')) :
    Does P w0 m S w ρ' ⟨dst, .load t x, type, pos, after, guard⟩ v S' := by
  change (szT P t).bind (fun sz => (aggT P t).bind fun ag => some (.load sz ag x)) = some ho at hc
  obtain ⟨sz, hsz, hc⟩ := Option.bind_eq_some_iff.1 hc
  obtain ⟨ag, hag, hc⟩ := Option.bind_eq_some_iff.1 hc
  cases hc
  simp only [aheap] at hv
  split at hv
  case h_2 => cases hv
  rename_i id o hx
  obtain ⟨y, hy, hv⟩ := Option.map_eq_some_iff.1 hv
  cases hv
  obtain ⟨r, hr, hu⟩ := (hs x (by simp [HO.operands])).of_ptr hx
  obtain ⟨u, hvu, hld⟩ := ldv_rel (P := P) hR hsz hag hy hr
  refine ⟨m, u, w, m.le_refl, hR, .refl _ _ _, Nat.le_refl _, hvu, .inl ?_⟩
  simp [execOp, hu, Instr.loadAt, Instr.sureAddr, hld]

theorem does_store {t : TypeId} {x y : Operand} {ho : HO} (hc : compH P (.store t x y) = some ho) (hR : Rel w0 m S w) (hs : Sees m ρ ρ' ho.operands) {v : Value} {S' : St} (hv : aheap ρ S ho = some (v, S')) :
    Does P w0 m S w ρ' ⟨dst, .store t x y, type, pos, after, guard⟩ v S' := by
  change (szT P t).map (fun sz => HO.store sz x y) = some ho at hc
  obtain ⟨sz, hsz, rfl⟩ := Option.map_eq_some_iff.1 hc
  simp only [aheap] at hv
  split at hv
  case h_2 => cases hv
  rename_i id o hx
  cases hb : S.blk id with
  | none => simp [hb] at hv
  | some b =>
    simp only [hb] at hv
    split at hv
    case isFalse => cases hv
    rename_i hcnd
    obtain ⟨hro, hsize, hlen, hst⟩ := hcnd
    cases hv
    obtain ⟨r, hr, hu⟩ := (hs x (by simp [HO.operands])).of_ptr hx
    have hy := hs y (by simp [HO.operands])
    obtain ⟨r', hr', hone, c, e, fr, h1, h2, h3, h4, _, h6⟩ := hR.blk id b hb
    rw [hr] at hr'; cases hr'
    obtain ⟨rfl, hB⟩ := h4 hro
    have hcl := hy.cells
    have hone1 := hy.cells_one hst
    have hone2 : ∀ z ∈ (ρ' y).cells.toList, z.oneCell' = true := by
      intro z hz
      obtain ⟨i, hi⟩ := List.getElem?_of_mem hz
      have hi' : i < (ρ y).cells.toList.length := by rw [hcl.1]; exact (List.getElem?_eq_some_iff.1 hi).1
      have := hcl.2 i _ z (List.getElem?_eq_getElem hi') hi
      rw [← this.oneCell]
      exact hone1 _ (List.getElem_mem hi')
    have hw := hR.write hb hro hr hcl hone1 (o := o) (by rw [hsize]; exact hlen) c e h1
    refine ⟨m, undef, _, m.le_refl, hw, .write w hb hro hr { b with cells := Go.Proofs.Ytbgnaeagdneikaa.Abs.ow b.cells o (ρ y).cells.toList } rfl _, Nat.le_refl _, .tuple rfl (fun i a b ha => by simp at ha), .inr ⟨?_, rfl⟩⟩
    have hul : (ρ' y).cells.toList.length = sz := by rw [← hcl.1]; exact hsize
    have hstore := run_storeCells_at P r.cb (r.dl + o) e (ρ' y).cells.toList 0 c w h1 (by rw [hul]; omega) hone2
    have hus : (ρ' y).cells.size = sz := by simpa using hul
    simp only [Nat.add_zero] at hstore
    simp [execOp, hu, Instr.storeAt, Instr.sureAddr, storeVar, run_sizeOf hsz, hus, hstore]

/-- A new row of cells. -/
theorem Rel.newRow (hR : Rel w0 m S w) {vs : List Value} {us : Array Value} (e : TypeId) (hone : ∀ v ∈ vs, v.oneCell' = true) (hrel : LRel m vs us.toList) :
    Rel w0 (m.ext S.next ⟨w.heap.size, 0, us.size⟩) (S.new ⟨false, vs⟩) (w.alloc (.cells us e)) := by
  have hl : vs.length = us.size := by simpa using hrel.1
  exact hR.new vs us e hone (by omega) (by rw [List.take_of_length_le (by simp [hl])]; exact hrel)

theorem vrel_new {id : Nat} {r : Loc} (hr : m id = some r) (h0 : r.dl = 0) : VRel m (.pointer (some ⟨id, 0, none⟩)) (.pointer (some ⟨r.cb, 0, none⟩)) := by
  have := VRel.ptr (off := 0) hr
  rwa [h0] at this

theorem does_box {t : TypeId} {x : Operand} {ho : HO} (hc : compH P (.box t x) = some ho) (hR : Rel w0 m S w) (hs : Sees m ρ ρ' ho.operands) {v : Value} {S' : St} (hv : aheap ρ S ho = some (v, S')) :
    Does P w0 m S w ρ' ⟨dst, .box t x, type, pos, after, guard⟩ v S' := by
  cases hc
  simp only [aheap] at hv
  split at hv
  case isFalse => cases hv
  rename_i hst
  cases hv
  have hx := hs.head
  have hn := hR.newRow t (hx.cells_one hst) (us := (ρ' x).cells) hx.cells
  refine ⟨_, .pointer (some ⟨w.heap.size, 0, none⟩), _, LMap.le_ext hR.fresh _, hn, .new _ _ _ _ _ _ _, by simp [St.new], vrel_new (r := ⟨w.heap.size, 0, (ρ' x).cells.size⟩) (by simp [LMap.ext]) rfl, .inl ?_⟩
  simp [execOp, Instr.box, newVar, newRow]

theorem atoms_rel {cs : List Value} (h : ∀ x ∈ cs, atomOk x = true) : LRel m cs cs ∧ ∀ x ∈ cs, x.oneCell' = true :=
  ⟨⟨rfl, fun i v u hv hu => by rw [hv] at hu; cases hu; exact (atomOk_rel m (h v (List.mem_of_getElem? hv))).1⟩, fun x hx => (atomOk_rel m (h x hx)).2⟩

theorem does_alloc {t : TypeId} {ho : HO} (hc : compH P (.alloc t) = some ho) (hR : Rel w0 m S w) {v : Value} {S' : St} (hv : aheap ρ S ho = some (v, S')) :
    Does P w0 m S w ρ' ⟨dst, .alloc t, type, pos, after, guard⟩ v S' := by
  change (zeroT P t).bind (fun z => if constOk z = true then some (HO.alloc z.cells.toList) else none) = some ho at hc
  obtain ⟨z, hz, hc⟩ := Option.bind_eq_some_iff.1 hc
  split at hc
  case isFalse => cases hc
  rename_i hzo
  cases hc
  cases hv
  obtain ⟨h1, h2⟩ := atoms_rel (m := m) (constOk_cells hzo)
  have hn := hR.newRow t h2 (us := z.cells) h1
  refine ⟨_, .pointer (some ⟨w.heap.size, 0, none⟩), _, LMap.le_ext hR.fresh _, hn, .new _ _ _ _ _ _ _, by simp [St.new], vrel_new (r := ⟨w.heap.size, 0, z.cells.size⟩) (by simp [LMap.ext]) rfl, .inl ?_⟩
  simp [execOp, Instr.alloc, run_zeroValue (P := P) (t := t) hz, newVar, newRow]

theorem zeros_atoms {z : Array Value} (h : z.toList.all atomOk = true) (n : Nat) (hn : 0 < z.size) : ∀ x ∈ ((Array.range n).map (z[· % z.size]!)).toList, atomOk x = true := by
  intro x hx
  simp only [Array.toList_map, List.mem_map] at hx
  obtain ⟨i, hi, rfl⟩ := hx
  have hlt : i % z.size < z.size := Nat.mod_lt _ hn
  rw [getElem!_pos z (i % z.size) hlt]
  exact List.all_eq_true.1 h _ (by simp)

theorem vrel_newSlice {id n cap e : Nat} {r : Loc} (hr : m id = some r) (h0 : r.dl = 0) (hl : n ≤ cap) (hc : cap * e ≤ r.csz) : VRel m (.slice (some ⟨id, 0, none⟩) n e) (.slice (some ⟨r.cb, 0, none⟩) n cap) := by
  have := VRel.slice (off := 0) (e := e) hr hl (.inr (by omega))
  rwa [h0] at this

theorem does_buildSlice {t : TypeId} {len : Nat} {parts : Array (Nat × Operand)} {ho : HO} (hc : compH P (.buildSlice t len parts) = some ho) (hR : Rel w0 m S w) (hs : Sees m ρ ρ' ho.operands) {v : Value} {S' : St} (hv : aheap ρ S ho = some (v, S')) :
    Does P w0 m S w ρ' ⟨dst, .buildSlice t len parts, type, pos, after, guard⟩ v S' := by
  simp only [compH] at hc
  split at hc
  case h_2 => cases hc
  rename_i e hut
  obtain ⟨sz, hsz, hc⟩ := Option.bind_eq_some_iff.1 hc
  obtain ⟨z, hz, hc⟩ := Option.bind_eq_some_iff.1 hc
  split at hc
  case isFalse => cases hc
  rename_i hcnd
  obtain ⟨h24, hall, hzs⟩ := hcnd
  cases hc
  simp only [aheap] at hv
  obtain ⟨vs, hvs, hv⟩ := Option.map_eq_some_iff.1 hv
  cases hv
  have hzl : ∀ x ∈ (if len * sz = 0 then #[] else (Array.range (len * sz)).map (z.cells[· % z.cells.size]!)).toList, atomOk x = true := by
    intro x hx
    split at hx
    · simp at hx
    · exact zeros_atoms hall _ hzs x hx
  obtain ⟨us, hus, hru, hou⟩ := fillL_map_rel hzl (by simpa [HO.operands] using hs) hvs
  have hn := hR.newRow e hou (us := us.toArray) (by simpa using hru)
  have hzlen : (if len * sz = 0 then #[] else (Array.range (len * sz)).map (z.cells[· % z.cells.size]!)).toList.length = len * sz := by split <;> simp [*]
  have hfl : ∀ (ps : List (Nat × Nat × Value)) (cs : List Value) {vs}, fillL cs ps = some vs → vs.length = cs.length := by
    intro ps
    induction ps with
    | nil => intro cs vs h; simp [fillL] at h; rw [h]
    | cons p ps ih =>
      intro cs vs h
      obtain ⟨o, s, v⟩ := p
      simp only [fillL] at h
      split at h
      · rw [ih _ h, ow_length]
      · cases h
  have husl : us.length = len * sz := by rw [hfl _ _ hus, hzlen]
  refine ⟨_, .slice (some ⟨w.heap.size, 0, none⟩) len len, _, LMap.le_ext hR.fresh _, hn, .new _ _ _ _ _ _ _, by simp [St.new], vrel_newSlice (r := ⟨w.heap.size, 0, us.toArray.size⟩) (by simp [LMap.ext]) rfl (Nat.le_refl _) (by simp [husl]), .inl ?_⟩
  have hfill := fillOf (fun i => some (i * sz, sz)) (parts.map fun (i, x) => (i, ρ' x)).toList ((parts.toList.map fun p => (p.1 * sz, sz, p.2)).map fun p => (p.1, p.2.1, ρ' p.2.2)) _ (by simp)
        (fun i p q hp hq => by
          simp only [Array.toList_map, List.getElem?_map] at hp hq
          obtain ⟨p0, hp0, rfl⟩ := Option.map_eq_some_iff.1 hp
          obtain ⟨q0, hq0, rfl⟩ := Option.map_eq_some_iff.1 hq
          obtain ⟨q1, hq1, rfl⟩ := Option.map_eq_some_iff.1 hq0
          rw [hp0] at hq1; cases hq1
          simp) hus
  simp only [Array.toArray_toList] at hfill
  have h24' : ¬ (len * sz > 2 ^ 24) := by omega
  show ((do pure (.value (← Instr.buildSlice t len (parts.map fun (i, x) => (i, ρ' x))))) : Sem Next).run P w = _
  simp only [Instr.buildSlice, Sem.run_bind, run_underlying hut, Result.andThen_ok, run_sizeOf hsz, h24', if_false]
  by_cases h0 : len * sz = 0
  · simp only [h0, if_true, Array.range_zero', Array.map_empty] at hfill ⊢
    simp only [hfill, Sem.run_bind, newRow, run_newObj, Result.andThen_ok, Sem.run_pure]
    rfl
  · simp only [h0, if_false] at hfill ⊢
    simp only [Sem.run_bind, run_zeroValue (P := P) (t := e) hz w, Result.andThen_ok, Sem.run_pure, hfill, newRow, run_newObj]
    rfl

theorem does_makeSlice {t : TypeId} {l c : Operand} {ho : HO} (hc : compH P (.makeSlice t l c) = some ho) (hR : Rel w0 m S w) (hs : Sees m ρ ρ' ho.operands) {v : Value} {S' : St} (hv : aheap ρ S ho = some (v, S')) :
    Does P w0 m S w ρ' ⟨dst, .makeSlice t l c, type, pos, after, guard⟩ v S' := by
  simp only [compH] at hc
  split at hc
  case h_2 => cases hc
  rename_i e hut
  obtain ⟨i, hi, hc⟩ := Option.bind_eq_some_iff.1 hc
  obtain ⟨z, hz, hc⟩ := Option.bind_eq_some_iff.1 hc
  split at hc
  case isFalse => cases hc
  rename_i hcnd
  obtain ⟨hall, hb0, hzs⟩ := hcnd
  cases hc
  simp only [aheap] at hv
  split at hv
  case h_2 => cases hv
  rename_i kl l' kc c' hl hcc
  split at hv
  case isFalse => cases hv
  rename_i hcnd
  obtain ⟨hl0, hlc, hcb⟩ := hcnd
  cases hv
  simp only [Array.toArray_toList]
  have hat := zeros_atoms hall (c'.toNat * i.size) hzs
  obtain ⟨h1, h2⟩ := atoms_rel (m := m) hat
  have hn := hR.newRow e (us := madeCells z.cells (c'.toNat * i.size)) h2 h1
  have hc63 : c' ≤ 1099511627776 := by
    have : c' * 1 ≤ c' * (i.bytes : Int) := Int.mul_le_mul_of_nonneg_left (by omega) (by omega)
    omega
  have hb : (i.bytes : Int) * c' ≤ 281474976710656 := by rw [Int.mul_comm]; omega
  have hr := run_make (P := P) w t e i z hut hi hz kl kc l' c' hl0 hlc hb (by omega)
  have e1 := (hs l (by simp [HO.operands])).of_int hl
  have e2 := (hs c (by simp [HO.operands])).of_int hcc
  refine ⟨_, .slice (some ⟨w.heap.size, 0, none⟩) l'.toNat c'.toNat, _, LMap.le_ext hR.fresh _, hn, .new _ _ _ _ _ _ _, by simp [St.new], vrel_newSlice (r := ⟨w.heap.size, 0, (madeCells z.cells (c'.toNat * i.size)).size⟩) (by simp [LMap.ext]) rfl (by omega) (by simp [size_madeCells]), .inl ?_⟩
  simp [execOp, e1, e2, hr]

/-- The end of an in-place append: the elder name is forgotten, the block bears a new one. -/
theorem Rel.regrow (h : Rel w0 m S w) {id o : Nat} {b : Blk} {r : Loc} (hb : S.blk id = some b) (hro : b.ro = false) (hm : m id = some r) {old new us : List Value} (hold : cellsOf S id o old.length = some old)
    (hnew : LRel m new us) (hone : ∀ v ∈ new, v.oneCell' = true) (c : Array Value) (e : TypeId) (hc : w.heap[r.cb]? = some (.cells c e (0, 0))) (hsz : c.size = r.csz) (hfit : r.dl + o + old.length + us.length ≤ c.size) :
    Rel w0 (m.ext S.next ⟨r.cb, r.dl + o, r.csz⟩) ((S.kill id).new ⟨false, old ++ new⟩) (w.setRow r.cb (c.toList.take (r.dl + o + old.length) ++ us ++ c.toList.drop (r.dl + o + old.length + us.length)).toArray) := by
  have hfr := h.fresh
  have hle := LMap.le_ext hfr ⟨r.cb, r.dl + o, r.csz⟩
  obtain ⟨r', hr', hone', c', e', fr', h1, h2, h3, h4, h5, h6⟩ := h.blk id b hb
  rw [hm] at hr'; cases hr'
  rw [hc] at h1
  cases h1
  obtain ⟨_, hB⟩ := h4 hro
  have hother : ∀ k, k ≠ r.cb → (w.setRow r.cb (c.toList.take (r.dl + o + old.length) ++ us ++ c.toList.drop (r.dl + o + old.length + us.length)).toArray).heap[k]? = w.heap[k]? := fun k hk => setRow_other w r.cb k _ hk
  have hold' : o + old.length ≤ b.cells.length ∧ old = (b.cells.drop o).take old.length := by
    unfold cellsOf at hold
    rw [hb] at hold
    simp only at hold
    split at hold
    · rename_i hl
      exact ⟨hl, (Option.some.inj hold).symm⟩
    · cases hold
  obtain ⟨hol, holde⟩ := hold'
  have hlive : ∀ i d, S.blk i = some d → i ≠ id → ∀ s, m i = some s → s.cb ≠ r.cb := by
    intro i d hd hi s hs hcb
    obtain ⟨s', hs', _, _, _, _, _, _, _, g4, g5, _⟩ := h.blk i d hd
    rw [hs] at hs'; cases hs'
    cases hdro : d.ro with
    | true => have := g5 hdro; omega
    | false => exact hi (h.inj i id d b s r hd hb hdro hro hs hm hcb)
  have cases_ : ∀ i d, ((S.kill id).new ⟨false, old ++ new⟩).blk i = some d → (i = S.next ∧ d = ⟨false, old ++ new⟩) ∨ (i ≠ S.next ∧ i ≠ id ∧ S.blk i = some d) := by
    intro i d hd
    by_cases hi : i = S.next
    · subst hi; simp [St.new, St.kill] at hd; exact .inl ⟨rfl, hd.symm⟩
    · by_cases hii : i = id
      · simp [St.new, St.kill, hii] at hd; subst hii; simp [hi] at hd
      · simp [St.new, St.kill, hi, hii] at hd; exact .inr ⟨hi, hii, hd⟩
  refine ⟨h.below.trans ⟨rfl, rfl, rfl, by simp [World.setRow], fun k hk => hother k (by omega)⟩, fun i s hs => ?_, fun i d hd => ?_, fun i j d d' s s' hd hd' p p' hs hs' hcb => ?_⟩
  · show i < S.next + 1
    unfold LMap.ext at hs
    by_cases hi : i = S.next
    · omega
    · rw [if_neg hi] at hs; have := h.dom i s hs; omega
  · rcases cases_ i d hd with ⟨rfl, rfl⟩ | ⟨hi, hii, hd⟩
    · refine ⟨⟨r.cb, r.dl + o, r.csz⟩, by simp [LMap.ext], fun v hv => ?_, _, e, (0, 0), setRow_heap w r.cb c _ e (0, 0) hc, ?_, ?_, fun _ => ⟨rfl, hB⟩, fun hx => (by simp at hx), fun i v hv => ?_⟩
      · simp at hv
        rcases hv with hv | hv
        · rw [holde] at hv; exact hone' v (List.mem_of_mem_drop (List.mem_of_mem_take hv))
        · exact hone v hv
      · simp only [List.size_toArray, List.length_append, List.length_take, List.length_drop, Array.length_toList]; omega
      · have := hnew.1; simp; omega
      · simp only [List.getElem?_toArray]
        simp only [List.getElem?_append] at hv
        rw [List.append_assoc, List.getElem?_append]
        have hlt : (c.toList.take (r.dl + o + old.length)).length = r.dl + o + old.length := by simp; omega
        split at hv
        · rename_i hi
          rw [if_pos (by omega), List.getElem?_take, if_pos (by omega)]
          rw [holde, List.getElem?_take, if_pos hi, List.getElem?_drop] at hv
          obtain ⟨u, hu, hvu⟩ := h6 _ v hv
          exact ⟨u, by rw [← hu]; simp [Nat.add_assoc], hvu.mono hle⟩
        · rename_i hi
          rw [if_neg (by omega), hlt, List.getElem?_append]
          obtain ⟨u, hu, hvu⟩ := hnew.get hv
          have hul : i - old.length < us.length := (List.getElem?_eq_some_iff.1 hu).1
          rw [if_pos (by omega)]
          exact ⟨u, by rw [← hu]; congr 1; omega, hvu.mono hle⟩
    · obtain ⟨s, hs, hk⟩ := h.blk i d hd
      exact ⟨s, hle _ _ hs, (hk.mono hle).world (hother _ (hlive i d hd hii s hs))⟩
  · rcases cases_ i d hd with ⟨rfl, rfl⟩ | ⟨hi, hii, hd⟩
    · rcases cases_ j d' hd' with ⟨rfl, rfl⟩ | ⟨hj, hji, hd'⟩
      · rfl
      · simp [LMap.ext] at hs
        simp [LMap.ext, hj] at hs'
        subst hs
        exact absurd hcb.symm (hlive j d' hd' hji s' hs')
    · rcases cases_ j d' hd' with ⟨rfl, rfl⟩ | ⟨hj, hji, hd'⟩
      · simp [LMap.ext] at hs'
        simp [LMap.ext, hi] at hs
        subst hs'
        exact absurd hcb (hlive i d hd hii s hs)
      · simp [LMap.ext, hi] at hs
        simp [LMap.ext, hj] at hs'
        exact h.inj i j d d' s s' hd hd' p p' hs hs' hcb

end
section
variable {P : Program} {m : LMap} {ρ ρ' : Operand → Value} {w0 w : World} {S : St}
variable {dst : Option Tmp} {type : TypeId} {pos : String} {after : Array Edge} {guard : Option (Nat × Bool)}

theorem numsOf_map : ∀ {cs : List Value} {ns : List Int}, numsOf cs = some ns → cs = ns.map (Value.int .u8) := by
  intro cs
  induction cs with
  | nil => intro ns h; simp [numsOf] at h; subst h; rfl
  | cons c cs ih =>
    intro ns h
    unfold numsOf at h
    split at h
    · rename_i he; cases he
    · rename_i n r he
      cases he
      obtain ⟨ms, hms, rfl⟩ := Option.map_eq_some_iff.1 h
      simp [← ih hms]
    · cases h

theorem does_b2s {src d : TypeId} {x : Operand} {ho : HO} (hc : compH P (.convert src d x) = some ho) (hR : Rel w0 m S w) (hs : Sees m ρ ρ' ho.operands) {v : Value} {S' : St} (hv : aheap ρ S ho = some (v, S')) :
    Does P w0 m S w ρ' ⟨dst, .convert src d x, type, pos, after, guard⟩ v S' := by
  simp only [compH] at hc
  split at hc
  case h_2 => cases hc
  rename_i e h1 h2
  split at hc
  case h_2 => cases hc
  rename_i h3
  cases hc
  simp only [aheap, b2sV] at hv
  split at hv
  · rename_i hx
    cases hv
    obtain ⟨_, _, hu⟩ := hs.head.of_snil hx
    refine ⟨m, .string .empty, w, m.le_refl, hR, .refl _ _ _, Nat.le_refl _, .string _, .inl ?_⟩
    have := run_convert_bytes_nil (P := P) w src e h1 h3 0 0 d h2
    simp [execOp, hu, this]
  · rename_i id o n _ hx
    cases hco : cellsOf S id o n with
    | none => simp [hco] at hv
    | some cs =>
      simp only [hco] at hv
      obtain ⟨ns, hns, hv⟩ := Option.map_eq_some_iff.1 hv
      cases hv
      have hcs := numsOf_map hns
      obtain ⟨r, hr, ⟨cap, hu, _, _⟩ | ⟨h0, a, hu⟩⟩ := hs.head.of_slice hx
      · obtain ⟨hlen, hone, us, hru, hcell⟩ := hR.read hco hr
        have hus : us = ns.map (Value.int .u8) := by
          subst hcs
          apply List.ext_getElem?
          intro i
          cases hn : (ns.map (Value.int .u8))[i]? with
          | none =>
            have : ns.length ≤ i := by simpa using hn
            rw [List.getElem?_eq_none]
            rw [← hru.1]; simpa using this
          | some y =>
            obtain ⟨u, hu, hvu⟩ := hru.get hn
            simp at hn
            obtain ⟨k, hk, rfl⟩ := hn
            rw [hu, hvu.of_int rfl]
        refine ⟨m, .string (strOfNums ns), w, m.le_refl, hR, .refl _ _ _, Nat.le_refl _, .string _, .inl ?_⟩
        have hnl : ns.length = n := by rw [hcs] at hlen; simpa using hlen
        have := run_convert_bytes_arg (P := P) w src e h1 h3 r.cb (r.dl + o) n cap ns hnl (fun i hi => by
          have hi' : i < ns.length := by omega
          have := hcell i (.int .u8 ns[i]) (by rw [hus]; simp [hi'])
          rw [addr_add] at this
          rw [this]
          simp [List.getD, hi']) d h2
        simp [execOp, hu, this]
      · subst h0
        have : cs = [] := by unfold cellsOf at hco; split at hco; (split at hco; (cases hco; simp); cases hco); cases hco
        subst this
        simp [numsOf] at hns
        subst hns
        refine ⟨m, .string .empty, w, m.le_refl, hR, .refl _ _ _, Nat.le_refl _, .string _, .inl ?_⟩
        have : (convert src d (.slice (some a) 0 0)).run P w = .ok (.string .empty) w := by
          rw [run_convert_bytes_string w src d e _ _ _ h1 h3 h2]
          simp [Conv.bytesToString, loadCells, loadCellsFrom]
        simp [execOp, hu, this]
  · cases hv

theorem run_append_none (t ty e : TypeId) (i : TypeInfo) (ht : P.underlying t = some (.slice e)) (hi : P.info? e = some i) (base b : Option Addr) (len cap c : Nat) (hl : len ≤ cap) :
    (Builtin.append_ #[t, t] ty #[.slice base len cap, .slice b 0 c]).run P w = .ok (.slice base len cap) w := by
  cases b with
  | none => cases base <;> simp [Builtin.append_, run_underlying ht, sizeOf, typeInfo, hi, Builtin.lenOf, hl, Builtin.firstCells, storeCells]
  | some b => cases base <;> simp [Builtin.append_, run_underlying ht, sizeOf, typeInfo, hi, Builtin.lenOf, hl, Builtin.firstCells, storeCells, loadCells, loadCellsFrom]

/-- An append where there is room. -/
theorem run_append_place (t ty e : TypeId) (i : TypeInfo) (ht : P.underlying t = some (.slice e)) (hi : P.info? e = some i) (cb o sLen sCap : Nat) (cur : Array Value) (e' : TypeId) (hg : w.heap[cb]? = some (.cells cur e' (0, 0)))
    (a : Addr) (n c : Nat) (news : List Value) (hl : news.length = n * i.size) (hnews : ∀ (j : Nat) u, news[j]? = some u → w.cell? (a.add j) = some u) (h1 : ∀ u ∈ news, u.oneCell' = true)
    (hroom : sLen + n ≤ sCap) (hfit : o + sLen * i.size + news.length ≤ cur.size) :
    (Builtin.append_ #[t, t] ty #[.slice (some ⟨cb, o, none⟩) sLen sCap, .slice (some a) n c]).run P w =
      .ok (.slice (some ⟨cb, o, none⟩) (sLen + n) sCap) (w.setRow cb (cur.toList.take (o + sLen * i.size) ++ news ++ cur.toList.drop (o + sLen * i.size + news.length)).toArray) := by
  have hf := run_firstCells_some (P := P) w i.size n a n c news hl hnews
  have hst := run_storeCells_at P cb (o + sLen * i.size) e' news 0 cur w hg (by omega) h1
  simp only [Nat.add_zero] at hst
  simp [Builtin.append_, run_underlying ht, sizeOf, typeInfo, hi, Builtin.lenOf, hroom, hf, addr_add, hst]

theorem VRel.slice_end {v u : Value} {a : Option Addr} {l e : Nat} (h : VRel m v u) (hv : v = .slice a l e) : ∃ b cap, u = .slice b l cap ∧ l ≤ cap := by
  subst hv
  cases h with
  | snil => exact ⟨none, 0, rfl, Nat.le_refl _⟩
  | slice h hl hc => exact ⟨_, _, rfl, hl⟩
  | sempty h e a => exact ⟨some a, 0, rfl, Nat.le_refl _⟩

theorem size_grown {us : List Value} {z : Array Value} {n k cap : Nat} (hz : z.size = k) (hu : us.length = n * k) (hc : n ≤ cap) : (us.toArray ++ Builtin.zeroCells z (cap - n)).size = cap * k := by
  simp only [Array.size_append, List.size_toArray, size_zeroCells, hz, hu, ← Nat.add_mul]
  congr 1
  omega

/-- One append of cells that are read before. -/
theorem does_append {c : Call} {ho : HO} (hcb : c.callee = .builtin .append) (hc : compAppend P c.args.toList c.argTypes.toList = some ho) (hR : Rel w0 m S w) (hs : Sees m ρ ρ' ho.operands) {v : Value} {S' : St} (hv : aheap ρ S ho = some (v, S')) :
    Does P w0 m S w ρ' ⟨dst, .call c, type, pos, after, guard⟩ v S' := by
  obtain ⟨callee, args, ats⟩ := c
  simp only at hcb hc
  subst hcb
  unfold compAppend at hc
  split at hc
  case h_2 => cases hc
  rename_i x y t t' hx ht
  obtain rfl : args = #[x, y] := by cases args; simp_all
  obtain rfl : ats = #[t, t'] := by cases ats; simp_all
  split at hc
  case isFalse => cases hc
  rename_i htt
  subst htt
  split at hc
  case h_2 => cases hc
  rename_i e hut
  obtain ⟨i, hi, hc⟩ := Option.bind_eq_some_iff.1 hc
  split at hc
  · cases hc
  rename_i hsz0
  obtain ⟨z, hz, hc⟩ := Option.bind_eq_some_iff.1 hc
  split at hc
  case isFalse => cases hc
  rename_i hzs
  obtain ⟨hzs, hby⟩ := hzs
  cases hc
  have hsx := hs x (by simp [HO.operands])
  have hsy := hs y (by simp [HO.operands])
  have hexec : ∀ (u : Value) w', (Builtin.append_ #[t', t'] type #[ρ' x, ρ' y]).run P w = .ok u w' → (execOp ρ' ⟨dst, .call ⟨.builtin .append, #[x, y], #[t', t']⟩, type, pos, after, guard⟩).run P w = .ok (.value u) w' := by
    intro u w' h
    simp [execOp, resolve, invoke, builtin, h]
  simp only [aheap, doAppend] at hv
  split at hv
  · -- nothing is appended
    rename_i a len e0 hx0 hy0
    cases hv
    obtain ⟨b, cap, hu, hle⟩ := hsx.slice_end hx0
    obtain ⟨_, _, hu'⟩ := hsy.of_snil hy0
    rw [hx0] at hsx
    refine ⟨m, ρ' x, w, m.le_refl, hR, .refl _ _ _, Nat.le_refl _, hsx, .inl (hexec _ _ ?_)⟩
    rw [hu, hu']
    exact run_append_none t' type e i hut hi b none len cap 0 hle
  · rename_i a len e0 id' o' n e1 hx0 hy0
    split at hv
    · rename_i hn0
      subst hn0
      cases hv
      obtain ⟨b, cap, hu, hle⟩ := hsx.slice_end hx0
      obtain ⟨b', cap', hu', _⟩ := hsy.slice_end hy0
      rw [hx0] at hsx
      refine ⟨m, ρ' x, w, m.le_refl, hR, .refl _ _ _, Nat.le_refl _, hsx, .inl (hexec _ _ ?_)⟩
      rw [hu, hu']
      exact run_append_none t' type e i hut hi b b' len cap cap' hle
    rename_i hn0
    split at hv
    case isFalse => cases hv
    rename_i hbound
    cases hnew : cellsOf S id' o' (n * i.size) with
    | none => simp [hnew] at hv
    | some new =>
      simp only [hnew] at hv
      obtain ⟨r', hr', ⟨cap', hu', _, _⟩ | ⟨hz0, _⟩⟩ := hsy.of_slice hy0
      case inr => exact absurd hz0 hn0
      obtain ⟨hnl, hno, us, hnu, hnc⟩ := hR.read hnew hr'
      have husl : us.length = n * i.size := by rw [← hnu.1]; exact hnl
      have hno' : ∀ u ∈ us, u.oneCell' = true := by
        intro u hu
        obtain ⟨j, hj⟩ := List.getElem?_of_mem hu
        have hj' : j < new.length := by rw [hnu.1]; exact (List.getElem?_eq_some_iff.1 hj).1
        rw [← (hnu.2 j _ u (List.getElem?_eq_getElem hj') hj).oneCell]
        exact hno _ (List.getElem_mem hj')
      have h63 : len + n ≤ 1099511627776 := by
        have : (len + n) * 1 ≤ (len + n) * i.bytes := Nat.mul_le_mul_left _ hby
        omega
      split at hv
      · -- onto nil
        rename_i hx1
        split at hv
        case isFalse => cases hv
        rename_i hz
        obtain ⟨rfl, rfl⟩ := hz
        cases hv
        obtain ⟨_, _, hu⟩ := hsx.of_snil hx0
        have hr := run_append_nil (P := P) w t' type e i z hut hi hz ⟨r'.cb, r'.dl + o', none⟩ n cap' us husl hnc (by omega) (by omega) (by simp at hbound; omega)
        have hge := grownCap_ge w n 0 e
        have hsize := size_grown (z := z.cells) (cap := grownCap w n 0 e) hzs husl hge
        have hn := hR.drew.new new (us.toArray ++ Builtin.zeroCells z.cells (grownCap w n 0 e - n)) e hno (by rw [hsize, hnl]; exact Nat.mul_le_mul_right _ hge) (by
          have : (us.toArray ++ Builtin.zeroCells z.cells (grownCap w n 0 e - n)).toList.take new.length = us := by rw [hnu.1]; simp
          rw [this]; exact hnu)
        refine ⟨_, .slice (some ⟨w.heap.size, 0, none⟩) n (grownCap w n 0 e), _, LMap.le_ext hR.fresh _, hn, Frame.drew.trans (.new _ _ w.drew _ _ _ _), by simp [St.new], vrel_newSlice (r := ⟨w.heap.size, 0, (us.toArray ++ Builtin.zeroCells z.cells (grownCap w n 0 e - n)).size⟩) (by simp only [LMap.ext, if_true]; rfl) rfl hge (Nat.le_of_eq hsize.symm), .inl (hexec _ _ ?_)⟩
        rw [hu, hu']
        exact hr
      · rename_i _ id o
        cases hb : S.blk id with
        | none => simp [hb] at hv
        | some b =>
          cases hold : cellsOf S id o (len * i.size) with
          | none => simp [hb, hold] at hv
          | some old =>
            simp only [hb, hold] at hv
            split at hv
            case isFalse => cases hv
            rename_i hcnd
            obtain ⟨hro, rfl⟩ := hcnd
            cases hv
            obtain ⟨r, hr, halt⟩ := hsx.of_slice hx0
            obtain ⟨hol, hoo, olds, hou, hoc⟩ := hR.read hold hr
            have holds : olds.length = len * i.size := by rw [← hou.1]; exact hol
            -- a new row
            have grow : ∀ (A : Addr) (cap : Nat), ρ' x = .slice (some A) len cap → cap < len + n → (∀ (j : Nat) v, olds[j]? = some v → w.cell? (A.add j) = some v) →
                Does P w0 m S w ρ' ⟨dst, .call ⟨.builtin .append, #[x, y], #[t', t']⟩, type, pos, after, guard⟩ (.slice (some ⟨S.next, 0, none⟩) (len + n) i.size) ((S.kill id).new ⟨false, old ++ new⟩) := by
              intro A cap hu hcap hAc
              have hrun := run_append_grow (P := P) w t' type e i z hut hi hz A len cap olds holds hAc ⟨r'.cb, r'.dl + o', none⟩ n cap' us husl hnc hcap (by omega) (growslice_fits hcap (by omega))
              have hge := grownCap_ge w (len + n) cap e
              have hsize := size_grown (us := olds ++ us) (z := z.cells) (n := len + n) (cap := grownCap w (len + n) cap e) hzs (by simp [holds, husl, Nat.add_mul]) hge
              have hn := (hR.drew.kill id).new (old ++ new) ((olds ++ us).toArray ++ Builtin.zeroCells z.cells (grownCap w (len + n) cap e - (len + n))) e
                (by intro v hv; simp at hv; rcases hv with hv | hv; exact hoo v hv; exact hno v hv)
                (by rw [hsize]; simp only [List.length_append, hol, hnl, ← Nat.add_mul]; exact Nat.mul_le_mul_right _ hge) (by
                  have : ((olds ++ us).toArray ++ Builtin.zeroCells z.cells (grownCap w (len + n) cap e - (len + n))).toList.take (old ++ new).length = olds ++ us := by
                    rw [show (old ++ new).length = (olds ++ us).length from by rw [List.length_append, List.length_append, hou.1, hnu.1], Array.toList_append]
                    exact List.take_left
                  rw [this]; exact hou.append hnu)
              refine ⟨_, .slice (some ⟨w.heap.size, 0, none⟩) (len + n) (grownCap w (len + n) cap e), _, LMap.le_ext (id := S.next) hR.fresh _, hn, Frame.drew.trans (((Frame.refl S m w.drew).kill id).trans (.new (S.kill id) m w.drew _ _ _ _)), by simp [St.new, St.kill], vrel_newSlice (r := ⟨w.heap.size, 0, ((olds ++ us).toArray ++ Builtin.zeroCells z.cells (grownCap w (len + n) cap e - (len + n))).size⟩) (by simp only [LMap.ext, if_true]; rfl) rfl hge (Nat.le_of_eq hsize.symm), .inl (hexec _ _ ?_)⟩
              rw [hu, hu']
              simpa using hrun
            rcases halt with ⟨cap, hu, hle, hcap⟩ | ⟨rfl, A, hu⟩
            · have hcap' : r.dl + o + cap * i.size ≤ r.csz := by rcases hcap with h0 | h0; exact absurd h0 hsz0; exact h0
              by_cases hroom : len + n ≤ cap
              · obtain ⟨rr, hrr, hone', cc, ee, fr, h1, h2, h3, h4, _, h6⟩ := hR.blk id b hb
                rw [hr] at hrr; cases hrr
                obtain ⟨rfl, hB⟩ := h4 hro
                have hfit : r.dl + o + len * i.size + us.length ≤ cc.size := by
                  rw [h2, husl]
                  have : (len + n) * i.size ≤ cap * i.size := Nat.mul_le_mul_right _ hroom
                  rw [Nat.add_mul] at this
                  omega
                have hrun := run_append_place (P := P) (w := w) t' type e i hut hi r.cb (r.dl + o) len cap cc ee h1 ⟨r'.cb, r'.dl + o', none⟩ n cap' us husl hnc hno' hroom hfit
                have hg := hR.regrow hb hro hr (old := old) (new := new) (us := us) (by rw [hol]; exact hold) hnu hno cc ee h1 h2 (by rw [hol]; exact hfit)
                rw [hol] at hg
                refine ⟨_, .slice (some ⟨r.cb, r.dl + o, none⟩) (len + n) cap, _, LMap.le_ext hR.fresh _, hg, .regrow w hb hro hr _ _ _ _, by simp [St.new, St.kill], ?_, .inl (hexec _ _ ?_)⟩
                · have := VRel.slice (m := m.ext S.next ⟨r.cb, r.dl + o, r.csz⟩) (id := S.next) (off := 0) (len := len + n) (cap := cap) (e := i.size) (r := ⟨r.cb, r.dl + o, r.csz⟩) (by simp [LMap.ext]) hroom (.inr (by simpa using hcap'))
                  simpa using this
                · rw [hu, hu']
                  exact hrun
              · exact grow _ cap hu (by omega) hoc
            · have hold0 : olds = [] := List.eq_nil_of_length_eq_zero (by simpa using holds)
              exact grow A 0 hu (by omega) (fun j v hj => by rw [hold0] at hj; simp at hj)
      · cases hv
  · cases hv

end
end Go.Proofs.Ytbgnaeagdneikaa.Abs
