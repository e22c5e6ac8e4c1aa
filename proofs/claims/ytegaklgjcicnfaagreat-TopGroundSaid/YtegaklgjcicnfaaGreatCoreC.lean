/- The code, compiled; the logic over it; calls. -/
import Derived.Test.YtegaklgjcicnfaaGreatCoreB
set_option linter.unusedSimpArgs false
set_option linter.unusedVariables false
namespace Go.Proofs.YtegaklgjcicnfaaGreat.Abs
open Go Go.RowKit
section
variable {P : Program} {m : LMap} {ρ ρ' : Operand → Value} {w0 w : World} {S : St}
theorem heap_sound (o : Oper) {ho : HO} (hc : compH P o.op = some ho) (hR : Rel w0 m S w) (hs : Sees m ρ ρ' ho.operands) {v : Value} {S' : St} (hv : aheap ρ S ho = some (v, S')) : Does P w0 m S w ρ' o v S' := by
 obtain ⟨dst, op, type, pos, after, guard⟩ := o
 simp only at hc
 cases op
 case load => exact does_load hc hR hs hv
 case store => exact does_store hc hR hs hv
 case box t x => exact does_new ⟨dst, .box t x, type, pos, after, guard⟩ hc (by cases hc; rfl) hR hs hv
 case alloc t =>
  have ha : isAlloc ho = true := by
   simp only [compH] at hc
   obtain ⟨_, _, hc⟩ := Option.bind_eq_some_iff.1 hc
   split at hc
   ·cases hc; rfl
   ·cases hc
  exact does_new ⟨dst, .alloc t, type, pos, after, guard⟩ hc ha hR hs hv
 case buildSlice t l ps =>
  have ha : isAlloc ho = true := by
   simp only [compH] at hc
   split at hc
   ·obtain ⟨_, _, hc⟩ := Option.bind_eq_some_iff.1 hc
    obtain ⟨_, _, hc⟩ := Option.bind_eq_some_iff.1 hc
    split at hc
    ·cases hc; rfl
    ·cases hc
   ·cases hc
  exact does_new ⟨dst, .buildSlice t l ps, type, pos, after, guard⟩ hc ha hR hs hv
 case makeSlice t l c =>
  have ha : isAlloc ho = true := by
   simp only [compH] at hc
   split at hc
   ·obtain ⟨_, _, hc⟩ := Option.bind_eq_some_iff.1 hc
    obtain ⟨_, _, hc⟩ := Option.bind_eq_some_iff.1 hc
    split at hc
    ·cases hc; rfl
    ·cases hc
   ·cases hc
  exact does_new ⟨dst, .makeSlice t l c, type, pos, after, guard⟩ hc ha hR hs hv
 case convert => exact does_b2s hc hR hs hv
 case call c =>
  obtain ⟨callee, args, ats⟩ := c
  cases callee with
  | builtin b => cases b <;> first | (cases hc; done) | exact does_append (c := ⟨.builtin .append, args, ats⟩) rfl hc hR hs hv | exact does_clear (c := ⟨.builtin .clear, args, ats⟩) rfl hc hR hs hv
  | value f => cases hc
  | invoke r n => cases hc
 all_goals (cases hc)
/-! ### calls -/
/-- A call over the abstract memory: it returns, and what is told holds of the value and the memory behind it; all that no live name of its caller's own stands for is left alone. -/
def ACalls (P : Program) (f : FuncId) (args : List Value) (S : St) (R : Value → St → Prop) : Prop :=
 ∀ (w0 : World) (m : LMap) (w : World) (cargs : List Value), Rel w0 m S w → LRel m args cargs →
  Calls P f cargs.toArray w fun e w' => ∃ m' v u S', m.le m' ∧ Rel w0 m' S' w' ∧ Frame S m w S' m' w' ∧ S.next ≤ S'.next ∧ VRel m' v u ∧ e = .returned u ∧ R v S'
theorem ACalls.mono {f : FuncId} {args : List Value} {R R' : Value → St → Prop} (h : ACalls P f args S R) (hr : ∀ v S', S.next ≤ S'.next → R v S' → R' v S') : ACalls P f args S R' :=
 fun w0 m w cargs a b => (h w0 m w cargs a b).mono fun _ _ ⟨m', v, u, S', h1, h2, hf, h3, h4, h5, h6⟩ => ⟨m', v, u, S', h1, h2, hf, h3, h4, h5, hr _ _ h3 h6⟩
/-! ### locals
A variable whose address stays with the function is no block: its cells stand in the place of its address. pm tells these: the place, whether it is made more than once, and the places that hold addresses into it. -/
abbrev PM := List (Nat × Bool × List Nat)
def baseOf : PM → Nat → Option Nat
 | [], _ => none
 | (d, _, es) :: r, i => if (i == d || es.contains i) = true then some d else baseOf r i
def againOf : PM → Nat → Option (List Nat)
 | [], _ => none
 | (d, ag, es) :: r, i => if i = d then (if ag = true then some es else none) else againOf r i
def covers (pm : PM) (d : Nat) (es : List Nat) : Bool := (pm.all fun e => e.1 != d || e.2.2.all es.contains) && es.all fun i => baseOf pm i == some d && i != d
theorem baseOf_some {pm : PM} {i d : Nat} (h : baseOf pm i = some d) : i = d ∨ ∃ e ∈ pm, e.1 = d ∧ e.2.2.contains i = true := by
 induction pm with
 | nil => cases h
 | cons e r ih =>
  obtain ⟨d', ag, es⟩ := e
  unfold baseOf at h
  split at h
  ·rename_i hc
   cases h
   simp only [Bool.or_eq_true, beq_iff_eq] at hc
   rcases hc with hc | hc
   ·exact .inl hc
   ·exact .inr ⟨_, List.mem_cons_self, rfl, hc⟩
  ·rcases ih h with hh | ⟨e, he, h1, h2⟩
   ·exact .inl hh
   ·exact .inr ⟨e, List.mem_cons_of_mem _ he, h1, h2⟩
theorem covers_spec {pm : PM} {d : Nat} {es : List Nat} (h : covers pm d es = true) : (∀ i, baseOf pm i = some d → i ≠ d → es.contains i = true) ∧ ∀ i, es.contains i = true → baseOf pm i = some d ∧ i ≠ d := by
 unfold covers at h
 simp only [Bool.and_eq_true, List.all_eq_true] at h
 refine ⟨fun i hi hid => ?_, fun i hi => ?_⟩
 ·rcases baseOf_some hi with hh | ⟨e, he, h1, h2⟩
  ·exact absurd hh hid
  ·have := h.1 e he
   simp only [Bool.or_eq_true, bne_iff_ne, ne_eq, List.all_eq_true] at this
   exact (this.resolve_left fun q => q h1) i (by simpa using h2)
 ·have := h.2 i (by simpa using hi)
  simpa using this
inductive LO where
 | new (d : Nat) (rs : Option (List Nat)) (z : List Value)
 | box (d : Nat) (rs : Option (List Nat)) (x : Operand)
 | addr (src d off : Nat)
 | idx (src d len esz : Nat) (i : Operand)
 | load (src d sz : Nat) (agg : Bool)
 | store (src d sz : Nat) (v : Operand)
inductive BOp where
 | p (o : PO)
 | h (o : HO)
 | call (f : Nat) (args : List Operand)
 | callv (x : Operand) (args : List Operand)
 | l (o : LO)
 | inv (x : Operand) (name : String) (args : List Operand)
 | bad
structure AOper where
 dst : Option Nat
 op : BOp
 guard : Option (Nat × Bool)
def LO.operands : LO → List Operand
 | .new _ _ _ => []
 | .box _ _ x => [x]
 | .addr _ _ _ => []
 | .idx _ _ _ _ i => [i]
 | .load _ _ _ _ => []
 | .store _ _ _ v => [v]
def LO.src : LO → List Nat
 | .new d _ _ => [d]
 | .box d _ _ => [d]
 | .addr s d _ => [s, d]
 | .idx s d _ _ _ => [s, d]
 | .load s d _ _ => [s, d]
 | .store s d _ _ => [s, d]
def BOp.operands : BOp → List Operand
 | .p o => o.operands
 | .h o => o.operands
 | .call _ args => args
 | .callv x args => x :: args
 | .l o => o.operands
 | .inv x _ args => x :: args
 | .bad => []
def opdOk (pm : PM) (n : Nat) : Operand → Bool
 | .tmp i => decide (i < n) && (baseOf pm i).isNone
 | .const v => constOk v
 | .global _ => false
 | .func _ => true
def LO.ok (pm : PM) (n : Nat) (dst : Option Nat) (guard : Option (Nat × Bool)) : LO → Bool
 | .new d rs z => guard.isNone && dst == some d && decide (d < n) && baseOf pm d == some d && (match rs with | none => true | some es => covers pm d es) && z.all atomOk
 | .box d rs _ => guard.isNone && dst == some d && decide (d < n) && baseOf pm d == some d && (match rs with | none => true | some es => covers pm d es)
 | .addr s d _ => decide (s < n) && decide (d < n) && baseOf pm d == some d && baseOf pm s == some d && (match dst with | some e => baseOf pm e == some d && e != d && decide (e < n) | none => false)
 | .idx s d _ _ _ => decide (s < n) && decide (d < n) && baseOf pm d == some d && baseOf pm s == some d && (match dst with | some e => baseOf pm e == some d && e != d && decide (e < n) | none => false)
 | .load s d _ _ => decide (s < n) && decide (d < n) && baseOf pm d == some d && baseOf pm s == some d && (match dst with | some e => (baseOf pm e).isNone | none => true)
 | .store s d _ _ => decide (s < n) && decide (d < n) && baseOf pm d == some d && baseOf pm s == some d && dst.isNone
def AOper.ok (pm : PM) (n : Nat) (o : AOper) : Bool :=
 o.op.operands.all (opdOk pm n) && (match o.guard with | some (d, _) => decide (d < n) && (baseOf pm d).isNone | none => true) &&
 (match o.op with
 | .l l => l.ok pm n o.dst o.guard
 | _ => match o.dst with | some d => (baseOf pm d).isNone | none => true)
def guardB (g : Option (Nat × Bool)) (t : Env) : Bool :=
 match g with
 | none => true
 | some (d, want) => match t d with
  | .bool b => b == want
  | _ => false
def optV (o : Option Value) (K : Value → Prop) : Prop :=
 match o with
 | some v => K v
 | none => False
def optWp (o : Option (Value × St)) (K : Value → St → Prop) : Prop :=
 match o with
 | some (v, S) => K v S
 | none => False
/-- How far into its variable an address is. -/
def offV (v : Value) : Option Nat :=
 match v with
 | .int _ o => if 0 ≤ o then some o.toNat else none
 | _ => none
def offOf (t : Env) (src d : Nat) : Option Nat := if src = d then some 0 else offV (t src)
def aliveV : Value → Option (List Value)
 | .agg cs => some cs.toList
 | _ => none
def lnewV (v : Value) (rs : Option (List Nat)) (z : List Value) : Option Value :=
 match rs with
 | some _ => some (.agg z.toArray)
 | none => match aliveV v with
  | some _ => none
  | none => some (.agg z.toArray)
def laddrV (v : Value) (o : Option Nat) (off : Nat) : Option Value :=
 match aliveV v, o with
 | some _, some o => some (.int .i64 ((o + off : Nat) : Int))
 | _, _ => none
def lidxV (v : Value) (o : Option Nat) (len esz : Nat) (i : Value) : Option Value :=
 match aliveV v, o, i with
 | some _, some o, .int _ i => if 0 ≤ i ∧ i < (len : Int) then some (.int .i64 ((o + i.toNat * esz : Nat) : Int)) else none
 | _, _, _ => none
def lloadV (v : Value) (o : Option Nat) (sz : Nat) (agg : Bool) : Option Value :=
 match aliveV v, o with
 | some cs, some o => partL agg o sz cs
 | _, _ => none
def lstoreV (v : Value) (o : Option Nat) (sz : Nat) (x : Value) : Option Value :=
 match aliveV v, o with
 | some cs, some o => if x.cells.toList.length = sz ∧ o + sz ≤ cs.length ∧ storable x = true then some (.agg (ow cs o x.cells.toList).toArray) else none
 | _, _ => none
def lval (t : Env) : LO → Option Value
 | .new d rs z => lnewV (t d) rs z
 | .box d rs x => if storable (ev t x) = true then lnewV (t d) rs (ev t x).cells.toList else none
 | .addr s d off => laddrV (t d) (offOf t s d) off
 | .idx s d len esz i => lidxV (t d) (offOf t s d) len esz (ev t i)
 | .load s d sz ag => lloadV (t d) (offOf t s d) sz ag
 | .store s d sz v => lstoreV (t d) (offOf t s d) sz (ev t v)
def LO.clr : LO → List Nat
 | .new _ rs _ => rs.getD []
 | .box _ rs _ => rs.getD []
 | _ => []
def LO.tgt (dst : Option Nat) : LO → Option Nat
 | .new d _ _ => some d
 | .box d _ _ => some d
 | .store _ d _ _ => some d
 | _ => dst
def Env.clr (t : Env) (l : List Nat) : Env := fun i => if l.contains i = true then undef else t i
/-- The function that an interface's method is, and what it is handed for the receiver. -/
def methA (P : Program) (S : St) (ty : TypeId) (v : Value) (name : String) : Option (FuncId × Value) :=
 (P.info? ty).bind fun i => (i.methods.find? (·.name == name)).bind fun r =>
  if r.path.isEmpty = true then (match r.func with
   | none => none
   | some (f, true) => match P.underlying ty with
    | some (.pointer _) => some (f, v)
    | _ => none
   | some (f, false) => match P.underlying ty, v with
    | some (.pointer e), .pointer (some ⟨id, o, none⟩) => (szT P e).bind fun sz => (aggT P e).bind fun ag => (ldv S ag id o sz).map fun u => (f, u)
    | _, _ => none) else none
def bodyWp (P : Program) (o : BOp) (t : Env) (S : St) (K : Value → St → Prop) : Prop :=
 match o with
 | .p o => optV (apure (ev t) o) fun v => K v S
 | .h o => optWp (aheap (ev t) S o) K
 | .call f args => ACalls P f (args.map (ev t)) S K
 | .callv x args => match ev t x with
  | .func (.func f) first captured => enters P f = true ∧ ACalls P f (first.toList ++ args.map (ev t) ++ captured.toList) S K
  | _ => False
 | .l _ => False
 | .inv x name args => match ev t x with
  | .iface ty v => match methA P S ty v name with
   | some (f, r) => enters P f = true ∧ ACalls P f (r :: args.map (ev t)) S K
   | none => False
  | _ => False
 | .bad => False
def opWp (P : Program) (o : AOper) (t : Env) (S : St) (K : Env → St → Prop) : Prop :=
 if guardB o.guard t = true then
  (match o.op with
  | .l l => optV (lval t l) fun v => K ((t.clr l.clr).put (l.tgt o.dst) v) S
  | op => bodyWp P op t S (fun v S' => K (t.put o.dst v) S'))
 else K (t.put o.dst undef) S
def compCallA (P : Program) : Op → Option BOp
 | .call c => match c.callee with
  | .value (.func f) => if enters P f = true then some (.call f c.args.toList) else none
  | .value x => some (.callv x c.args.toList)
  | .invoke x name => some (.inv x name c.args.toList)
  | _ => none
 | _ => none
/-- Operations on locals. -/
def compL (P : Program) (pm : PM) (dst : Option Nat) : Op → Option LO
 | .alloc t => dst.bind fun d => if baseOf pm d = some d then (zeroT P t).bind fun z => if constOk z = true then some (.new d (againOf pm d) z.cells.toList) else none else none
 | .box _ x => dst.bind fun d => if baseOf pm d = some d then some (.box d (againOf pm d) x) else none
 | .fieldAddr s (.tmp x) f => (baseOf pm x).bind fun d => (fieldOf P s f).bind fun fd => (szT P fd.type).bind fun n => if n = 0 then none else some (.addr x d fd.offset)
 | .nilCheck (.tmp x) => (baseOf pm x).map fun d => .addr x d 0
 | .move (.tmp x) => (baseOf pm x).map fun d => .addr x d 0
 | .assign (.tmp x) => (baseOf pm x).map fun d => .addr x d 0
 | .indexAddr t (.tmp x) i => (baseOf pm x).bind fun d => match P.underlying t with
  | some (.array n e) => (szT P e).map fun sz => .idx x d n sz i
  | _ => none
 | .load t (.tmp x) => (baseOf pm x).bind fun d => (szT P t).bind fun sz => (aggT P t).map fun ag => .load x d sz ag
 | .store t (.tmp x) v => (baseOf pm x).bind fun d => (szT P t).map fun sz => .store x d sz v
 | _ => none
def compA (P : Program) (pm : PM) (dst : Option Nat) (o : Op) : Option BOp :=
 match compL P pm dst o with
 | some l => some (.l l)
 | none => match compP P o with
  | some p => some (.p p)
  | none => match compH P o with
   | some h => some (.h h)
   | none => match compCallA P o with
    | some c => some c
    | none => some .bad
def compO (P : Program) (pm : PM) (ops : Array Oper) (o : Oper) : Option AOper :=
 (compA P pm o.dst o.op).bind fun a => match o.guard with
  | none => some ⟨o.dst, a, none⟩
  | some (j, want) => ((ops[j]?).bind (·.dst)).map fun d => ⟨o.dst, a, some (d, want)⟩
/-- Cells of a local in the machine. -/
structure LAt (m : LMap) (w : World) (cs : List Value) (B : Nat) : Prop where
 one : ∀ v ∈ cs, v.oneCell' = true
 at_ : ∃ c e, w.heap[B]? = some (.cells c e (0, 0)) ∧ LRel m cs c.toList
theorem LAt.lt {cs : List Value} {B : Nat} (h : LAt m w cs B) : B < w.heap.size := by
 obtain ⟨_, c, e, h1, _⟩ := h
 exact (Array.getElem?_eq_some_iff.1 h1).1
theorem LAt.later {cs : List Value} {B : Nat} {m' : LMap} {w' : World} (h : LAt m w cs B) (hm : m.le m') (hw : w'.heap[B]? = w.heap[B]?) : LAt m' w' cs B := by
 obtain ⟨h0, c, e, h1, h2⟩ := h
 exact ⟨h0, c, e, by rw [hw]; exact h1, h2.mono hm⟩
structure BRel (pm : PM) (n : Nat) (fr : Nat → Prop) (lo : Nat) (m : LMap) (t : Env) (S : St) (a : Act) (w : World) : Prop where
 size : a.tmps.size = n
 plain : ∀ i, i < n → fr i → baseOf pm i = none → VRel m (t i) (a.tmps.getD i undef)
 locs : ∃ loc : Nat → Nat,
  (∀ d cs, d < n → fr d → baseOf pm d = some d → t d = .agg cs → a.tmps.getD d undef = .pointer (some ⟨loc d, 0, none⟩) ∧ LAt m w cs.toList (loc d) ∧ lo ≤ loc d ∧ ¬ Claimed S m (loc d)) ∧
  (∀ d e cs ds, d < n → e < n → fr d → fr e → baseOf pm d = some d → baseOf pm e = some e → t d = .agg cs → t e = .agg ds → loc d = loc e → d = e) ∧
  (∀ i d k o, i < n → fr i → baseOf pm i = some d → i ≠ d → t i = .int k o → 0 ≤ o ∧ baseOf pm d = some d ∧ fr d ∧ (∃ cs, t d = .agg cs) ∧ a.tmps.getD i undef = .pointer (some ⟨loc d, o.toNat, none⟩))
variable {pm : PM} {n lo : Nat} {fr : Nat → Prop} {t : Env} {a : Act}
theorem BRel.later (h : BRel pm n fr lo m t S a w) {m' : LMap} {S' : St} {w' : World} (hm : m.le m') (hf : Frame S m w S' m' w') : BRel pm n fr lo m' t S' a w' := by
 obtain ⟨h1, h2, loc, h3, h4, h5⟩ := h
 refine ⟨h1, fun i hi hfr hb => (h2 i hi hfr hb).mono hm, loc, fun d cs hd hfr hb ht => ?_, h4, h5⟩
 obtain ⟨g1, g2, g3, g4⟩ := h3 d cs hd hfr hb ht
 obtain ⟨k1, k2⟩ := hf.same _ g2.lt g4
 exact ⟨g1, g2.later hm k1, g3, k2⟩
theorem BRel.weaken (h : BRel pm n fr lo m t S a w) {fr' : Nat → Prop} (hf : ∀ i, fr' i → fr i) (hl : ∀ d, baseOf pm d = some d → fr d → fr' d) : BRel pm n fr' lo m t S a w := by
 obtain ⟨h1, h2, loc, h3, h4, h5⟩ := h
 exact ⟨h1, fun i hi hfr hb => h2 i hi (hf i hfr) hb, loc, fun d cs hd hfr => h3 d cs hd (hf d hfr), fun d e cs ds hd he p q => h4 d e cs ds hd he (hf d p) (hf e q), fun i d k o hi hfr a b c => by
  obtain ⟨g1, g2, g3, g4⟩ := h5 i d k o hi (hf i hfr) a b c
  exact ⟨g1, g2, hl d g2 g3, g4⟩⟩
theorem BRel.ev (h : BRel pm n fr lo m t S a w) {x : Operand} (hx : opdOk pm n x = true) (hfr : ∀ i, x = .tmp i → fr i) : VRel m (Go.Proofs.YtegaklgjcicnfaaGreat.Abs.ev t x) (a.eval x) := by
 cases x with
 | tmp i =>
  simp only [opdOk, Bool.and_eq_true, decide_eq_true_eq, Option.isNone_iff_eq_none] at hx
  exact h.plain i hx.1 (hfr i rfl) hx.2
 | const v => exact constOk_rel m hx
 | global g => simp [opdOk] at hx
 | func f => exact .func _ rfl (fun i x y hx => by simp at hx) rfl (fun i x y hx => by simp at hx)
theorem getD_put {a : Act} {d i : Nat} {u : Value} (hi : i < a.tmps.size) : (a.put (some d) u).tmps.getD i undef = if i = d then u else a.tmps.getD i undef := by
 simp only [Act.put, Array.getD_eq_getD_getElem?, Array.getElem?_setIfInBounds]
 by_cases e : i = d
 ·subst e; simp [hi]
 ·rw [if_neg (fun e' => e e'.symm), if_neg e]
theorem size_put {a : Act} {d : Option Nat} {u : Value} : (a.put d u).tmps.size = a.tmps.size := by cases d <;> simp [Act.put]
theorem BRel.putPlain (h : BRel pm n fr lo m t S a w) {v u : Value} (hv : VRel m v u) {d : Option Nat} (hd : ∀ x, d = some x → baseOf pm x = none) :
  BRel pm n (fun i => fr i ∨ d = some i) lo m (t.put d v) S (a.put d u) w := by
 obtain ⟨h1, h2, loc, h3, h4, h5⟩ := h
 have hbf : ∀ i b, baseOf pm i = some b → (fr i ∨ d = some i) → fr i := fun i b hb hq => hq.resolve_right fun q => by rw [hd i q] at hb; cases hb
 cases d with
 | none => exact ⟨h1, fun i hi hfr hb => h2 i hi (hfr.resolve_right (by simp)) hb, loc, fun e cs he hfr hb => h3 e cs he (hbf e _ hb hfr) hb, fun d e cs ds hd he p q hbd hbe => h4 d e cs ds hd he (hbf d _ hbd p) (hbf e _ hbe q) hbd hbe, fun i d k o hi hfr hb a b => by
   obtain ⟨g1, g2, g3, g4⟩ := h5 i d k o hi (hbf i _ hb hfr) hb a b
   exact ⟨g1, g2, .inl g3, g4⟩⟩
 | some d =>
  have hdn := hd d rfl
  have hne : ∀ i b, baseOf pm i = some b → i ≠ d := fun i b hb e => by rw [e, hdn] at hb; cases hb
  have ht : ∀ i b, baseOf pm i = some b → (t.put (some d) v) i = t i := fun i b hb => by simp only [Env.put, if_neg (hne i b hb)]
  have ha : ∀ i b, i < n → baseOf pm i = some b → (a.put (some d) u).tmps.getD i undef = a.tmps.getD i undef := fun i b hi hb => by rw [getD_put (by omega), if_neg (hne i b hb)]
  refine ⟨size_put.trans h1, fun i hi hfr hb => ?_, loc, fun e cs he hfe hb hte => ?_, fun e f cs ds he hf hfe hff hbe hbf' hte htf => ?_, fun i e k o hi hfr hb hie hti => ?_⟩
  ·rw [getD_put (by omega)]
   simp only [Env.put]
   by_cases e : i = d
   ·rw [if_pos e, if_pos e]; exact hv
   ·rw [if_neg e, if_neg e]
    exact h2 i hi (hfr.resolve_right fun q => e (Option.some.inj q).symm) hb
  ·rw [ht e e hb] at hte
   rw [ha e e he hb]
   exact h3 e cs he (hbf e _ hb hfe) hb hte
  ·rw [ht e e hbe] at hte
   rw [ht f f hbf'] at htf
   exact h4 e f cs ds he hf (hbf e _ hbe hfe) (hbf f _ hbf' hff) hbe hbf' hte htf
  ·rw [ht i e hb] at hti
   obtain ⟨g1, g0, gf, ⟨cs, g2⟩, g3⟩ := h5 i e k o hi (hbf i _ hb hfr) hb hie hti
   exact ⟨g1, g0, .inl gf, ⟨cs, by rw [ht e e g0]; exact g2⟩, by rw [ha i e hi hb]; exact g3⟩
/-- An address into a local is put down. -/
theorem BRel.putAddr (h : BRel pm n fr lo m t S a w) {e d : Nat} {o : Nat} (he : baseOf pm e = some d) (hed : e ≠ d) (hd : d < n) (hfd : fr d) (hdd : baseOf pm d = some d) {cs : Array Value} (ht : t d = .agg cs) {B : Nat}
  (hB : a.tmps.getD d undef = .pointer (some ⟨B, 0, none⟩)) {K : Nat → Prop} :
  BRel pm n (fun i => fr i ∨ some e = some i) lo m (t.put (some e) (.int .i64 (o : Int))) S (a.put (some e) (.pointer (some ⟨B, o, none⟩))) w := by
 obtain ⟨h1, h2, loc, h3, h4, h5⟩ := h
 have hne : ∀ i, baseOf pm i = some i → i ≠ e := fun i hb q => by rw [q, he] at hb; exact hed (Option.some.inj hb).symm
 have ht' : ∀ i, baseOf pm i = some i → (t.put (some e) (.int .i64 (o : Int))) i = t i := fun i hb => by simp only [Env.put, if_neg (hne i hb)]
 have ha : ∀ i, i < n → i ≠ e → (a.put (some e) (.pointer (some ⟨B, o, none⟩))).tmps.getD i undef = a.tmps.getD i undef := fun i hi hb => by rw [getD_put (by omega), if_neg hb]
 have hl : loc d = B := by
  have := (h3 d cs hd hfd hdd ht).1
  rw [hB] at this
  injection this with this
  injection this with this
  injection this with this
  exact this.symm
 refine ⟨size_put.trans h1, fun i hi hfr hb => ?_, loc, fun e' cs he' hfe hb hte => ?_, fun e' f cs ds he' hf hfe hff hbe hbf hte htf => ?_, fun i e' k o' hi hfr hb hie hti => ?_⟩
 ·have hie : i ≠ e := fun q => by rw [q, he] at hb; cases hb
  rw [ha i hi hie]
  simp only [Env.put, if_neg hie]
  exact h2 i hi (hfr.resolve_right fun q => hie (Option.some.inj q).symm) hb
 ·rw [ht' e' hb] at hte
  rw [ha e' he' (hne e' hb)]
  exact h3 e' cs he' (hfe.resolve_right fun q => hne e' hb (Option.some.inj q).symm) hb hte
 ·rw [ht' e' hbe] at hte
  rw [ht' f hbf] at htf
  exact h4 e' f cs ds he' hf (hfe.resolve_right fun q => hne e' hbe (Option.some.inj q).symm) (hff.resolve_right fun q => hne f hbf (Option.some.inj q).symm) hbe hbf hte htf
 ·by_cases hie' : i = e
  ·subst hie'
   rw [he] at hb
   cases hb
   simp only [Env.put, if_true] at hti
   cases hti
   refine ⟨by omega, hdd, .inl hfd, ⟨cs, by rw [ht' d hdd]; exact ht⟩, ?_⟩
   rw [getD_put (by omega), if_pos rfl, hl]
   rfl
  ·simp only [Env.put, if_neg hie'] at hti
   obtain ⟨g1, g0, gf, ⟨cs', g2⟩, g3⟩ := h5 i e' k o' hi (hfr.resolve_right fun q => hie' (Option.some.inj q).symm) hb hie hti
   exact ⟨g1, g0, .inl gf, ⟨cs', by rw [ht' e' g0]; exact g2⟩, by rw [ha i hi hie']; exact g3⟩
/-- A place of addresses, or of a local, that holds nothing. -/
theorem BRel.putNone (h : BRel pm n fr lo m t S a w) {e d : Nat} (he : baseOf pm e = some d) (hed : e ≠ d) :
  BRel pm n (fun i => fr i ∨ some e = some i) lo m (t.put (some e) undef) S (a.put (some e) undef) w := by
 obtain ⟨h1, h2, loc, h3, h4, h5⟩ := h
 have hne : ∀ i, baseOf pm i = some i → i ≠ e := fun i hb q => by rw [q, he] at hb; exact hed (Option.some.inj hb).symm
 have ht' : ∀ i, baseOf pm i = some i → (t.put (some e) undef) i = t i := fun i hb => by simp only [Env.put, if_neg (hne i hb)]
 have ha : ∀ i, i < n → i ≠ e → (a.put (some e) undef).tmps.getD i undef = a.tmps.getD i undef := fun i hi hb => by rw [getD_put (by omega), if_neg hb]
 refine ⟨size_put.trans h1, fun i hi hfr hb => ?_, loc, fun e' cs he' hfe hb hte => ?_, fun e' f cs ds he' hf hfe hff hbe hbf hte htf => ?_, fun i e' k o' hi hfr hb hie hti => ?_⟩
 ·have hie : i ≠ e := fun q => by rw [q, he] at hb; cases hb
  rw [ha i hi hie]
  simp only [Env.put, if_neg hie]
  exact h2 i hi (hfr.resolve_right fun q => hie (Option.some.inj q).symm) hb
 ·rw [ht' e' hb] at hte
  rw [ha e' he' (hne e' hb)]
  exact h3 e' cs he' (hfe.resolve_right fun q => hne e' hb (Option.some.inj q).symm) hb hte
 ·rw [ht' e' hbe] at hte
  rw [ht' f hbf] at htf
  exact h4 e' f cs ds he' hf (hfe.resolve_right fun q => hne e' hbe (Option.some.inj q).symm) (hff.resolve_right fun q => hne f hbf (Option.some.inj q).symm) hbe hbf hte htf
 ·by_cases hie' : i = e
  ·subst hie'
   simp only [Env.put, if_true, undef] at hti
   cases hti
  ·simp only [Env.put, if_neg hie'] at hti
   obtain ⟨g1, g0, gf, ⟨cs', g2⟩, g3⟩ := h5 i e' k o' hi (hfr.resolve_right fun q => hie' (Option.some.inj q).symm) hb hie hti
   exact ⟨g1, g0, .inl gf, ⟨cs', by rw [ht' e' g0]; exact g2⟩, by rw [ha i hi hie']; exact g3⟩
/-- The data of a call under way: the world below, what it began with. -/
structure Gd where
 w0 : World
 S0 : St
 m0 : LMap
 w1 : World
/-- What is held between the abstract memory and the machine's while a call is under way. -/
structure BSt (G : Gd) (pm : PM) (n : Nat) (fr : Nat → Prop) (m : LMap) (t : Env) (S : St) (a : Act) (w : World) : Prop where
 rel : Rel G.w0 m S w
 low : G.w0.heap.size ≤ G.w1.heap.size
 frame : Frame G.S0 G.m0 G.w1 S m w
 le : G.m0.le m
 nx : G.S0.next ≤ S.next
 defers : a.defers = []
 env : BRel pm n fr G.w1.heap.size m t S a w
theorem defers_put {a : Act} {d : Option Nat} {u : Value} : (a.put d u).defers = a.defers := by cases d <;> rfl
variable {G : Gd}
theorem BSt.weaken (h : BSt G pm n fr m t S a w) {fr' : Nat → Prop} (hf : ∀ i, fr' i → fr i) (hl : ∀ d, baseOf pm d = some d → fr d → fr' d) : BSt G pm n fr' m t S a w := ⟨h.rel, h.low, h.frame, h.le, h.nx, h.defers, h.env.weaken hf hl⟩
/-- A block of the machine that no live name stands for may be another. -/
theorem Rel.apart (h : Rel w0 m S w) {w' : World} (hb : Below w0.heap.size w0 w') {B : Nat} (hB : w0.heap.size ≤ B) (hc : ¬ Claimed S m B) (hw : ∀ k, k < w.heap.size → k ≠ B → w'.heap[k]? = w.heap[k]?) : Rel w0 m S w' := by
 refine ⟨hb, h.dom, h.live, fun id b r hid hr => ?_, h.inj⟩
 have hk := h.blk id b r hid hr
 refine hk.world (hw _ hk.lt fun e => ?_)
 cases hro : b.ro with
 | false => exact hc ⟨id, b, r, hid, hro, hr, e⟩
 | true =>
  obtain ⟨_, c, e', fr, h1, h2, h3, h4, h5, h6⟩ := hk
  have := h5 hro
  omega
theorem unclaimed_new (h : Rel w0 m S w) : ¬ Claimed S m w.heap.size := fun ⟨id, b, r, h1, h2, h3, h4⟩ => by
 have := (h.blk id b r h1 h3).lt
 omega
/-- A local is told; the machine has not made it. -/
theorem BRel.tellLocal (h : BRel pm n fr lo m t S a w) {d : Nat} (hdd : baseOf pm d = some d) {rs : Option (List Nat)} (hrs : match rs with | none => True | some es => covers pm d es = true)
  {vs : List Value} {v : Value} (hv : lnewV (t d) rs vs = some v) : v = .agg vs.toArray ∧ BRel pm n (fun i => fr i ∧ i ≠ d) lo m ((t.clr (rs.getD [])).put (some d) v) S a w := by
 have hvv : v = .agg vs.toArray := by
  unfold lnewV at hv
  split at hv
  ·exact (Option.some.inj hv).symm
  ·split at hv
   ·cases hv
   ·exact (Option.some.inj hv).symm
 subst hvv
 refine ⟨rfl, ?_⟩
 obtain ⟨h1, h2, loc, h3, h4, h5⟩ := h
 have hcl : ∀ i, (rs.getD []).contains i = true → baseOf pm i = some d ∧ i ≠ d := by
  intro i hi
  cases rs with
  | none => simp at hi
  | some es => exact (covers_spec hrs).2 i hi
 have hkeep : ∀ i, i ≠ d → (rs.getD []).contains i = false → ((t.clr (rs.getD [])).put (some d) (.agg vs.toArray)) i = t i := fun i hi hc => by
  simp only [Env.put, if_neg hi, Env.clr, hc, Bool.false_eq_true, if_false]
 have hgone : ∀ i, i ≠ d → (rs.getD []).contains i = true → ((t.clr (rs.getD [])).put (some d) (.agg vs.toArray)) i = undef := fun i hi hc => by
  simp only [Env.put, if_neg hi, Env.clr, hc, if_true]
 have alive : ∀ x cs, x ≠ d → ((t.clr (rs.getD [])).put (some d) (.agg vs.toArray)) x = .agg cs → t x = .agg cs := fun x cs hxd htx => by
  cases hc : (rs.getD []).contains x with
  | false => rw [hkeep x hxd hc] at htx; exact htx
  | true => rw [hgone x hxd hc] at htx; cases htx
 refine ⟨h1, fun i hi hfr hb => ?_, loc, fun e' cs he' hfe hb hte => h3 e' cs he' hfe.1 hb (alive e' cs hfe.2 hte), fun e' f cs ds he' hf hfe hff hbe hbf hte htf => h4 e' f cs ds he' hf hfe.1 hff.1 hbe hbf (alive e' cs hfe.2 hte) (alive f ds hff.2 htf), fun i e' k o' hi hfr hb hie hti => ?_⟩
 ·cases hc : (rs.getD []).contains i with
  | false => rw [hkeep i hfr.2 hc]; exact h2 i hi hfr.1 hb
  | true => exact absurd (hcl i hc).1 (by rw [hb]; simp)
 ·have hid := hfr.2
  cases hc : (rs.getD []).contains i with
  | true => rw [hgone i hid hc] at hti; cases hti
  | false =>
   rw [hkeep i hid hc] at hti
   obtain ⟨g1, g0, gf, ⟨cs', g2⟩, g3⟩ := h5 i e' k o' hi hfr.1 hb hie hti
   have hed : e' ≠ d := fun q => by
    subst q
    cases rs with
    | none =>
     unfold lnewV at hv
     rw [g2] at hv
     simp [aliveV] at hv
    | some es =>
     have := (covers_spec hrs).1 i hb hid
     exact absurd (hc.symm.trans this) (by simp)
   refine ⟨g1, g0, ⟨gf, hed⟩, ⟨cs', ?_⟩, g3⟩
   cases hc' : (rs.getD []).contains e' with
   | false => rw [hkeep e' hed hc']; exact g2
   | true =>
    have := hcl e' hc'
    rw [g0] at this
    exact absurd (Option.some.inj this.1) this.2
/-- The machine makes a local that was told. -/
theorem BSt.makeLocal (h : BSt G pm n fr m t S a w) {d : Nat} (hdd : baseOf pm d = some d) (hnf : ¬ fr d) {vs : List Value} (htd : t d = .agg vs.toArray) {us : Array Value} (e : TypeId) (hone : ∀ v ∈ vs, v.oneCell' = true) (hru : LRel m vs us.toList) :
  BSt G pm n (fun i => fr i ∨ some d = some i) m t S (a.put (some d) (.pointer (some ⟨w.heap.size, 0, none⟩))) (w.alloc (.cells us e)) := by
 have hB0 : G.w0.heap.size ≤ w.heap.size := h.rel.below.size
 have hold : ∀ k, k < w.heap.size → (w.alloc (.cells us e)).heap[k]? = w.heap[k]? := fun k hk => Below.heap_alloc _ _ _ hk
 obtain ⟨h1, h2, loc, h3, h4, h5⟩ := h.env
 have ha : ∀ i, i < n → i ≠ d → (a.put (some d) (.pointer (some ⟨w.heap.size, 0, none⟩))).tmps.getD i undef = a.tmps.getD i undef := fun i hi hb => by rw [getD_put (by omega), if_neg hb]
 have hof : ∀ i, i ≠ d → (fr i ∨ some d = some i) → fr i := fun i hi hq => hq.resolve_right fun q => hi (Option.some.inj q).symm
 refine ⟨h.rel.apart (h.rel.below.alloc hB0 _) hB0 (unclaimed_new h.rel) (fun k hk _ => hold k hk), h.low, h.frame.trans ⟨by simp, fun B hB hc => ⟨hold B hB, hc⟩, Nat.le_refl _, fun _ _ h => ⟨h, rfl⟩⟩, h.le, h.nx, by rw [defers_put]; exact h.defers, size_put.trans h1, fun i hi hfr hb => ?_, fun i => if i = d then w.heap.size else loc i, fun e' cs he' hfe hb hte => ?_, fun e' f cs ds he' hf hfe hff hbe hbf hte htf => ?_, fun i e' k o' hi hfr hb hie hti => ?_⟩
 ·have hid : i ≠ d := fun q => by rw [q, hdd] at hb; cases hb
  rw [ha i hi hid]
  exact h2 i hi (hof i hid hfr) hb
 ·by_cases hed : e' = d
  ·subst hed
   rw [getD_put (by omega), if_pos rfl]
   rw [htd] at hte
   cases hte
   simp only [if_true]
   exact ⟨trivial, ⟨by simpa using hone, us, e, heap_alloc_new w _, by simpa using hru⟩, h.frame.size, unclaimed_new h.rel⟩
  ·simp only [if_neg hed]
   rw [ha e' he' hed]
   obtain ⟨g1, g2, g3, g4⟩ := h3 e' cs he' (hof e' hed hfe) hb hte
   exact ⟨g1, g2.later m.le_refl (hold _ g2.lt), g3, g4⟩
 ·intro hq
  by_cases hed : e' = d
  ·by_cases hfd : f = d
   ·rw [hed, hfd]
   ·simp only [if_pos hed, if_neg hfd] at hq
    have := (h3 f ds hf (hof f hfd hff) hbf htf).2.1.lt
    omega
  ·by_cases hfd : f = d
   ·simp only [if_neg hed, if_pos hfd] at hq
    have := (h3 e' cs he' (hof e' hed hfe) hbe hte).2.1.lt
    omega
   ·simp only [if_neg hed, if_neg hfd] at hq
    exact h4 e' f cs ds he' hf (hof e' hed hfe) (hof f hfd hff) hbe hbf hte htf hq
 ·have hid : i ≠ d := fun q => by rw [q, hdd] at hb; exact hie (q.trans (Option.some.inj hb))
  obtain ⟨g1, g0, gf, ⟨cs', g2⟩, g3⟩ := h5 i e' k o' hi (hof i hid hfr) hb hie hti
  have hed : e' ≠ d := fun q => hnf (q ▸ gf)
  simp only [if_neg hed]
  rw [ha i hi hid]
  exact ⟨g1, g0, .inl gf, ⟨cs', g2⟩, g3⟩
/-- A local is made. -/
theorem BSt.newLocal (h : BSt G pm n fr m t S a w) {d : Nat} (hdd : baseOf pm d = some d) {rs : Option (List Nat)} (hrs : match rs with | none => True | some es => covers pm d es = true)
  {vs : List Value} {us : Array Value} (e : TypeId) (hone : ∀ v ∈ vs, v.oneCell' = true) (hru : LRel m vs us.toList) {v : Value} (hv : lnewV (t d) rs vs = some v) :
  BSt G pm n (fun i => fr i ∨ some d = some i) m ((t.clr (rs.getD [])).put (some d) v) S (a.put (some d) (.pointer (some ⟨w.heap.size, 0, none⟩))) (w.alloc (.cells us e)) := by
 obtain ⟨rfl, he⟩ := h.env.tellLocal hdd hrs hv
 have hb : BSt G pm n (fun i => fr i ∧ i ≠ d) m ((t.clr (rs.getD [])).put (some d) (.agg vs.toArray)) S a w := ⟨h.rel, h.low, h.frame, h.le, h.nx, h.defers, he⟩
 refine (hb.makeLocal hdd (fun q => q.2 rfl) (by simp [Env.put]) e hone hru).weaken (fun i hi => ?_) fun i _ hi => hi.imp (·.1) id
 by_cases hid : i = d
 ·exact .inr (by rw [hid])
 ·exact .inl ⟨hi.resolve_right fun q => hid (Option.some.inj q).symm, hid⟩
theorem Frame.trans2 {S S' : St} {m m' : LMap} {w w' w'' : World} (h : Frame S m w S' m' w') (hs : w''.heap.size = w'.heap.size) (hk : ∀ k, k < w.heap.size → w''.heap[k]? = w'.heap[k]?) : Frame S m w S' m' w'' :=
 ⟨by rw [hs]; exact h.size, fun B hB hc => ⟨(hk B hB).trans (h.same B hB hc).1, (h.same B hB hc).2⟩, h.nx, h.ghost⟩
/-- A store into a local. -/
theorem BSt.storeLocal (h : BSt G pm n fr m t S a w) {d o : Nat} (hd : d < n) (hfd : fr d) (hdd : baseOf pm d = some d) {cs : Array Value} (ht : t d = .agg cs) {vs us : List Value} (hvu : LRel m vs us) (hone : ∀ v ∈ vs, v.oneCell' = true)
  (ho : o + vs.length ≤ cs.toList.length) {B : Nat} (hB : a.tmps.getD d undef = .pointer (some ⟨B, 0, none⟩)) {c : Array Value} {e : TypeId} (hc : w.heap[B]? = some (.cells c e (0, 0))) :
  BSt G pm n fr m (t.put (some d) (.agg (Go.Proofs.YtegaklgjcicnfaaGreat.Abs.ow cs.toList o vs).toArray)) S a (w.setRow B (c.toList.take o ++ us ++ c.toList.drop (o + us.length)).toArray) := by
 obtain ⟨h1, h2, loc, h3, h4, h5⟩ := h.env
 obtain ⟨g1, g2, g3, g4⟩ := h3 d cs hd hfd hdd ht
 have hl : loc d = B := by
  rw [hB] at g1
  injection g1 with this
  injection this with this
  injection this with this
  exact this.symm
 rw [hl] at g1 g2 g3 g4
 obtain ⟨k1, c', e', k2, k3⟩ := g2
 rw [hc] at k2
 cases k2
 have hlt : B < w.heap.size := (Array.getElem?_eq_some_iff.1 hc).1
 have hlow : G.w0.heap.size ≤ B := Nat.le_trans h.low g3
 have hother : ∀ k, k ≠ B → (w.setRow B (c.toList.take o ++ us ++ c.toList.drop (o + us.length)).toArray).heap[k]? = w.heap[k]? := fun k hk => setRow_other w B k _ hk
 have hul : us.length = vs.length := hvu.1.symm
 have hcl : o + us.length ≤ c.toList.length := by rw [← k3.1]; omega
 have hne : ∀ i b, baseOf pm i = some b → i ≠ d → (t.put (some d) (.agg (Go.Proofs.YtegaklgjcicnfaaGreat.Abs.ow cs.toList o vs).toArray)) i = t i := fun i b hb hi => by simp only [Env.put, if_neg hi]
 refine ⟨h.rel.apart (h.rel.below.trans ⟨rfl, rfl, rfl, by simp [World.setRow], fun k hk => hother k (by omega)⟩) hlow g4 (fun k _ hk => hother k hk), h.low,
  h.frame.trans2 (setRow_size _ _ _) (fun k hk => hother k (by omega)), h.le, h.nx, h.defers, h1, fun i hi hfr hb => ?_, loc, fun e' ds he' hfe hb hte => ?_, fun e' f ds ds' he' hf hfe hff hbe hbf hte htf => ?_, fun i e' k o' hi hfr hb hie hti => ?_⟩
 ·have hid : i ≠ d := fun q => by rw [q, hdd] at hb; cases hb
  simp only [Env.put, if_neg hid]
  exact h2 i hi hfr hb
 ·by_cases hed : e' = d
  ·subst hed
   simp only [Env.put, if_true] at hte
   cases hte
   rw [hl]
   refine ⟨hB, ⟨by simpa using ow_one k1 hone o, _, e, setRow_heap w B c _ e (0, 0) hc, ?_⟩, g3, g4⟩
   have := k3.ow hvu o
   rw [ow_eq us c.toList o hcl] at this
   simpa using this
  ·rw [hne e' e' hb hed] at hte
   obtain ⟨q1, q2, q3, q4⟩ := h3 e' ds he' hfe hb hte
   refine ⟨q1, q2.later m.le_refl (hother _ fun q => hed ?_), q3, q4⟩
   exact h4 e' d ds cs he' hd hfe hfd hb hdd hte ht (by rw [q, hl])
 ·have alive : ∀ x cs', baseOf pm x = some x → (t.put (some d) (.agg (Go.Proofs.YtegaklgjcicnfaaGreat.Abs.ow cs.toList o vs).toArray)) x = .agg cs' → ∃ cs'', t x = .agg cs'' := fun x cs' hbx hx => by
   by_cases hxd : x = d
   ·exact ⟨cs, by rw [hxd]; exact ht⟩
   ·rw [hne x x hbx hxd] at hx; exact ⟨_, hx⟩
  obtain ⟨_, e1⟩ := alive _ _ hbe hte
  obtain ⟨_, e2⟩ := alive _ _ hbf htf
  exact h4 e' f _ _ he' hf hfe hff hbe hbf e1 e2
 ·have hid : i ≠ d := fun q => by rw [q, hdd] at hb; exact hie (q.trans (Option.some.inj hb))
  rw [hne i e' hb hid] at hti
  obtain ⟨q1, q0, qf, ⟨cs', q2⟩, q3⟩ := h5 i e' k o' hi hfr hb hie hti
  refine ⟨q1, q0, qf, ?_, q3⟩
  by_cases hed : e' = d
  ·exact ⟨(Go.Proofs.YtegaklgjcicnfaaGreat.Abs.ow cs.toList o vs).toArray, by simp only [Env.put, if_pos hed]⟩
  ·exact ⟨cs', by rw [hne e' e' q0 hed]; exact q2⟩
/-- A load out of a local. -/
theorem LAt.load {cs : List Value} {B : Nat} (h : LAt m w cs B) {ty : TypeId} {sz : Nat} {ag : Bool} (hsz : szT P ty = some sz) (hag : aggT P ty = some ag) {o : Nat} {v : Value} (hv : partL ag o sz cs = some v) :
  ∃ u, VRel m v u ∧ (loadVar ty ⟨B, o, none⟩).run P w = .ok u w := by
 obtain ⟨hone, c, e, hc, hr⟩ := h
 obtain ⟨u, hu, hvu⟩ := partL_rel hr hone hv
 refine ⟨u, hvu, ?_⟩
 cases ag with
 | true =>
  simp only [partL, if_true] at hu
  split at hu
  case isFalse => cases hu
  rename_i hl
  cases hu
  have hcell : ∀ (j : Nat) v, ((c.toList.drop o).take sz)[j]? = some v → w.cell? ((⟨B, o, none⟩ : Addr).add j) = some v := fun j v hv => by
   rw [List.getElem?_take] at hv
   split at hv
   ·rw [List.getElem?_drop] at hv
    rw [cell_at hc j]
    simpa using hv
   ·cases hv
  have hld := run_loadCells_list (P := P) w ⟨B, o, none⟩ ((c.toList.drop o).take sz) hcell
  have hlen : ((c.toList.drop o).take sz).length = sz := by simp only [List.length_take, List.length_drop]; omega
  rw [hlen] at hld
  simp [loadVar, run_isAgg hag, run_sizeOf hsz, hld]
 | false =>
  simp only [partL, Bool.false_eq_true, if_false] at hu
  have hcell : w.cell? ⟨B, o, none⟩ = some u := by rw [cell_of_row w B o c e (0, 0) hc]; simpa using hu
  simp [loadVar, run_isAgg hag, hcell]
theorem wanted_rel {ops : Array Oper} {o : Oper} {g : Option (Nat × Bool)} (he : BRel pm n fr lo m t S a w)
  (hg : (o.guard = none ∧ g = none) ∨ ∃ j want d, o.guard = some (j, want) ∧ (ops[j]?).bind (·.dst) = some d ∧ g = some (d, want) ∧ d < n ∧ baseOf pm d = none ∧ fr d) :
  Region.wanted o (yielded ops a.tmps) = guardB g t := by
 rcases hg with ⟨h1, rfl⟩ | ⟨j, want, d, h1, h2, rfl, hd, hb, hf⟩
 ·simp [Region.wanted, h1, guardB]
 ·simp only [Region.wanted, h1, guardB]
  have hv := he.plain d hd hf hb
  have hlt : d < a.tmps.size := by rw [he.size]; exact hd
  unfold yielded
  rw [h2]
  simp only [Option.bind_some, Array.getElem?_eq_getElem hlt]
  have : a.tmps.getD d undef = a.tmps[d] := by simp [hlt]
  rw [this] at hv
  generalize a.tmps[d] = u at hv
  generalize t d = v at hv
  cases hv <;> first | rfl | (simp only []; cases want <;> rename_i b <;> cases b <;> rfl)
def opTmp : Operand → List Nat
 | .tmp i => [i]
 | _ => []
/-- The places that an operation looks at. -/
def AOper.looks (o : AOper) : List Nat :=
 (o.op.operands.flatMap opTmp) ++ (match o.guard with | some (d, _) => [d] | none => []) ++ (match o.op with | .l l => l.src | _ => [])
theorem compO_spec {ops : Array Oper} {o : Oper} {ao : AOper} (h : compO P pm ops o = some ao) (hok : ao.ok pm n = true) (hl : ∀ x ∈ ao.looks, fr x) :
  compA P pm o.dst o.op = some ao.op ∧ o.dst = ao.dst ∧ ((o.guard = none ∧ ao.guard = none) ∨ ∃ j want d, o.guard = some (j, want) ∧ (ops[j]?).bind (·.dst) = some d ∧ ao.guard = some (d, want) ∧ d < n ∧ baseOf pm d = none ∧ fr d) ∧
   (∀ x ∈ ao.op.operands, opdOk pm n x = true ∧ ∀ i, x = .tmp i → fr i) ∧
   (match ao.op with | .l l => l.ok pm n ao.dst ao.guard = true ∧ ∀ x ∈ l.src, fr x | _ => ∀ x, ao.dst = some x → baseOf pm x = none) := by
 unfold compO at h
 obtain ⟨a, ha, h⟩ := Option.bind_eq_some_iff.1 h
 unfold AOper.ok at hok
 simp only [Bool.and_eq_true, List.all_eq_true] at hok
 have hops : ∀ x ∈ ao.op.operands, opdOk pm n x = true ∧ ∀ i, x = .tmp i → fr i := fun x hx => ⟨hok.1.1 x hx, fun i hi => hl i (by
  unfold AOper.looks
  simp only [List.mem_append]
  exact .inl (.inl (List.mem_flatMap.2 ⟨x, hx, by rw [hi]; simp [opTmp]⟩)))⟩
 have hlast : (match ao.op with | .l l => l.ok pm n ao.dst ao.guard = true ∧ ∀ x ∈ l.src, fr x | _ => ∀ x, ao.dst = some x → baseOf pm x = none) := by
  have h2 := hok.2
  split
  ·rename_i l hop
   rw [hop] at h2
   refine ⟨h2, fun x hx => hl x ?_⟩
   unfold AOper.looks
   rw [hop]
   simp [hx]
  ·rename_i hne
   intro x hx
   rw [hx] at h2
   split at h2
   ·rename_i l hop; exact absurd hop (hne l)
   ·simpa using h2
 cases hg : o.guard with
 | none =>
  rw [hg] at h
  cases h
  exact ⟨ha, rfl, .inl ⟨rfl, rfl⟩, hops, hlast⟩
 | some jw =>
  obtain ⟨j, want⟩ := jw
  rw [hg] at h
  obtain ⟨d, hd, rfl⟩ := Option.map_eq_some_iff.1 h
  have hgd : d < n ∧ baseOf pm d = none := by simpa using hok.1.2
  exact ⟨ha, rfl, .inr ⟨j, want, d, rfl, hd, rfl, hgd.1, hgd.2, hl d (by simp [AOper.looks])⟩, hops, hlast⟩
theorem run_enter {f : FuncId} (h : enters P f = true) (args : Array Value) (w : World) : (callFunc f args).run P w = .ok (.enter f args) w := by
 unfold enters at h
 split at h
 case h_2 => cases h
 rename_i fn hf
 simp only [Bool.and_eq_true, bne_iff_ne, ne_eq] at h
 obtain ⟨b, hb⟩ := Option.isSome_iff_exists.1 h.2
 simp [callFunc, hf, h.1, hb]
theorem LRel.map_ev (he : BRel pm n fr lo m t S a w) {xs : List Operand} (h : ∀ x ∈ xs, opdOk pm n x = true ∧ ∀ i, x = .tmp i → fr i) : LRel m (xs.map (ev t)) (xs.map a.eval) := by
 induction xs with
 | nil => exact .nil m
 | cons x xs ih => exact .cons (he.ev (h x (by simp)).1 (h x (by simp)).2) (ih fun y hy => h y (by simp [hy]))
theorem compA_spec {dst : Option Nat} {o : Op} {b : BOp} (h : compA P pm dst o = some b) :
  (∃ l, compL P pm dst o = some l ∧ b = .l l) ∨ (∃ p, compP P o = some p ∧ b = .p p) ∨ (∃ ho, compH P o = some ho ∧ b = .h ho) ∨ (∃ c, compCallA P o = some c ∧ b = c) ∨ b = .bad := by
 unfold compA at h
 cases h1 : compL P pm dst o with
 | some l => rw [h1] at h; exact .inl ⟨l, rfl, (Option.some.inj h).symm⟩
 | none =>
  rw [h1] at h
  simp only at h
  cases h2 : compP P o with
  | some p => rw [h2] at h; exact .inr (.inl ⟨p, rfl, (Option.some.inj h).symm⟩)
  | none =>
   rw [h2] at h
   simp only at h
   cases h3 : compH P o with
   | some ho => rw [h3] at h; exact .inr (.inr (.inl ⟨ho, rfl, (Option.some.inj h).symm⟩))
   | none =>
    rw [h3] at h
    simp only at h
    cases h4 : compCallA P o with
    | some c => rw [h4] at h; exact .inr (.inr (.inr (.inl ⟨c, rfl, (Option.some.inj h).symm⟩)))
    | none => rw [h4] at h; exact .inr (.inr (.inr (.inr (Option.some.inj h).symm)))
theorem BSt.put (h : BSt G pm n fr m t S a w) {m' : LMap} {S' : St} {w' : World} (hm : m.le m') (hR : Rel G.w0 m' S' w') (hf : Frame S m w S' m' w') (hn : S.next ≤ S'.next) {v u : Value} (hv : VRel m' v u) {d : Option Nat} (hd : ∀ x, d = some x → baseOf pm x = none) :
  BSt G pm n (fun i => fr i ∨ d = some i) m' (t.put d v) S' (a.put d u) w' :=
 ⟨hR, h.low, h.frame.trans hf, LMap.le_trans h.le hm, Nat.le_trans h.nx hn, by rw [defers_put]; exact h.defers, (h.env.later hm hf).putPlain hv hd⟩
/-- The block of a local, and what an address into it is in the machine. -/
theorem BSt.local_ (h : BSt G pm n fr m t S a w) {s d o : Nat} (hs : s < n) (hd : d < n) (hdd : baseOf pm d = some d) (hsd : baseOf pm s = some d) (hfr : fr s) (hfd : fr d) {cs : List Value} (hc : aliveV (t d) = some cs) (ho : offOf t s d = some o) :
  ∃ B, t d = .agg cs.toArray ∧ a.tmps.getD d undef = .pointer (some ⟨B, 0, none⟩) ∧ LAt m w cs B ∧ a.tmps.getD s undef = .pointer (some ⟨B, o, none⟩) := by
 obtain ⟨h1, h2, loc, h3, h4, h5⟩ := h.env
 have ht : t d = .agg cs.toArray := by
  unfold aliveV at hc
  split at hc
  ·rename_i ds hds
   cases hc
   rw [hds]
  ·cases hc
 obtain ⟨g1, g2, _, _⟩ := h3 d cs.toArray hd hfd hdd ht
 refine ⟨loc d, ht, g1, by simpa using g2, ?_⟩
 unfold offOf at ho
 split at ho
 ·rename_i e
  subst e
  cases ho
  exact g1
 ·rename_i hne
  unfold offV at ho
  split at ho
  case h_2 => cases ho
  rename_i k oi hti
  split at ho
  case isFalse => cases ho
  cases ho
  exact (h5 s d k oi hs hfr hsd hne hti).2.2.2.2
theorem opt_bind_some {α β : Type} {x : Option α} {f : α → Option β} {b : β} (h : x.bind f = some b) : ∃ a, x = some a ∧ f a = some b := Option.bind_eq_some_iff.1 h
theorem BSt.tgt_none (h : BSt G pm n fr m t S a w) : BSt G pm n (fun i => fr i ∨ none = some i) m t S a w := h.weaken (fun i hi => hi.resolve_right (by simp)) fun _ _ h => .inl h
theorem Env.clr_nil (t : Env) : t.clr [] = t := by funext i; simp [Env.clr]
theorem local_sound {o : Oper} {l : LO} (hc : compL P pm o.dst o.op = some l) {g : Option (Nat × Bool)} (hok : l.ok pm n o.dst g = true)
  (hB : BSt G pm n fr m t S a w) (hops : ∀ x ∈ l.operands, opdOk pm n x = true ∧ ∀ i, x = .tmp i → fr i) (hsrc : ∀ x ∈ l.src, fr x) {v : Value} (hv : lval t l = some v) :
  ∃ u w', ((execOp a.eval o).run P w = .ok (.value u) w' ∨ ((execOp a.eval o).run P w = .ok .skip w' ∧ u = undef)) ∧ BSt G pm n (fun i => fr i ∨ o.dst = some i) m ((t.clr l.clr).put (l.tgt o.dst) v) S (a.put o.dst u) w' := by
 obtain ⟨dst, op, type, pos, after, guard⟩ := o
 simp only at hc hok
 have addr : ∀ {s d off : Nat} {e : Nat} {o : Nat} {cs : List Value} {x : Nat}, s < n → d < n → baseOf pm d = some d → baseOf pm s = some d → fr s → fr d → dst = some e → baseOf pm e = some d → e ≠ d → aliveV (t d) = some cs → offOf t s d = some o →
   ∃ B, a.tmps.getD s undef = .pointer (some ⟨B, o, none⟩) ∧ BSt G pm n (fun i => fr i ∨ dst = some i) m ((t.clr []).put dst (.int .i64 (x : Int))) S (a.put dst (.pointer (some ⟨B, x, none⟩))) w := by
  intro s d off e o cs x hs hd hdd hsd hfr hfd hde he hed hal hof
  obtain ⟨B, h1, h2, h3, h4⟩ := hB.local_ hs hd hdd hsd hfr hfd hal hof
  refine ⟨B, h4, ?_⟩
  subst hde
  rw [Env.clr_nil]
  exact ⟨hB.rel, hB.low, hB.frame, hB.le, hB.nx, by rw [defers_put]; exact hB.defers, hB.env.putAddr (K := fun _ => True) he hed hd hfd hdd h1 h2⟩
 have evt : ∀ s, a.eval (.tmp s) = a.tmps.getD s undef := fun s => by simp [Act.eval]
 cases op
 case alloc ty =>
  simp only [compL] at hc
  obtain ⟨d, hd, hc⟩ := opt_bind_some hc
  split at hc
  case isFalse => cases hc
  rename_i hbd
  obtain ⟨z, hz, hc⟩ := opt_bind_some hc
  split at hc
  case isFalse => cases hc
  rename_i hzo
  cases hc
  simp only [LO.ok, Bool.and_eq_true, decide_eq_true_eq, beq_iff_eq] at hok
  obtain ⟨h1, h2⟩ := atoms_rel (m := m) (constOk_cells hzo)
  subst hd
  refine ⟨_, _, .inl ?_, hB.newLocal (rs := againOf pm d) (us := z.cells) hbd (by have := hok.1.2; split at this <;> simp_all) ty h2 h1 hv⟩
  simp [execOp, Instr.alloc, run_zeroValue (P := P) (t := ty) hz, newVar, newRow]
 case box ty x =>
  simp only [compL] at hc
  obtain ⟨d, hd, hc⟩ := opt_bind_some hc
  split at hc
  case isFalse => cases hc
  rename_i hbd
  cases hc
  simp only [LO.ok, Bool.and_eq_true, decide_eq_true_eq, beq_iff_eq] at hok
  simp only [lval] at hv
  split at hv
  case isFalse => cases hv
  rename_i hst
  have hx := hB.env.ev (hops x (by simp [LO.operands])).1 (hops x (by simp [LO.operands])).2
  subst hd
  refine ⟨_, _, .inl ?_, hB.newLocal (rs := againOf pm d) (us := (a.eval x).cells) hbd (by have := hok.2; split at this <;> simp_all) ty (hx.cells_one hst) hx.cells hv⟩
  simp [execOp, Instr.box, newVar, newRow]
 case fieldAddr st x f =>
  cases x <;> simp only [compL] at hc <;> try cases hc
  rename_i s
  obtain ⟨d, hd, hc⟩ := opt_bind_some hc
  obtain ⟨fd, hfd, hc⟩ := opt_bind_some hc
  obtain ⟨k, hk, hc⟩ := opt_bind_some hc
  split at hc
  ·cases hc
  rename_i hk0
  cases hc
  simp only [LO.ok, Bool.and_eq_true, decide_eq_true_eq, beq_iff_eq] at hok
  obtain ⟨⟨⟨⟨hs, hdn⟩, hdd⟩, hsd⟩, hdst⟩ := hok
  simp only [lval, laddrV] at hv
  split at hv
  case h_2 => cases hv
  rename_i cs o hal hof
  cases hv
  split at hdst
  case h_2 => cases hdst
  rename_i e
  simp only [Bool.and_eq_true, beq_iff_eq, bne_iff_ne, ne_eq, decide_eq_true_eq] at hdst
  obtain ⟨B, h4, h5⟩ := addr (off := fd.offset) (x := o + fd.offset) hs hdn hdd hsd (hsrc s (by simp [LO.src])) (hsrc d (by simp [LO.src])) rfl hdst.1.1 hdst.1.2 hal hof
  refine ⟨_, w, .inl ?_, h5⟩
  unfold fieldOf at hfd
  split at hfd
  case h_2 => cases hfd
  rename_i fs hfs
  simp [execOp, evt, h4, Instr.fieldAt, run_underlying hfs, hfd, Instr.sureAddr, fieldPlace, run_sizeOf hk, hk0, addr_add]
 case nilCheck x =>
  cases x <;> simp only [compL] at hc <;> try cases hc
  rename_i s
  obtain ⟨d, hd, hc⟩ := Option.map_eq_some_iff.1 hc
  cases hc
  simp only [LO.ok, Bool.and_eq_true, decide_eq_true_eq, beq_iff_eq] at hok
  obtain ⟨⟨⟨⟨hs, hdn⟩, hdd⟩, hsd⟩, hdst⟩ := hok
  simp only [lval, laddrV] at hv
  split at hv
  case h_2 => cases hv
  rename_i cs o hal hof
  cases hv
  split at hdst
  case h_2 => cases hdst
  rename_i e
  simp only [Bool.and_eq_true, beq_iff_eq, bne_iff_ne, ne_eq, decide_eq_true_eq] at hdst
  obtain ⟨B, h4, h5⟩ := addr (off := 0) (x := o + 0) hs hdn hdd hsd (hsrc s (by simp [LO.src])) (hsrc d (by simp [LO.src])) rfl hdst.1.1 hdst.1.2 hal hof
  refine ⟨_, w, .inl ?_, h5⟩
  simp [execOp, evt, h4]
 case move x =>
  cases x <;> simp only [compL] at hc <;> try cases hc
  rename_i s
  obtain ⟨d, hd, hc⟩ := Option.map_eq_some_iff.1 hc
  cases hc
  simp only [LO.ok, Bool.and_eq_true, decide_eq_true_eq, beq_iff_eq] at hok
  obtain ⟨⟨⟨⟨hs, hdn⟩, hdd⟩, hsd⟩, hdst⟩ := hok
  simp only [lval, laddrV] at hv
  split at hv
  case h_2 => cases hv
  rename_i cs o hal hof
  cases hv
  split at hdst
  case h_2 => cases hdst
  rename_i e
  simp only [Bool.and_eq_true, beq_iff_eq, bne_iff_ne, ne_eq, decide_eq_true_eq] at hdst
  obtain ⟨B, h4, h5⟩ := addr (off := 0) (x := o + 0) hs hdn hdd hsd (hsrc s (by simp [LO.src])) (hsrc d (by simp [LO.src])) rfl hdst.1.1 hdst.1.2 hal hof
  refine ⟨_, w, .inl ?_, h5⟩
  simp [execOp, evt, h4]
 case assign x =>
  cases x <;> simp only [compL] at hc <;> try cases hc
  rename_i s
  obtain ⟨d, hd, hc⟩ := Option.map_eq_some_iff.1 hc
  cases hc
  simp only [LO.ok, Bool.and_eq_true, decide_eq_true_eq, beq_iff_eq] at hok
  obtain ⟨⟨⟨⟨hs, hdn⟩, hdd⟩, hsd⟩, hdst⟩ := hok
  simp only [lval, laddrV] at hv
  split at hv
  case h_2 => cases hv
  rename_i cs o hal hof
  cases hv
  split at hdst
  case h_2 => cases hdst
  rename_i e
  simp only [Bool.and_eq_true, beq_iff_eq, bne_iff_ne, ne_eq, decide_eq_true_eq] at hdst
  obtain ⟨B, h4, h5⟩ := addr (off := 0) (x := o + 0) hs hdn hdd hsd (hsrc s (by simp [LO.src])) (hsrc d (by simp [LO.src])) rfl hdst.1.1 hdst.1.2 hal hof
  refine ⟨_, w, .inl ?_, h5⟩
  simp [execOp, evt, h4]
 case indexAddr ty x i =>
  cases x <;> simp only [compL] at hc <;> try cases hc
  rename_i s
  obtain ⟨d, hd, hc⟩ := opt_bind_some hc
  split at hc
  case h_2 => cases hc
  rename_i len e' hut
  obtain ⟨sz, hsz, hc⟩ := Option.map_eq_some_iff.1 hc
  cases hc
  simp only [LO.ok, Bool.and_eq_true, decide_eq_true_eq, beq_iff_eq] at hok
  obtain ⟨⟨⟨⟨hs, hdn⟩, hdd⟩, hsd⟩, hdst⟩ := hok
  simp only [lval, lidxV] at hv
  split at hv
  case h_2 => cases hv
  rename_i cs o k j hal hof hi
  split at hv
  case isFalse => cases hv
  rename_i hj
  cases hv
  split at hdst
  case h_2 => cases hdst
  rename_i e
  simp only [Bool.and_eq_true, beq_iff_eq, bne_iff_ne, ne_eq, decide_eq_true_eq] at hdst
  obtain ⟨B, h4, h5⟩ := addr (off := 0) (x := o + j.toNat * sz) hs hdn hdd hsd (hsrc s (by simp [LO.src])) (hsrc d (by simp [LO.src])) rfl hdst.1.1 hdst.1.2 hal hof
  have hi' := (hB.env.ev (hops i (by simp [LO.operands])).1 (hops i (by simp [LO.operands])).2).of_int hi
  refine ⟨_, w, .inl ?_, h5⟩
  simp [execOp, evt, h4, hi', Instr.indexAt, asIntOf, run_underlying hut, Instr.sureAddr, hj, run_sizeOf hsz, addr_add]
 case load ty x =>
  cases x <;> simp only [compL] at hc <;> try cases hc
  rename_i s
  obtain ⟨d, hd, hc⟩ := opt_bind_some hc
  obtain ⟨sz, hsz, hc⟩ := opt_bind_some hc
  obtain ⟨ag, hag, hc⟩ := Option.map_eq_some_iff.1 hc
  cases hc
  simp only [LO.ok, Bool.and_eq_true, decide_eq_true_eq, beq_iff_eq] at hok
  obtain ⟨⟨⟨⟨hs, hdn⟩, hdd⟩, hsd⟩, hdst⟩ := hok
  simp only [lval, lloadV] at hv
  split at hv
  case h_2 => cases hv
  rename_i cs o hal hof
  obtain ⟨B, h1, h2, h3, h4⟩ := hB.local_ hs hdn hdd hsd (hsrc s (by simp [LO.src])) (hsrc d (by simp [LO.src])) hal hof
  obtain ⟨u, hvu, hld⟩ := h3.load (P := P) hsz hag hv
  refine ⟨u, w, .inl ?_, ?_⟩
  ·simp [execOp, evt, h4, Instr.loadAt, Instr.sureAddr, hld]
  ·simp only [LO.clr, LO.tgt, Env.clr_nil]
   exact hB.put m.le_refl hB.rel (.refl _ _ _) (Nat.le_refl _) hvu fun x hx => by rw [hx] at hdst; simpa using hdst
 case store ty x y =>
  cases x <;> simp only [compL] at hc <;> try cases hc
  rename_i s
  obtain ⟨d, hd, hc⟩ := opt_bind_some hc
  obtain ⟨sz, hsz, hc⟩ := Option.map_eq_some_iff.1 hc
  cases hc
  simp only [LO.ok, Bool.and_eq_true, decide_eq_true_eq, beq_iff_eq] at hok
  obtain ⟨⟨⟨⟨hs, hdn⟩, hdd⟩, hsd⟩, hdst⟩ := hok
  simp only [lval, lstoreV] at hv
  split at hv
  case h_2 => cases hv
  rename_i cs o hal hof
  split at hv
  case isFalse => cases hv
  rename_i hcnd
  obtain ⟨hsize, hlen, hst⟩ := hcnd
  cases hv
  obtain rfl := Option.isNone_iff_eq_none.1 hdst
  obtain ⟨B, h1, h2, h3, h4⟩ := hB.local_ hs hdn hdd hsd (hsrc s (by simp [LO.src])) (hsrc d (by simp [LO.src])) hal hof
  have hy := hB.env.ev (hops y (by simp [LO.operands])).1 (hops y (by simp [LO.operands])).2
  have hcl := hy.cells
  have hone1 := hy.cells_one hst
  have hone2 : ∀ z ∈ (a.eval y).cells.toList, z.oneCell' = true := by
   intro z hz
   obtain ⟨i, hi⟩ := List.getElem?_of_mem hz
   have hi' : i < (ev t y).cells.toList.length := by rw [hcl.1]; exact (List.getElem?_eq_some_iff.1 hi).1
   have := hcl.2 i _ z (List.getElem?_eq_getElem hi') hi
   rw [← this.oneCell]
   exact hone1 _ (List.getElem_mem hi')
  obtain ⟨k1, c, e, k2, k3⟩ := h3
  have hul : (a.eval y).cells.toList.length = sz := by rw [← hcl.1]; exact hsize
  have hus : (a.eval y).cells.size = sz := by simpa using hul
  have hfit : o + (a.eval y).cells.toList.length ≤ c.toList.length := by rw [hul, ← k3.1]; exact hlen
  have hstore := run_storeCells_at P B o e (a.eval y).cells.toList 0 c w k2 (by simpa using hfit) hone2
  simp only [Nat.add_zero] at hstore
  have hb := hB.storeLocal (o := o) hdn (hsrc d (by simp [LO.src])) hdd h1 hcl hone1 (by simpa [hsize] using hlen) h2 k2
  refine ⟨undef, w.setRow B (c.toList.take o ++ (a.eval y).cells.toList ++ c.toList.drop (o + (a.eval y).cells.toList.length)).toArray, .inr ⟨?_, rfl⟩, ?_⟩
  rotate_left
  ·simp only [LO.clr, LO.tgt, Env.clr_nil]
   simp only [List.toList_toArray] at hb
   exact hb.tgt_none
  ·simp [execOp, evt, h4, Instr.storeAt, Instr.sureAddr, storeVar, run_sizeOf hsz, hus, hstore]
 all_goals (simp only [compL] at hc; cases hc)
/-- The method of an interface's value, in the machine. -/
theorem methA_sound (hR : Rel w0 m S w) {ty : TypeId} {v : Value} {name : String} {f : FuncId} {r : Value} (h : methA P S ty v name = some (f, r)) {u : Value} (hu : VRel m v u) :
  ∃ r', VRel m r r' ∧ (method (P.types.size + Made.depth) ty u name).run P w = .ok (f, r') w := by
 unfold methA at h
 obtain ⟨i, hi, h⟩ := Option.bind_eq_some_iff.1 h
 obtain ⟨mr, hmr, h⟩ := Option.bind_eq_some_iff.1 h
 split at h
 case isFalse => cases h
 rename_i hpe
 have hpath : mr.path = #[] := by simpa using hpe
 have hfol : (follow mr.path.toList ty (.val u)).run P w = .ok (ty, .val u) w := by rw [hpath]; rfl
 have hti : (typeInfo ty).run P w = .ok i w := by simp [typeInfo, hi]
 rw [show P.types.size + Made.depth = (P.types.size + 99) + 1 from rfl, method]
 split at h
 ·cases h
 ·rename_i f' hf
  split at h
  case h_2 => cases h
  rename_i e hut
  cases h
  refine ⟨u, hu, ?_⟩
  simp only [Sem.run_bind, hti, Result.andThen_ok, hmr, hfol, hf, receiverAt, run_underlying hut, Place.get, Sem.run_pure]
 ·rename_i f' hf
  split at h
  case h_2 => cases h
  rename_i e id o hut _ _
  obtain ⟨sz, hsz, h⟩ := Option.bind_eq_some_iff.1 h
  obtain ⟨ag, hag, h⟩ := Option.bind_eq_some_iff.1 h
  obtain ⟨r0, hld, h⟩ := Option.map_eq_some_iff.1 h
  cases h
  obtain ⟨loc, hl, hul⟩ := hu.of_ptr rfl
  obtain ⟨r', hrr, hrun⟩ := ldv_rel (P := P) hR hsz hag hld hl
  refine ⟨r', hrr, ?_⟩
  subst hul
  have hw : ∀ n, (Builtin.ssaWrapNilChk_ #[ty] ty #[.pointer (some ⟨loc.cb, loc.dl + o, none⟩), strVal "", strVal n]).run P w = .ok (.pointer (some ⟨loc.cb, loc.dl + o, none⟩)) w := fun n => rfl
  simp only [Sem.run_bind, hti, Result.andThen_ok, hmr, hpath, follow, hf, receiverAt, run_underlying hut, Place.get, Sem.run_pure, Array.isEmpty_empty, if_true, hw, asAddr, hrun]
theorem make_new {o : Oper} {d : Nat} {rs : Option (List Nat)} {z : List Value} (hc : compL P pm o.dst o.op = some (.new d rs z)) :
  o.dst = some d ∧ baseOf pm d = some d ∧ ∃ us e, LRel m z us.toList ∧ (∀ x ∈ z, x.oneCell' = true) ∧ ∀ (ρ' : Operand → Value) w, (execOp ρ' o).run P w = .ok (.value (.pointer (some ⟨w.heap.size, 0, none⟩))) (w.alloc (.cells us e)) := by
 obtain ⟨dst, op, type, pos, after, guard⟩ := o
 simp only at hc
 cases op
 case alloc ty =>
  simp only [compL] at hc
  obtain ⟨d, hd, hc⟩ := opt_bind_some hc
  split at hc
  case isFalse => cases hc
  rename_i hbd
  obtain ⟨z, hz, hc⟩ := opt_bind_some hc
  split at hc
  case isFalse => cases hc
  rename_i hzo
  cases hc
  obtain ⟨h1, h2⟩ := atoms_rel (m := m) (constOk_cells hzo)
  exact ⟨hd, hbd, z.cells, ty, h1, h2, fun ρ' w => by simp [execOp, Instr.alloc, run_zeroValue (P := P) (t := ty) hz, newVar, newRow]⟩
 case box ty x =>
  simp only [compL] at hc
  obtain ⟨d, hd, hc⟩ := opt_bind_some hc
  split at hc <;> cases hc
 case indexAddr ty x i =>
  cases x <;> simp only [compL] at hc <;> try cases hc
  obtain ⟨d, hd, hc⟩ := opt_bind_some hc
  split at hc
  ·obtain ⟨_, _, hc⟩ := Option.map_eq_some_iff.1 hc
   cases hc
  ·cases hc
 case fieldAddr st x f =>
  cases x <;> simp only [compL] at hc <;> try cases hc
  obtain ⟨d, hd, hc⟩ := opt_bind_some hc
  obtain ⟨fd, hfd, hc⟩ := opt_bind_some hc
  obtain ⟨k, hk, hc⟩ := opt_bind_some hc
  split at hc <;> cases hc
 case load ty x =>
  cases x <;> simp only [compL] at hc <;> try cases hc
  obtain ⟨d, hd, hc⟩ := opt_bind_some hc
  obtain ⟨sz, hsz, hc⟩ := opt_bind_some hc
  obtain ⟨ag, hag, hc⟩ := Option.map_eq_some_iff.1 hc
  cases hc
 case nilCheck x =>
  cases x <;> simp only [compL] at hc <;> try cases hc
  obtain ⟨d, hd, hc⟩ := Option.map_eq_some_iff.1 hc
  cases hc
 case move x =>
  cases x <;> simp only [compL] at hc <;> try cases hc
  obtain ⟨d, hd, hc⟩ := Option.map_eq_some_iff.1 hc
  cases hc
 case assign x =>
  cases x <;> simp only [compL] at hc <;> try cases hc
  obtain ⟨d, hd, hc⟩ := Option.map_eq_some_iff.1 hc
  cases hc
 case store ty x y =>
  cases x <;> simp only [compL] at hc <;> try cases hc
  obtain ⟨d, hd, hc⟩ := opt_bind_some hc
  obtain ⟨sz, hsz, hc⟩ := Option.map_eq_some_iff.1 hc
  cases hc
 all_goals (simp only [compL] at hc; cases hc)
theorem make_box {o : Oper} {d : Nat} {rs : Option (List Nat)} {x : Operand} (hc : compL P pm o.dst o.op = some (.box d rs x)) :
  o.dst = some d ∧ baseOf pm d = some d ∧ ∃ e, ∀ (ρ' : Operand → Value) w, (execOp ρ' o).run P w = .ok (.value (.pointer (some ⟨w.heap.size, 0, none⟩))) (w.alloc (.cells (ρ' x).cells e)) := by
 obtain ⟨dst, op, type, pos, after, guard⟩ := o
 simp only at hc
 cases op
 case alloc ty =>
  simp only [compL] at hc
  obtain ⟨d, hd, hc⟩ := opt_bind_some hc
  split at hc
  case isFalse => cases hc
  obtain ⟨z, hz, hc⟩ := opt_bind_some hc
  split at hc <;> cases hc
 case box ty x =>
  simp only [compL] at hc
  obtain ⟨d, hd, hc⟩ := opt_bind_some hc
  split at hc
  case isFalse => cases hc
  rename_i hbd
  cases hc
  exact ⟨hd, hbd, ty, fun ρ' w => by simp [execOp, Instr.box, newVar, newRow]⟩
 case indexAddr ty x i =>
  cases x <;> simp only [compL] at hc <;> try cases hc
  obtain ⟨d, hd, hc⟩ := opt_bind_some hc
  split at hc
  ·obtain ⟨_, _, hc⟩ := Option.map_eq_some_iff.1 hc
   cases hc
  ·cases hc
 case fieldAddr st x f =>
  cases x <;> simp only [compL] at hc <;> try cases hc
  obtain ⟨d, hd, hc⟩ := opt_bind_some hc
  obtain ⟨fd, hfd, hc⟩ := opt_bind_some hc
  obtain ⟨k, hk, hc⟩ := opt_bind_some hc
  split at hc <;> cases hc
 case load ty x =>
  cases x <;> simp only [compL] at hc <;> try cases hc
  obtain ⟨d, hd, hc⟩ := opt_bind_some hc
  obtain ⟨sz, hsz, hc⟩ := opt_bind_some hc
  obtain ⟨ag, hag, hc⟩ := Option.map_eq_some_iff.1 hc
  cases hc
 case nilCheck x =>
  cases x <;> simp only [compL] at hc <;> try cases hc
  obtain ⟨d, hd, hc⟩ := Option.map_eq_some_iff.1 hc
  cases hc
 case move x =>
  cases x <;> simp only [compL] at hc <;> try cases hc
  obtain ⟨d, hd, hc⟩ := Option.map_eq_some_iff.1 hc
  cases hc
 case assign x =>
  cases x <;> simp only [compL] at hc <;> try cases hc
  obtain ⟨d, hd, hc⟩ := Option.map_eq_some_iff.1 hc
  cases hc
 case store ty x y =>
  cases x <;> simp only [compL] at hc <;> try cases hc
  obtain ⟨d, hd, hc⟩ := opt_bind_some hc
  obtain ⟨sz, hsz, hc⟩ := Option.map_eq_some_iff.1 hc
  cases hc
 all_goals (simp only [compL] at hc; cases hc)
/-- What is named and not yet made stays so. -/
def Gh (S : St) (m : LMap) (S' : St) (m' : LMap) : Prop := S.next ≤ S'.next ∧ ∀ id, id < S.next → m id = none → m' id = none ∧ S'.blk id = S.blk id
theorem Gh.refl (S : St) (m : LMap) : Gh S m S m := ⟨Nat.le_refl _, fun _ _ h => ⟨h, rfl⟩⟩
/-- One operation. -/
theorem op_sound {ops : Array Oper} {i : Nat} {o : Oper} {ao : AOper} (hi : ops[i]? = some o) (hc : compO P pm ops o = some ao) (hok : ao.ok pm n = true)
  {K : Env → St → Prop} {K' : Act → World → Prop} {Q' : Exit → Act → World → Prop} (hB : BSt G pm n fr m t S a w) (hl : ∀ x ∈ ao.looks, fr x)
  (h : opWp P ao t S K)
  (hK : ∀ m' t' S' a' w', BSt G pm n (fun i => fr i ∨ ao.dst = some i) m' t' S' a' w' → Gh S m S' m' → K t' S' → K' a' w') : wpOp P ops Q' i K' a w := by
 obtain ⟨ha, hdst, hg, hops, hlast⟩ := compO_spec hc hok hl
 have hw := wanted_rel (ops := ops) (o := o) hB.env hg
 have hsees : Sees m (ev t) a.eval ao.op.operands := fun x hx => hB.env.ev (hops x hx).1 (hops x hx).2
 unfold wpOp
 simp only [hi, hw]
 unfold opWp at h
 cases hgb : guardB ao.guard t with
 | false =>
  simp only [hgb, Bool.false_eq_true, if_false] at h ⊢
  refine hK m _ S _ w ?_ (.refl _ _) h
  rw [hdst]
  have plain : (∀ x, ao.dst = some x → baseOf pm x = none) → BSt G pm n (fun i => fr i ∨ ao.dst = some i) m (t.put ao.dst undef) S (a.put ao.dst undef) w :=
   fun hd => hB.put m.le_refl hB.rel (.refl _ _ _) (Nat.le_refl _) (.tuple rfl (fun i x y hx => by simp at hx)) hd
  split at hlast
  ·rename_i l hop
   obtain ⟨hlok, _⟩ := hlast
   have addr : ∀ {e d : Nat}, ao.dst = some e → baseOf pm e = some d → e ≠ d → BSt G pm n (fun i => fr i ∨ ao.dst = some i) m (t.put ao.dst undef) S (a.put ao.dst undef) w := by
    intro e d he hb hne
    rw [he]
    exact ⟨hB.rel, hB.low, hB.frame, hB.le, hB.nx, by rw [defers_put]; exact hB.defers, hB.env.putNone hb hne⟩
   have hgs : ao.guard.isNone = false := by
    cases hgg : ao.guard with
    | none => rw [hgg] at hgb; simp [guardB] at hgb
    | some _ => rfl
   cases l <;> simp only [LO.ok, hgs, Bool.false_and, Bool.and_eq_true, decide_eq_true_eq, beq_iff_eq] at hlok
   case new => cases hlok
   case box => cases hlok
   case addr s d off =>
    obtain ⟨_, hdst'⟩ := hlok
    split at hdst'
    case h_2 => cases hdst'
    rename_i e hde
    simp only [Bool.and_eq_true, beq_iff_eq, bne_iff_ne, ne_eq, decide_eq_true_eq] at hdst'
    exact addr hde hdst'.1.1 hdst'.1.2
   case idx s d _ _ _ =>
    obtain ⟨_, hdst'⟩ := hlok
    split at hdst'
    case h_2 => cases hdst'
    rename_i e hde
    simp only [Bool.and_eq_true, beq_iff_eq, bne_iff_ne, ne_eq, decide_eq_true_eq] at hdst'
    exact addr hde hdst'.1.1 hdst'.1.2
   case load => exact plain fun x hx => by have := hlok.2; rw [hx] at this; simpa using this
   case store => exact plain fun x hx => by have := hlok.2; rw [hx] at this; simp at this
  ·exact plain hlast
 | true =>
  simp only [hgb, if_true] at h ⊢
  refine .inl ?_
  unfold Oper.wp
  rcases compA_spec ha with ⟨l, hcl, hop⟩ | ⟨p, hp, hop⟩ | ⟨ho, hh, hop⟩ | ⟨c0, h3, hop⟩ | hop
  ·rw [hop] at h hops hlast
   simp only [optV] at h hlast
   split at h
   case h_2 => exact h.elim
   rename_i v hv
   obtain ⟨hlok, hsrc⟩ := hlast
   rw [← hdst] at hlok
   obtain ⟨u, w', hrun, hb⟩ := local_sound hcl hlok hB hops hsrc hv
   rw [hdst] at hb
   rcases hrun with hrun | ⟨hrun, rfl⟩
   ·rw [hrun]
    rw [← hdst] at hb h
    exact hK m _ S _ w' (hdst ▸ hb) (.refl _ _) h
   ·rw [hrun]
    rw [← hdst] at hb h
    exact hK m _ S _ w' (hdst ▸ hb) (.refl _ _) h
  ·rw [hop] at h hops hlast hsees
   simp only [bodyWp, optV] at h
   split at h
   case h_2 => exact h.elim
   rename_i v hv
   obtain ⟨u, hvu, hrun⟩ := pure_sound o (fun y c hy => by rw [hy]; rfl) hp hsees hv
   rw [hrun w]
   refine hK m _ S _ w ?_ (.refl _ _) h
   rw [hdst]
   exact hB.put m.le_refl hB.rel (.refl _ _ _) (Nat.le_refl _) hvu hlast
  ·rw [hop] at h hops hlast hsees
   simp only [bodyWp, optWp] at h
   split at h
   case h_2 => exact h.elim
   rename_i v S' hv
   obtain ⟨m', u, w', hm, hR', hf, hn, hvu, hrun | ⟨hrun, rfl⟩⟩ := heap_sound o hh hB.rel hsees hv
   ·rw [hrun]
    refine hK m' _ S' _ w' ?_ ⟨hf.nx, hf.ghost⟩ h
    rw [hdst]
    exact hB.put hm hR' hf hn hvu hlast
   ·rw [hrun]
    refine hK m' _ S' _ w' ?_ ⟨hf.nx, hf.ghost⟩ h
    rw [hdst]
    exact hB.put hm hR' hf hn hvu hlast
  ·have hfin : ∀ (f : FuncId) (args : List Value) (cargs : List Value), (∀ x, ao.dst = some x → baseOf pm x = none) → LRel m args cargs → (execOp a.eval o).run P w = .ok (.enter f cargs.toArray) w → ACalls P f args S (fun v S' => K (t.put ao.dst v) S') →
     o.upon P a K' Q' ((execOp a.eval o).run P w) := by
    intro f args cargs hdp hl hrun hcall
    rw [hrun, Oper.upon_enter]
    refine (hcall G.w0 m w cargs hB.rel hl).mono ?_
    rintro e w' ⟨m', v, u, S', hm, hR', hf, hn, hvu, rfl, hk⟩
    refine hK m' _ S' _ w' ?_ ⟨hf.nx, hf.ghost⟩ hk
    rw [hdst]
    exact hB.put hm hR' hf hn hvu hdp
   unfold compCallA at h3
   split at h3
   case h_2 => cases h3
   rename_i c hcop
   split at h3
   ·rename_i f hcal
    split at h3
    case isFalse => cases h3
    rename_i hent
    cases h3
    rw [hop] at h hops hlast
    simp only [bodyWp] at h hlast
    refine hfin f _ _ hlast (LRel.map_ev (xs := c.args.toList) hB.env (fun x hx => hops x hx)) ?_ h
    have : execOp a.eval o = (do let d ← resolve a.eval c o.type; invoke d.target d.args) := by unfold execOp; rw [hcop]
    rw [this]
    have h1 : (a.eval (.func f)) = .func (.func f) #[] #[] := rfl
    simp only [resolve, hcal, h1, Deferred.ofValue, Sem.run_bind, Sem.run_pure, Result.andThen_ok, invoke, run_enter hent]
    congr 2
    apply Array.ext'
    simp
   ·rename_i x hx hcal
    cases h3
    rw [hop] at h hops hlast
    simp only [bodyWp] at h hlast
    split at h
    case h_2 => exact h.elim
    rename_i f first cap hfx
    obtain ⟨hent, h⟩ := h
    have hrx := hB.env.ev (hops x (by simp [BOp.operands])).1 (hops x (by simp [BOp.operands])).2
    rw [hfx] at hrx
    generalize hux : a.eval x = u at hrx
    cases hrx with
    | func fn h1 h2 h3 h4 =>
     rename_i ys ds
     refine hfin f _ (ys.toList ++ c.args.toList.map a.eval ++ ds.toList) hlast ?_ ?_ h
     ·exact ((LRel.of_array ⟨h1, h2⟩).append (LRel.map_ev hB.env (fun y hy => hops y (by simp [BOp.operands] at hy ⊢; exact .inr hy)))).append (LRel.of_array ⟨h3, h4⟩)
     ·have : execOp a.eval o = (do let d ← resolve a.eval c o.type; invoke d.target d.args) := by unfold execOp; rw [hcop]
      rw [this]
      simp only [resolve, hcal, hux, Deferred.ofValue, Sem.run_bind, Sem.run_pure, Result.andThen_ok, invoke, run_enter hent]
      congr 2
      apply Array.ext'
      simp
   ·rename_i x name hcal
    cases h3
    rw [hop] at h hops hlast
    simp only [bodyWp] at h hlast
    split at h
    case h_2 => exact h.elim
    rename_i ty v hx
    split at h
    case h_2 => exact h.elim
    rename_i f r hme
    obtain ⟨hent, h⟩ := h
    have hrx := hB.env.ev (hops x (by simp [BOp.operands])).1 (hops x (by simp [BOp.operands])).2
    rw [hx] at hrx
    generalize hux : a.eval x = u at hrx
    cases hrx with
    | iface _ hvu =>
     rename_i u'
     obtain ⟨r', hrr, hrun⟩ := methA_sound (P := P) hB.rel hme hvu
     refine hfin f _ (r' :: c.args.toList.map a.eval) hlast (.cons hrr (LRel.map_ev hB.env (fun y hy => hops y (by simp [BOp.operands] at hy ⊢; exact .inr hy)))) ?_ h
     have : execOp a.eval o = (do let d ← resolve a.eval c o.type; invoke d.target d.args) := by unfold execOp; rw [hcop]
     rw [this]
     have hx1 : (#[Value.iface ty u'] ++ c.args.map a.eval).extract 1 (#[Value.iface ty u'] ++ c.args.map a.eval).size = c.args.map a.eval := by
      apply Array.ext'
      simp
      exact List.take_of_length_le (by simp)
     simp only [resolve, hcal, hux, Sem.run_bind, Sem.run_pure, Result.andThen_ok, invoke, callMethod, run_program]
     simp only [Array.getElem?_append, Array.size_singleton, Nat.zero_lt_one, if_true, Array.getElem?_singleton, hx1, Sem.run_bind, run_program, Result.andThen_ok, hrun, run_enter hent]
     congr 2
     apply Array.ext'
     simp
   ·cases h3
  ·rw [hop] at h
   simp only [bodyWp] at h
end
end Go.Proofs.YtegaklgjcicnfaaGreat.Abs
