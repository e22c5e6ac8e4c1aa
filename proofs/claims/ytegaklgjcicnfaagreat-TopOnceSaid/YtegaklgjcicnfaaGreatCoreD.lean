/- Regions in whatever order, the code, and functions, over the abstract memory. -/
import Derived.Test.YtegaklgjcicnfaaGreatCoreC
set_option linter.unusedSimpArgs false
set_option linter.unusedVariables false
namespace Go.Proofs.YtegaklgjcicnfaaGreat.Abs
open Go Go.RowKit
/-- A load that may come later than it is told: its value must stay. -/
structure Pend where
 dst : Nat
 op : HO
 guard : Option (Nat × Bool)
inductive ATree where
 | done
 | op (o : AOper) (rest : ATree)
 | both (l r : ATree)
 | chk (ps : List Pend) (rest : ATree)
inductive ACode where
 | skip
 | reg (tr : ATree)
 | seq (a b : ACode)
 | cond (c : Operand) (thn els : ACode)
 | block (id : Nat) (body : ACode)
 | loop (body : ACode)
 | exit (id : Nat)
 | ret
/-- How many places a function has, which of its variables stay with it, and in which way its regions are read. -/
structure Cfg where
 n : Nat
 pm : PM
 lz : Bool
def ATree.ok (g : Cfg) : ATree → Bool
 | .done => true
 | .op o r => o.ok g.pm g.n && r.ok g
 | .both l r => l.ok g && r.ok g
 | .chk _ r => r.ok g
def ACode.ok (g : Cfg) : ACode → Bool
 | .skip | .exit _ | .ret => true
 | .reg tr => tr.ok g
 | .seq a b => a.ok g && b.ok g
 | .cond c a b => opdOk g.pm g.n c && a.ok g && b.ok g
 | .block _ b => b.ok g
 | .loop b => b.ok g
def pendV (t : Env) (S : St) (o : HO) : Option Value := (aheap (ev t) S o).map (·.1)
def pendOk (t : Env) (S : St) (p : Pend) : Prop := if guardB p.guard t = true then pendV t S p.op = some (t p.dst) else t p.dst = undef
def pendsOk (t : Env) (S : St) : List Pend → Prop
 | [] => True
 | p :: ps => pendOk t S p ∧ pendsOk t S ps
def treeWp (P : Program) : ATree → Env → St → (Env → St → Prop) → Prop
 | .done, t, S, K => K t S
 | .op o r, t, S, K => opWp P o t S fun t S => treeWp P r t S K
 | .both l r, t, S, K => treeWp P l t S K ∧ treeWp P r t S K
 | .chk ps r, t, S, K => pendsOk t S ps ∧ treeWp P r t S K
/-- Operations in the text's order. -/
def lineTree (P : Program) (pm : PM) (ops : Array Oper) : List Oper → Option ATree
 | [] => some .done
 | o :: rest => (compO P pm ops o).bind fun ao => (lineTree P pm ops rest).map fun r => .op ao r
def bothAll : List ATree → ATree
 | [] => .done
 | [t] => t
 | t :: ts => .both t (bothAll ts)
/-- One that was told. -/
structure Ent where
 i : Nat
 mask : Nat
 o : AOper
 lz : Bool
def isRead : HO → Bool
 | .load _ _ _ => true
 | .b2s _ => true
 | _ => false
/-- What only computes or reads. -/
def isRdl (o : AOper) : Bool := o.dst.isSome && match o.op with
 | .p _ => true
 | .h (.load _ _ _) => true
 | .h (.b2s _) => true
 | .l (.addr _ _ _) => true
 | .l (.idx _ _ _ _ _) => true
 | .l (.load _ _ _ _) => true
 | _ => false
/-- What makes a local. -/
def isNewl (o : AOper) : Bool := match o.op with
 | .l (.new d _ _) => o.dst == some d && o.guard.isNone
 | .l (.box d _ _) => o.dst == some d && o.guard.isNone
 | _ => false
/-- What makes a block. -/
def isAll (o : AOper) : Bool := match o.op with
 | .h ho => isAlloc ho && o.dst.isSome && o.guard.isNone
 | _ => false
def isLazy (o : AOper) : Bool := isRdl o || (isNewl o || isAll o)
/-- The places that an early one looks at. -/
def looksX (o : AOper) : List Nat := match o.op with
 | .l (.new _ _ _) => []
 | .l (.box _ _ x) => opTmp x
 | _ => o.looks
def selfOk (o : AOper) : Bool := match o.dst with
 | some d => !(looksX o).contains d
 | none => false
/-- Does an operation leave what may be read in memory as it is? -/
def isQuiet (o : AOper) : Bool := match o.op with
 | .p _ => true
 | .h (.load _ _ _) => true
 | .h (.box _) => true
 | .h (.alloc _) => true
 | .h (.buildSlice _ _ _ _) => true
 | .h (.makeSlice _ _ _ _ _) => true
 | .h (.b2s _) => true
 | .l _ => true
 | _ => false
/-- The places that an operation changes. -/
def changes (o : AOper) : List Nat := o.dst.toList ++ (match o.op with | .l l => (l.tgt o.dst).toList ++ l.clr | _ => [])
def maskOf (es : List Ent) (i : Nat) : Nat := ((es.find? fun e => e.i == i).map (·.mask)).getD 0
/-- All that must be done ahead of an operation. -/
def depsOf (es : List Ent) (o : Oper) : Nat := o.after.toList.foldl (fun m e => if Region.binds .any e = true then m ||| (1 <<< e.on) ||| maskOf es e.on else m) 0
def lateOk (es : List Ent) (mask : Nat) (ao : AOper) (lz : Bool) : Bool :=
 es.all fun e => !e.lz ||
  (((!lz && mask.testBit e.i) || ((changes ao).all fun c => !e.o.looks.contains c && e.o.dst != some c)) &&
  (mask.testBit e.i || (match e.o.dst with | some d => !ao.looks.contains d | none => true)))
def pendsOf (es : List Ent) (mask : Nat) (ao : AOper) : List Pend :=
 if isQuiet ao = true then [] else es.filterMap fun e =>
  if e.lz = true ∧ mask.testBit e.i = false then (match e.o.op, e.o.dst with
   | .h o, some d => if isRead o = true then some ⟨d, o, e.o.guard⟩ else none
   | _, _ => none) else none
def chkIf : List Pend → ATree → ATree
 | [], r => r
 | ps, r => .chk ps r
/-- Operations in whatever order their edges allow: what only reads is told as early as may be. -/
def drawTree (P : Program) (g : Cfg) (ops : Array Oper) : Nat → Array Bool → List Ent → Option ATree
 | 0, X, _ => if (Region.ready .any ops X).isEmpty = true then some .done else none
 | fuel + 1, X, es =>
  if (Region.ready .any ops X).isEmpty = true then some .done else
  match (Region.ready .any ops X).find? (fun i => match ops[i]? with
    | some o => (match compO P g.pm ops o with | some ao => isLazy ao && selfOk ao && lateOk es (depsOf es o) ao true | none => false)
    | none => false) with
  | some i => match ops[i]? with
   | some o => (compO P g.pm ops o).bind fun ao => (drawTree P g ops fuel (X.setIfInBounds i true) (⟨i, depsOf es o, ao, true⟩ :: es)).map fun r => .op ao r
   | none => none
  | none => ((Region.ready .any ops X).mapM fun i => match ops[i]? with
   | some o => (compO P g.pm ops o).bind fun ao => if lateOk es (depsOf es o) ao false = true then
     (drawTree P g ops fuel (X.setIfInBounds i true) (⟨i, depsOf es o, ao, false⟩ :: es)).map fun r => ATree.op ao (chkIf (pendsOf es (depsOf es o) ao) r) else none
   | none => none).map bothAll
def pureAt (P : Program) (ops : Array Oper) (i : Nat) : Bool :=
 match ops[i]? with
 | some o => (compP P o.op).isSome
 | none => false
/-- The same, and what only computes comes first. -/
def drawOld (P : Program) (ops : Array Oper) : Nat → Array Bool → Option ATree
 | 0, listed => if (Region.ready .any ops listed).isEmpty = true then some .done else none
 | fuel + 1, listed =>
  if (Region.ready .any ops listed).isEmpty = true then some .done else
  match (Region.ready .any ops listed).find? (fun i => pureAt P ops i && Region.free .any ops listed i) with
  | some i => match ops[i]? with
   | some o => (compO P [] ops o).bind fun ao => (drawOld P ops fuel (listed.setIfInBounds i true)).map fun r => .op ao r
   | none => none
  | none => ((Region.ready .any ops listed).mapM fun i => match ops[i]? with
   | some o => (compO P [] ops o).bind fun ao => (drawOld P ops fuel (listed.setIfInBounds i true)).map fun r => ATree.op ao r
   | none => none).map bothAll
def regTree (P : Program) (g : Cfg) (ops : Array Oper) (draw : Bool) : Option ATree :=
 if draw = true then (if g.lz = true then drawTree P g ops (ops.size + 1) (Array.replicate ops.size false) []
  else if g.pm.isEmpty = true ∧ Region.noSelect ops = true then drawOld P ops ops.size (Array.replicate ops.size false) else none)
 else lineTree P g.pm ops ops.toList
def compC (P : Program) (g : Cfg) : Code → Option ACode
 | .skip => some .skip
 | .region _ ops draw => (regTree P g ops draw).map .reg
 | .seq a b => (compC P g a).bind fun x => (compC P g b).map fun y => .seq x y
 | .cond c a b => (compC P g a).bind fun x => (compC P g b).map fun y => .cond c x y
 | .block id b => (compC P g b).map fun x => .block id x
 | .loop b => (compC P g b).map fun x => .loop x
 | .exit id => some (.exit id)
 | .ret => some .ret
 | _ => none
section
variable {P : Program} {m : LMap} {w : World} {S : St} {g : Cfg} {G : Gd} {t : Env} {a : Act} {fr : Nat → Prop}
theorem treeWp_both {ts : List ATree} {K : Env → St → Prop} (h : treeWp P (bothAll ts) t S K) (hn : ts ≠ []) : ∀ x ∈ ts, treeWp P x t S K := by
 induction ts with
 | nil => exact absurd rfl hn
 | cons y ys ih =>
  cases ys with
  | nil => intro x hx; simp at hx; subst hx; exact h
  | cons z zs =>
   intro x hx
   simp only [List.mem_cons] at hx
   rcases hx with rfl | hx
   ·exact h.1
   ·exact ih h.2 (by simp) x (by simpa using hx)
theorem ok_both {ts : List ATree} (h : (bothAll ts).ok g = true) : ∀ x ∈ ts, x.ok g = true := by
 induction ts with
 | nil => intro x hx; simp at hx
 | cons y ys ih =>
  cases ys with
  | nil => intro x hx; simp at hx; subst hx; exact h
  | cons z zs =>
   have h' : y.ok g = true ∧ (bothAll (z :: zs)).ok g = true := by simpa [bothAll, ATree.ok] using h
   intro x hx
   simp only [List.mem_cons] at hx
   rcases hx with rfl | hx
   ·exact h'.1
   ·exact ih h'.2 x (by simpa using hx)
abbrev allFr : Nat → Prop := fun _ => True
/-- What is held at the joints of the code. -/
abbrev Held (G : Gd) (g : Cfg) (m : LMap) (t : Env) (S : St) (a : Act) (w : World) : Prop := BSt G g.pm g.n allFr m t S a w
/-- Leaving a region. -/
def Leaves (G : Gd) (g : Cfg) (K : Env → St → Prop) (Q' : Exit → Act → World → Prop) : Prop :=
 ∀ m t S a w, Held G g m t S a w → K t S → Q' .normal a w
theorem line_sound {ops : Array Oper} {Q' : Exit → Act → World → Prop} : ∀ (l : List Oper) (k : Nat) {tr : ATree}, (∀ j, l[j]? = ops[k + j]?) → lineTree P g.pm ops l = some tr → tr.ok g = true →
  ∀ {t : Env} {S : St} {a : Act} {w : World} {m : LMap} {K : Env → St → Prop}, Held G g m t S a w → treeWp P tr t S K → Leaves G g K Q' →
  wpOps P ops Q' (List.range' k l.length) a w := by
 intro l
 induction l with
 | nil =>
  intro k tr _ htr _ t S a w m K hB h hL
  simp [lineTree] at htr
  subst htr
  exact hL m t S a w hB h
 | cons o rest ih =>
  intro k tr hl htr hok t S a w m K hB h hL
  simp only [lineTree] at htr
  obtain ⟨ao, hao, htr⟩ := Option.bind_eq_some_iff.1 htr
  obtain ⟨r, hr, rfl⟩ := Option.map_eq_some_iff.1 htr
  have hok' : ao.ok g.pm g.n = true ∧ r.ok g = true := by simpa [ATree.ok] using hok
  have h0 : ops[k]? = some o := by simpa using (hl 0).symm
  rw [List.length_cons, List.range'_succ, wpOps_cons]
  refine op_sound h0 hao hok'.1 hB (fun _ _ => trivial) h fun m' t' S' a' w' hB' _ hk => ?_
  exact ih (k + 1) (fun j => by have := hl (j + 1); simpa [Nat.add_assoc, Nat.add_comm 1 j] using this) hr hok'.2 (hB'.weaken (fun _ _ => .inl trivial) fun _ _ _ => trivial) hk hL
/-! What is told early keeps its value. -/
def evalL (t : Env) (S : St) : BOp → Option Value
 | .p p => apure (ev t) p
 | .h h => pendV t S h
 | .l l => lval t l
 | _ => none
def LateV (t : Env) (S : St) (o : AOper) : Prop := ∃ d, o.dst = some d ∧ (if guardB o.guard t = true then evalL t S o.op = some (t d) else t d = undef)
theorem put_same (t : Env) (d : Nat) : t.put (some d) (t d) = t := by
 funext i
 simp only [Env.put]
 split
 ·rename_i h; rw [h]
 ·rfl
theorem isRdl_cases {o : AOper} (h : isRdl o = true) : ∃ d, o.dst = some d ∧ ((∃ p, o.op = .p p) ∨ (∃ ho, o.op = .h ho ∧ isRead ho = true) ∨ ∃ l, o.op = .l l ∧ l.clr = [] ∧ l.tgt o.dst = o.dst ∧ ((∃ s d o, l = .addr s d o) ∨ (∃ s d n e i, l = .idx s d n e i) ∨ ∃ s d z ag, l = .load s d z ag)) := by
 unfold isRdl at h
 simp only [Bool.and_eq_true] at h
 obtain ⟨d, hd⟩ := Option.isSome_iff_exists.1 h.1
 refine ⟨d, hd, ?_⟩
 have h2 := h.2
 split at h2
 ·rename_i p hp; exact .inl ⟨p, hp⟩
 ·rename_i sz ag x hp; exact .inr (.inl ⟨_, hp, rfl⟩)
 ·rename_i x hp; exact .inr (.inl ⟨_, hp, rfl⟩)
 ·rename_i a b c hp; exact .inr (.inr ⟨_, hp, rfl, rfl, .inl ⟨_, _, _, rfl⟩⟩)
 ·rename_i a b c d e hp; exact .inr (.inr ⟨_, hp, rfl, rfl, .inr (.inl ⟨_, _, _, _, _, rfl⟩)⟩)
 ·rename_i a b c d hp; exact .inr (.inr ⟨_, hp, rfl, rfl, .inr (.inr ⟨_, _, _, _, rfl⟩)⟩)
 ·cases h2
theorem read_same {ρ : Operand → Value} {ho : HO} (hr : isRead ho = true) {v : Value} {S' : St} (h : aheap ρ S ho = some (v, S')) : S' = S := by
 cases ho <;> simp only [isRead, Bool.false_eq_true] at hr
 case load sz ag x =>
  simp only [aheap] at h
  split at h
  case h_2 => cases h
  obtain ⟨y, hy, h⟩ := Option.map_eq_some_iff.1 h
  cases h
  rfl
 case b2s x =>
  simp only [aheap, b2sV] at h
  split at h
  ·cases h; rfl
  ·split at h
   ·obtain ⟨y, hy, h⟩ := Option.map_eq_some_iff.1 h
    cases h
    rfl
   ·cases h
  ·cases h
theorem pendV_some {ho : HO} {v : Value} (hr : isRead ho = true) (h : pendV t S ho = some v) : aheap (ev t) S ho = some (v, S) := by
 unfold pendV at h
 obtain ⟨⟨v', S'⟩, hp, rfl⟩ := Option.map_eq_some_iff.1 h
 rw [hp, read_same hr hp]
theorem pendV_eq {ho : HO} {v : Value} {S' : St} (h : aheap (ev t) S ho = some (v, S')) : pendV t S ho = some v := by unfold pendV; rw [h]; rfl
theorem cells_keep {S' : St} (hb : ∀ id b, S.blk id = some b → S'.blk id = some b) {id o k : Nat} {cs : List Value} (h : cellsOf S id o k = some cs) : cellsOf S' id o k = some cs := by
 unfold cellsOf at h ⊢
 cases hq : S.blk id with
 | none => simp [hq] at h
 | some b => rw [hb id b hq]; rw [hq] at h; exact h
theorem rd_keep {S' : St} (hb : ∀ id b, S.blk id = some b → S'.blk id = some b) {id o : Nat} {v : Value} (h : rd S id o = some v) : rd S' id o = some v := by
 unfold rd at h ⊢
 cases hq : S.blk id with
 | none => simp [hq] at h
 | some b => rw [hb id b hq]; rw [hq] at h; exact h
theorem read_keep {t' : Env} {S' : St} {ho : HO} (hr : isRead ho = true) (hx : ∀ x ∈ ho.operands, ev t' x = ev t x) (hb : ∀ id b, S.blk id = some b → S'.blk id = some b) {v : Value} (h : pendV t S ho = some v) : pendV t' S' ho = some v := by
 replace h := pendV_some hr h
 cases ho <;> simp only [isRead, Bool.false_eq_true] at hr
 case load sz ag x =>
  refine pendV_eq (S' := S') ?_
  simp only [aheap, hx x (by simp [HO.operands])] at h ⊢
  split at h
  case h_2 => cases h
  rename_i id o hq
  obtain ⟨y, hy, h⟩ := Option.map_eq_some_iff.1 h
  cases h
  have : ldv S' ag id o sz = some v := by
   cases ag with
   | true =>
    simp only [ldv] at hy ⊢
    obtain ⟨cs, hcs, rfl⟩ := Option.map_eq_some_iff.1 hy
    rw [cells_keep hb hcs]
    rfl
   | false => exact rd_keep hb hy
  rw [this]
  rfl
 case b2s x =>
  refine pendV_eq (S' := S') ?_
  simp only [aheap, b2sV, hx x (by simp [HO.operands])] at h ⊢
  split at h
  ·rename_i hq; cases h; simp only [hq]
  ·rename_i hq
   split at h
   ·rename_i cs hcs
    obtain ⟨y, hy, h⟩ := Option.map_eq_some_iff.1 h
    cases h
    simp only [hq, cells_keep hb hcs, hy]
    rfl
   ·cases h
  ·cases h
/-- An early one: its value. -/
theorem opWp_lazy {o : AOper} {K : Env → St → Prop} (hz : isRdl o = true) (h : opWp P o t S K) : ∃ v, K (t.put o.dst v) S ∧ (if guardB o.guard t = true then evalL t S o.op = some v else v = undef) := by
 unfold opWp at h
 obtain ⟨d, hd, hc⟩ := isRdl_cases hz
 cases hg : guardB o.guard t with
 | false =>
  rw [hg] at h
  simp only [Bool.false_eq_true, if_false] at h ⊢
  exact ⟨undef, h, rfl⟩
 | true =>
  rw [hg] at h
  simp only [if_true] at h ⊢
  rcases hc with ⟨p, hp⟩ | ⟨ho, hp, hrd⟩ | ⟨l, hp, hcl, htg, hl⟩
  ·rw [hp] at h ⊢
   simp only [bodyWp, optV] at h
   split at h
   case h_2 => exact h.elim
   rename_i v hv
   exact ⟨v, h, hv⟩
  ·rw [hp] at h ⊢
   simp only [bodyWp, optWp] at h
   split at h
   case h_2 => exact h.elim
   rename_i v S' hv
   have hS : S' = S ∧ evalL t S (.h ho) = some v := ⟨read_same hrd hv, pendV_eq hv⟩
   obtain ⟨rfl, he⟩ := hS
   exact ⟨v, h, he⟩
  ·rw [hp] at h ⊢
   simp only [optV] at h
   split at h
   case h_2 => exact h.elim
   rename_i v hv
   rw [hcl, htg, Env.clr_nil] at h
   exact ⟨v, h, hv⟩
/-- A late one: it changes nothing. -/
theorem opWp_late {o : AOper} (hz : isRdl o = true) (h : LateV t S o) : opWp P o t S fun t' S' => t' = t ∧ S' = S := by
 obtain ⟨d, hd, hc⟩ := isRdl_cases hz
 obtain ⟨d', hd', h⟩ := h
 rw [hd] at hd'
 cases hd'
 unfold opWp
 cases hg : guardB o.guard t with
 | false =>
  rw [hg] at h
  simp only [Bool.false_eq_true, if_false] at h ⊢
  rw [hd, ← h]
  exact ⟨put_same t d, trivial⟩
 | true =>
  rw [hg] at h
  simp only [if_true] at h ⊢
  rcases hc with ⟨p, hp⟩ | ⟨ho, hp, hrd⟩ | ⟨l, hp, hcl, htg, hl⟩
  ·rw [hp] at h ⊢
   simp only [evalL] at h
   simp only [bodyWp, optV, h, hd]
   exact ⟨put_same t d, trivial⟩
  ·rw [hp] at h ⊢
   simp only [evalL] at h
   simp only [bodyWp, optWp, pendV_some hrd h, hd]
   exact ⟨put_same t d, trivial⟩
  ·rw [hp] at h ⊢
   simp only [evalL] at h
   rw [hd] at htg
   simp only [optV, h, hcl, hd, htg, Env.clr_nil]
   exact ⟨put_same t d, trivial⟩
/-- What an operation changes. -/
theorem opWp_changes {o : AOper} {K : Env → St → Prop} (h : opWp P o t S K) :
  opWp P o t S fun t' S' => K t' S' ∧ (∀ x, x ∉ changes o → t' x = t x) ∧ (isQuiet o = true → ∀ id b, id < S.next → S.blk id = some b → S'.blk id = some b) := by
 have hput : ∀ v x, x ∉ changes o → (t.put o.dst v) x = t x := by
  intro v x hx
  cases hd : o.dst with
  | none => rfl
  | some d =>
   simp only [Env.put]
   rw [if_neg]
   intro e
   apply hx
   simp [changes, hd, e]
 unfold opWp at h ⊢
 split
 ·rename_i hg
  rw [hg] at h
  simp only [if_true] at h
  cases hop : o.op with
  | p p =>
   rw [hop] at h
   simp only [bodyWp, optV] at h ⊢
   split at h
   ·rename_i v hv
    exact ⟨h, hput v, fun _ _ _ _ hb => hb⟩
   ·exact h.elim
  | h ho =>
   rw [hop] at h
   simp only [bodyWp, optWp] at h ⊢
   split at h
   case h_2 => exact h.elim
   rename_i v S' hv
   refine ⟨h, hput v, fun hq id b hid hb => ?_⟩
   unfold isQuiet at hq
   rw [hop] at hq
   have hnew : ∀ c, (S.new c).blk id = some b := fun c => by simp only [St.new]; rw [if_neg (by omega)]; exact hb
   cases ho <;> simp only [aheap] at hv <;> simp only [Bool.false_eq_true] at hq
   case load => split at hv <;> first | (obtain ⟨_, _, hv⟩ := Option.map_eq_some_iff.1 hv; cases hv; exact hb) | cases hv
   case box => split at hv <;> first | (cases hv; exact hnew _) | cases hv
   case alloc => cases hv; exact hnew _
   case buildSlice => obtain ⟨_, _, hv⟩ := Option.map_eq_some_iff.1 hv; cases hv; exact hnew _
   case makeSlice =>
    split at hv
    case h_2 => cases hv
    split at hv
    ·cases hv; exact hnew _
    ·cases hv
   case b2s =>
    unfold b2sV at hv
    split at hv
    ·cases hv; exact hb
    ·split at hv
     ·obtain ⟨_, _, hv⟩ := Option.map_eq_some_iff.1 hv; cases hv; exact hb
     ·cases hv
    ·cases hv
  | call f args =>
   rw [hop] at h
   simp only [bodyWp] at h ⊢
   exact h.mono fun v S' _ hk => ⟨hk, hput v, fun hq => by simp [isQuiet, hop] at hq⟩
  | callv x args =>
   rw [hop] at h
   simp only [bodyWp] at h ⊢
   split at h
   ·exact ⟨h.1, h.2.mono fun v S' _ hk => ⟨hk, hput v, fun hq => by simp [isQuiet, hop] at hq⟩⟩
   ·exact h.elim
  | l l =>
   rw [hop] at h
   simp only [optV] at h ⊢
   split at h
   case h_2 => exact h.elim
   rename_i v hv
   refine ⟨h, fun x hx => ?_, fun _ _ _ _ hb => hb⟩
   have h1 : l.tgt o.dst ≠ some x := fun e => hx (by simp [changes, hop, e])
   have h2 : l.clr.contains x = false := by
    cases hc : l.clr.contains x with
    | false => rfl
    | true => exact absurd (show x ∈ changes o by simp [changes, hop]; exact .inr (.inr (by simpa using hc))) hx
   cases hd : l.tgt o.dst with
   | none => simp only [Env.put, Env.clr, h2, Bool.false_eq_true, if_false]
   | some d =>
    simp only [Env.put]
    rw [if_neg (fun e => h1 (by rw [hd, e])), Env.clr, h2]
    simp
  | inv x name args =>
   rw [hop] at h
   simp only [bodyWp] at h ⊢
   split at h
   ·split at h
    ·exact ⟨h.1, h.2.mono fun v S' _ hk => ⟨hk, hput v, fun hq => by simp [isQuiet, hop] at hq⟩⟩
    ·exact h.elim
   ·exact h.elim
  | bad => rw [hop] at h; exact h.elim
 ·rename_i hg
  rw [if_neg hg] at h
  exact ⟨h, hput undef, fun _ _ _ _ hb => hb⟩
theorem ev_agree {t t' : Env} {x : Operand} (h : ∀ i ∈ opTmp x, t' i = t i) : ev t' x = ev t x := by
 cases x with
 | tmp i => exact h i (by simp [opTmp])
 | _ => rfl
theorem apure_agree {p : PO} {ρ ρ' : Operand → Value} (h : ∀ x ∈ p.operands, ρ' x = ρ x) : apure ρ' p = apure ρ p := by
 cases p <;> simp only [PO.operands, List.mem_cons, List.not_mem_nil, or_false, forall_eq_or_imp, forall_eq, List.mem_append, Option.mem_toList] at h <;> simp only [apure]
 case build z ps =>
  have : (ps.map fun p => (p.1, p.2.1, ρ' p.2.2)) = ps.map fun p => (p.1, p.2.1, ρ p.2.2) := List.map_congr_left fun p hp => by rw [h p.2.2 (List.mem_map.2 ⟨p, hp, rfl⟩)]
  rw [this]
 case sliceS e x lo hi =>
  have h0 : ρ' x = ρ x := h x (.inl (.inl rfl))
  have h1 : ∀ d, bnd ρ' d lo = bnd ρ d lo := fun d => by
   cases lo with
   | none => rfl
   | some y => simp only [bnd]; rw [h y (.inl (.inr rfl))]
  have h2 : ∀ d, bnd ρ' d hi = bnd ρ d hi := fun d => by
   cases hi with
   | none => rfl
   | some y => simp only [bnd]; rw [h y (.inr rfl)]
  simp only [h0, h1, h2]
 case mkFunc f first cap =>
  have h1 : cap.map ρ' = cap.map ρ := List.map_congr_left fun x hx => h x (.inr hx)
  have h2 : first.map ρ' = first.map ρ := List.map_congr_left fun x hx => h x (.inl hx)
  rw [h1, h2]
 all_goals simp only [h]
theorem lval_agree {l : LO} {t t' : Env} (h1 : ∀ x ∈ l.operands, ev t' x = ev t x) (h2 : ∀ x ∈ l.src, t' x = t x) : lval t' l = lval t l := by
 have off : ∀ s d, t' s = t s → offOf t' s d = offOf t s d := fun s d h => by unfold offOf; rw [h]
 cases l <;> simp only [LO.operands, LO.src, List.mem_cons, List.not_mem_nil, or_false, forall_eq_or_imp, forall_eq] at h1 h2 <;> simp only [lval]
 case new => rw [h2]
 case box => rw [h2, h1]
 case addr => rw [h2.2, off _ _ h2.1]
 case idx => rw [h2.2, off _ _ h2.1, h1]
 case load => rw [h2.2, off _ _ h2.1]
 case store => rw [h2.2, off _ _ h2.1, h1]
theorem looks_op {o : AOper} {t t' : Env} (h : ∀ x ∈ o.looks, t' x = t x) : (∀ x ∈ o.op.operands, ev t' x = ev t x) ∧ guardB o.guard t' = guardB o.guard t ∧ ∀ l, o.op = .l l → ∀ x ∈ l.src, t' x = t x := by
 refine ⟨fun x hx => ev_agree fun i hi => h i ?_, ?_, fun l hl x hx => h x ?_⟩
 ·unfold AOper.looks
  simp only [List.mem_append]
  exact .inl (.inl (List.mem_flatMap.2 ⟨x, hx, hi⟩))
 ·cases hg : o.guard with
  | none => rfl
  | some gw =>
   obtain ⟨d, want⟩ := gw
   simp only [guardB]
   rw [h d (by unfold AOper.looks; rw [hg]; simp)]
 ·unfold AOper.looks
  rw [hl]
  simp [hx]
/-- A late one stays so, where nothing that it looks at changes. -/
theorem LateV.keep {o : AOper} {t' : Env} {S' : St} (hz : isRdl o = true) (h : LateV t S o) (h1 : ∀ x ∈ o.looks, t' x = t x) (h2 : ∀ d, o.dst = some d → t' d = t d)
  (h3 : ∀ ho v, o.op = .h ho → isRead ho = true → pendV t S ho = some v → guardB o.guard t = true → pendV t' S' ho = some v) : LateV t' S' o := by
 obtain ⟨d, hd, h⟩ := h
 obtain ⟨g1, g2, g3⟩ := looks_op h1
 refine ⟨d, hd, ?_⟩
 rw [g2, h2 d hd]
 split
 ·rename_i hg
  rw [if_pos hg] at h
  obtain ⟨_, _, hc⟩ := isRdl_cases hz
  rcases hc with ⟨p, hp⟩ | ⟨ho, hp, hrd⟩ | ⟨l, hp, _⟩
  ·rw [hp] at h g1 ⊢
   simp only [evalL] at h ⊢
   rw [apure_agree g1]
   exact h
  ·rw [hp] at h ⊢
   exact h3 ho _ hp hrd h hg
  ·rw [hp] at h g1 ⊢
   simp only [evalL] at h ⊢
   rw [lval_agree g1 (g3 l hp)]
   exact h
 ·rename_i hg
  rw [if_neg hg] at h
  exact h
/-- A local that was told. -/
def NewV (t : Env) (o : AOper) : Prop := ∃ d, o.dst = some d ∧ match o.op with
 | .l (.new d' _ z) => d' = d ∧ t d = .agg z.toArray
 | .l (.box d' _ x) => d' = d ∧ storable (ev t x) = true ∧ t d = .agg (ev t x).cells.toList.toArray
 | _ => False
def blkOf : Value → Option Nat
 | .slice (some a) _ _ => some a.block
 | .pointer (some a) => some a.block
 | _ => none
/-- A block that was told. -/
def AllV (lo : Nat) (m : LMap) (t : Env) (S : St) (o : AOper) : Prop := ∃ ho d id b, o.op = .h ho ∧ isAlloc ho = true ∧ o.dst = some d ∧ aheap (ev t) ⟨fun _ => none, id⟩ ho = some (t d, (⟨fun _ => none, id⟩ : St).new b) ∧
 S.blk id = some b ∧ m id = none ∧ id < S.next ∧ lo ≤ id ∧ blkOf (t d) = some id
def Late (lo : Nat) (m : LMap) (t : Env) (S : St) (o : AOper) : Prop :=
 (isRdl o = true ∧ LateV t S o) ∨ (isNewl o = true ∧ NewV t o) ∨ (isAll o = true ∧ AllV lo m t S o)
/-- The block that one made. -/
def gid (t : Env) (o : AOper) : Option Nat := match o.op, o.dst with
 | .h ho, some d => if isAlloc ho = true then blkOf (t d) else none
 | _, _ => none
theorem aheap_agree {ho : HO} {ρ ρ' : Operand → Value} (ha : isAlloc ho = true) (h : ∀ x ∈ ho.operands, ρ' x = ρ x) (S : St) : aheap ρ' S ho = aheap ρ S ho := by
 cases ho <;> simp only [isAlloc, Bool.false_eq_true] at ha <;> simp only [HO.operands, List.mem_cons, List.not_mem_nil, or_false, forall_eq_or_imp, forall_eq] at h <;> simp only [aheap]
 case box => rw [h]
 case buildSlice e l z ps =>
  have : (ps.map fun p => (p.1, p.2.1, ρ' p.2.2)) = ps.map fun p => (p.1, p.2.1, ρ p.2.2) := List.map_congr_left fun p hp => by rw [h p.2.2 (List.mem_map.2 ⟨p, hp, rfl⟩)]
  rw [this]
 case makeSlice => rw [h.1, h.2]
theorem aheap_alloc {ho : HO} {ρ : Operand → Value} (ha : isAlloc ho = true) {S S' : St} {v : Value} (h : aheap ρ S ho = some (v, S')) :
  ∃ b, S' = S.new b ∧ blkOf v = some S.next ∧ aheap ρ ⟨fun _ => none, S.next⟩ ho = some (v, (⟨fun _ => none, S.next⟩ : St).new b) := by
 cases ho <;> simp only [isAlloc, Bool.false_eq_true] at ha <;> simp only [aheap] at h ⊢
 case box =>
  split at h
  ·rename_i hst
   cases h
   exact ⟨_, rfl, rfl, by rw [if_pos hst]⟩
  ·cases h
 case alloc => cases h; exact ⟨_, rfl, rfl, rfl⟩
 case buildSlice =>
  obtain ⟨cs, hcs, h⟩ := Option.map_eq_some_iff.1 h
  cases h
  exact ⟨_, rfl, rfl, by rw [hcs]; rfl⟩
 case makeSlice =>
  split at h
  case h_2 => cases h
  rename_i h1 h2
  split at h
  case isFalse => cases h
  rename_i hc
  cases h
  exact ⟨_, rfl, rfl, by simp only [h1, h2, if_pos hc]⟩
theorem looksX_sub {o : AOper} {x : Nat} (h : x ∈ looksX o) : x ∈ o.looks := by
 unfold looksX at h
 split at h
 ·simp at h
 ·rename_i d rs y hop
  unfold AOper.looks
  rw [hop]
  simp only [List.mem_append]
  exact .inl (.inl (List.mem_flatMap.2 ⟨y, by simp [BOp.operands, LO.operands], h⟩))
 ·exact h
theorem Late.keep {lo : Nat} {m m' : LMap} {o : AOper} {t' : Env} {S' : St} (h : Late lo m t S o) (h1 : ∀ x ∈ o.looks, t' x = t x) (h2 : ∀ d, o.dst = some d → t' d = t d) (hn : S.next ≤ S'.next) (hg : ∀ id, gid t o = some id → id < S.next → m id = none → m' id = none ∧ S'.blk id = S.blk id)
  (h3 : ∀ ho v, o.op = .h ho → isRead ho = true → pendV t S ho = some v → guardB o.guard t = true → pendV t' S' ho = some v) : Late lo m' t' S' o := by
 obtain ⟨g1, _, _⟩ := looks_op h1
 rcases h with ⟨hz, h⟩ | ⟨hz, d, hd, h⟩ | ⟨hz, ho, d, id, b, hop, ha, hd, hv, hb, hm, hi, hlo, hbk⟩
 ·exact .inl ⟨hz, h.keep hz h1 h2 h3⟩
 ·refine .inr (.inl ⟨hz, d, hd, ?_⟩)
  cases hop : o.op <;> rw [hop] at h g1 <;> first | exact h.elim | skip
  rename_i l
  cases l <;> first | exact h.elim | skip
  ·exact ⟨h.1, by rw [h2 d hd]; exact h.2⟩
  ·rename_i d' rs x
   have : ev t' x = ev t x := g1 x (by simp [BOp.operands, LO.operands])
   simp only [this]
   exact ⟨h.1, h.2.1, by rw [h2 d hd]; exact h.2.2⟩
 ·obtain ⟨k1, k2⟩ := hg id (by unfold gid; rw [hop, hd]; simp only [ha, if_true]; exact hbk) hi hm
  refine .inr (.inr ⟨hz, ho, d, id, b, hop, ha, hd, ?_, k2.trans hb, k1, Nat.lt_of_lt_of_le hi hn, hlo, by rw [h2 d hd]; exact hbk⟩)
  rw [aheap_agree ha (fun x hx => g1 x (by rw [hop]; exact hx)), h2 d hd]
  exact hv
theorem gid_keep {o : AOper} {t' : Env} (h2 : ∀ d, o.dst = some d → t' d = t d) : gid t' o = gid t o := by
 unfold gid
 split
 ·rename_i ho d hop hd
  rw [h2 d hd]
 ·rfl
/-! ### regions in whatever order -/
def EsOk (P : Program) (g : Cfg) (ops : Array Oper) : List Ent → Prop
 | [] => True
 | e :: es => (∃ o, ops[e.i]? = some o ∧ compO P g.pm ops o = some e.o ∧ e.mask = depsOf es o ∧ ∀ ed ∈ o.after, Region.binds .any ed = true → ∃ e' ∈ es, e'.i = ed.on) ∧ e.o.ok g.pm g.n = true ∧ (∀ e' ∈ es, e'.i ≠ e.i) ∧
   lateOk es e.mask e.o e.lz = true ∧ (e.lz = true → isLazy e.o = true ∧ ∀ d, e.o.dst = some d → d ∉ looksX e.o) ∧ EsOk P g ops es
def frOf (listed : Array Bool) (es : List Ent) : Nat → Prop := fun i => ∀ e ∈ es, listed.getD e.i false = false → e.o.dst ≠ some i
structure Sim (P : Program) (g : Cfg) (ops : Array Oper) (lo : Nat) (listed X : Array Bool) (es : List Ent) (m : LMap) (t : Env) (S : St) : Prop where
 szl : listed.size = ops.size
 szx : X.size = ops.size
 sub : ∀ i, listed.getD i false = true → X.getD i false = true
 mem : ∀ i, X.getD i false = true ↔ ∃ e ∈ es, e.i = i
 ents : EsOk P g ops es
 late : ∀ e ∈ es, listed.getD e.i false = false → e.lz = true ∧ Late lo m t S e.o
 gone : ∀ e ∈ es, ∀ e' ∈ es, listed.getD e.i false = false → listed.getD e'.i false = false → ∀ id, gid t e.o = some id → gid t e'.o = some id → e.i = e'.i
 closed : ∀ e ∈ es, listed.getD e.i false = true → ∀ j, e.mask.testBit j = true → listed.getD j false = true
section
variable {ops : Array Oper} {lo : Nat} {listed X : Array Bool} {es : List Ent}
theorem foldl_deps {es : List Ent} (C : Nat → Prop) : ∀ (l : List Edge) (m0 : Nat), (∀ j, m0.testBit j = true → C j) → (∀ ed ∈ l, Region.binds .any ed = true → C ed.on ∧ ∀ j, (maskOf es ed.on).testBit j = true → C j) →
  ∀ j, (l.foldl (fun m e => if Region.binds .any e = true then m ||| (1 <<< e.on) ||| maskOf es e.on else m) m0).testBit j = true → C j := by
 intro l
 induction l with
 | nil => intro m0 h0 _ j hj; exact h0 j hj
 | cons ed l ih =>
  intro m0 h0 h j hj
  rw [List.foldl_cons] at hj
  refine ih _ ?_ (fun e' he' => h e' (by simp [he'])) j hj
  intro k hk
  split at hk
  ·rename_i hb
   obtain ⟨h1, h2⟩ := h ed (by simp) hb
   rw [Nat.testBit_or, Nat.testBit_or] at hk
   simp only [Bool.or_eq_true] at hk
   rcases hk with (hk | hk) | hk
   ·exact h0 k hk
   ·rw [Nat.one_shiftLeft, Nat.testBit_two_pow] at hk
    have : ed.on = k := by simpa using hk
    exact this ▸ h1
   ·exact h2 k hk
  ·exact h0 k hk
theorem find_ent {es : List Ent} {i : Nat} (h : ∃ e ∈ es, e.i = i) : ∃ e ∈ es, e.i = i ∧ maskOf es i = e.mask := by
 unfold maskOf
 cases hf : es.find? fun e => e.i == i with
 | none =>
  obtain ⟨e, he, hi⟩ := h
  have := List.find?_eq_none.1 hf e he
  simp [hi] at this
 | some e =>
  have h1 := List.find?_some hf
  have h2 := List.mem_of_find?_eq_some hf
  exact ⟨e, h2, by simpa using h1, rfl⟩
theorem getD_false_of {listed : Array Bool} {i : Nat} (h : listed.getD i true = false) : listed.getD i false = false := by
 rcases Nat.lt_or_ge i listed.size with h' | h'
 ·simp [h'] at h ⊢; exact h
 ·simp [Array.getElem?_eq_none h']
/-- All that stands ahead of one that is ready is listed. -/
theorem deps_listed {es' : List Ent} (hsub : ∀ e ∈ es', e ∈ es) (hcl : ∀ e ∈ es, listed.getD e.i false = true → ∀ j, e.mask.testBit j = true → listed.getD j false = true) {o : Oper}
  (hed : ∀ ed ∈ o.after, Region.binds .any ed = true → listed.getD ed.on false = true ∧ ∃ e' ∈ es', e'.i = ed.on) : ∀ j, (depsOf es' o).testBit j = true → listed.getD j false = true := by
 unfold depsOf
 refine foldl_deps (fun j => listed.getD j false = true) _ 0 (fun j hj => by simp at hj) fun ed he hb => ?_
 obtain ⟨h1, h2⟩ := hed ed (by simpa using he) hb
 obtain ⟨e, he1, he2, he3⟩ := find_ent h2
 refine ⟨h1, fun j hj => ?_⟩
 rw [he3] at hj
 exact hcl e (hsub e he1) (by rw [he2]; exact h1) j hj
theorem EsOk.split {l1 : List Ent} {e : Ent} {l2 : List Ent} (h : EsOk P g ops (l1 ++ e :: l2)) : EsOk P g ops (e :: l2) := by
 induction l1 with
 | nil => exact h
 | cons x l1 ih => exact ih h.2.2.2.2.2
theorem EsOk.uniq {es : List Ent} (h : EsOk P g ops es) : ∀ e ∈ es, ∀ e' ∈ es, e.i = e'.i → e = e' := by
 induction es with
 | nil => intro e he; simp at he
 | cons x es ih =>
  intro e he e' he' hi
  simp only [List.mem_cons] at he he'
  rcases he with rfl | he
  ·rcases he' with rfl | he'
   ·rfl
   ·exact absurd hi.symm (h.2.2.1 e' he')
  ·rcases he' with rfl | he'
   ·exact absurd hi (h.2.2.1 e he)
   ·exact ih h.2.2.2.2.2 e he e' he' hi
theorem lateOk_mem {es : List Ent} {mask : Nat} {ao : AOper} {lz : Bool} (h : lateOk es mask ao lz = true) {e : Ent} (he : e ∈ es) (hz : e.lz = true) :
  ((lz = false ∧ mask.testBit e.i = true) ∨ ∀ c ∈ changes ao, c ∉ e.o.looks ∧ e.o.dst ≠ some c) ∧ (mask.testBit e.i = true ∨ ∀ d, e.o.dst = some d → d ∉ ao.looks) := by
 unfold lateOk at h
 have := List.all_eq_true.1 h e he
 simp only [hz, Bool.not_true, Bool.false_or, Bool.and_eq_true, Bool.or_eq_true, List.all_eq_true] at this
 refine ⟨this.1.imp (fun q => by simpa using q) (fun q c hc => by simpa using q c hc), this.2.imp id fun q d hd => ?_⟩
 rw [hd] at q
 simpa using q
theorem dst_changes {o : AOper} {d : Nat} (h : o.dst = some d) : d ∈ changes o := by simp [changes, h]
/-- Who is late looks at nothing that is late. -/
theorem Sim.looks (h : Sim P g ops lo listed X es m t S) {e : Ent} (he : e ∈ es) (hr : e.i ∈ Region.ready .any ops listed) : (∀ x ∈ looksX e.o, frOf listed es x) ∧ ∀ j, e.mask.testBit j = true → listed.getD j false = true := by
 obtain ⟨h0, o, ho, hall⟩ := mem_ready.1 hr
 have h0' := getD_false_of h0
 obtain ⟨hez, hel⟩ := h.late e he h0'
 obtain ⟨l1, l2, hl⟩ := List.append_of_mem he
 have hents := h.ents
 rw [hl] at hents
 obtain ⟨⟨o', ho', hco, hmask, hdeps⟩, hok, huniq, hlok, hlz, htail⟩ := hents.split
 rw [ho] at ho'
 cases ho'
 have hsub : ∀ e' ∈ l2, e' ∈ es := fun e' he' => by rw [hl]; simp [he']
 have hm : ∀ j, e.mask.testBit j = true → listed.getD j false = true := by
  rw [hmask]
  exact deps_listed hsub h.closed fun ed hed hb => ⟨hall ed hed hb, hdeps ed hed hb⟩
 refine ⟨fun x hx e' he' hl' hd => ?_, hm⟩
 have hz' := (h.late e' he' hl').1
 rw [hl] at he'
 simp only [List.mem_append, List.mem_cons] at he'
 rcases he' with he' | rfl | he'
 ·
  obtain ⟨k1, k2, hk⟩ := List.append_of_mem he'
  have hents2 := h.ents
  rw [hl, hk, List.append_assoc, List.cons_append] at hents2
  obtain ⟨_, _, _, hlok', _, _⟩ := hents2.split
  rcases (lateOk_mem hlok' (e := e) (by simp) hez).1 with q | q
  ·rw [hz'] at q; simp at q
  ·exact (q x (dst_changes hd)).1 (looksX_sub hx)
 ·exact (hlz hez).2 x hd hx
 ·rcases (lateOk_mem hlok he' hz').2 with q | q
  ·rw [hm _ q] at hl'; cases hl'
  ·exact q x hd (looksX_sub hx)
theorem getD_set_self {listed : Array Bool} {i : Nat} (h : i < listed.size) : (listed.setIfInBounds i true).getD i false = true := by simp [h]
/-- Two that are late have two places. -/
theorem Sim.dst_inj (h : Sim P g ops lo listed X es m t S) {e e' : Ent} (he : e ∈ es) (he' : e' ∈ es) (hl : listed.getD e.i false = false) (hl' : listed.getD e'.i false = false) {d : Nat} (hd : e.o.dst = some d) (hd' : e'.o.dst = some d) : e.i = e'.i := by
 have hz := (h.late e he hl).1
 have hz' := (h.late e' he' hl').1
 obtain ⟨l1, l2, hsp⟩ := List.append_of_mem he
 have key : ∀ {e e' : Ent} {l1 l2 : List Ent}, es = l1 ++ e :: l2 → e.lz = true → e'.lz = true → e.o.dst = some d → e'.o.dst = some d → e' ∈ l2 → False := by
  intro e e' l1 l2 hsp hz hz' hd hd' hm
  have hents := h.ents
  rw [hsp] at hents
  obtain ⟨_, _, _, hlok, _, _⟩ := hents.split
  rcases (lateOk_mem hlok hm hz').1 with q | q
  ·rw [hz] at q; simp at q
  ·exact (q d (dst_changes hd)).2 hd'
 have he'' := he'
 rw [hsp] at he''
 simp only [List.mem_append, List.mem_cons] at he''
 rcases he'' with hm | rfl | hm
 ·obtain ⟨k1, k2, hk⟩ := List.append_of_mem hm
  exact (key (l1 := k1) (l2 := k2 ++ e :: l2) (by rw [hsp, hk]; simp) hz' hz hd' hd (by simp)).elim
 ·rfl
 ·exact (key hsp hz hz' hd hd' hm).elim
/-- One more is listed that was told. -/
theorem Sim.list (h : Sim P g ops lo listed X es m t S) {e : Ent} (he : e ∈ es) (hr : e.i ∈ Region.ready .any ops listed) {m' : LMap} (hlm : ∀ e' ∈ es, listed.getD e'.i false = false → e.i ≠ e'.i → Late lo m' t S e'.o) :
  Sim P g ops lo (listed.setIfInBounds e.i true) X es m' t S := by
 obtain ⟨_, hm⟩ := h.looks he hr
 have hself : (listed.setIfInBounds e.i true).getD e.i false = true := getD_set_self (by have := (mem_ready.1 hr).2; obtain ⟨o, ho, _⟩ := this; rw [h.szl]; exact (Array.getElem?_eq_some_iff.1 ho).1)
 have hof : ∀ e' ∈ es, (listed.setIfInBounds e.i true).getD e'.i false = false → e.i ≠ e'.i ∧ listed.getD e'.i false = false := fun e' he' hl => by
  by_cases hie : e.i = e'.i
  ·rw [← hie, hself] at hl
   cases hl
  ·rw [getD_set_ne false hie] at hl; exact ⟨hie, hl⟩
 refine ⟨by simp [h.szl], h.szx, fun i hi => ?_, h.mem, h.ents, fun e' he' hl => ?_, fun e1 h1 e2 h2 l1 l2 id g1 g2 => ?_, fun e' he' hl j hj => ?_⟩
 ·by_cases hie : e.i = i
  ·exact hie ▸ (h.mem e.i).2 ⟨e, he, rfl⟩
  ·rw [getD_set_ne false hie] at hi; exact h.sub i hi
 ·obtain ⟨hie, hl⟩ := hof e' he' hl
  exact ⟨(h.late e' he' hl).1, hlm e' he' hl hie⟩
 ·exact h.gone e1 h1 e2 h2 (hof e1 h1 l1).2 (hof e2 h2 l2).2 id g1 g2
 ·by_cases hie : e.i = e'.i
  ·have := h.ents.uniq e he e' he' hie
   subst this
   exact getD_set_true (hm j hj)
  ·rw [getD_set_ne false hie] at hl
   exact getD_set_true (h.closed e' he' hl j hj)
/-- Where none is ready, none is late. -/
theorem Sim.settled (h : Sim P g ops lo listed X es m t S) (hr : Region.ready .any ops listed = []) : ∀ e ∈ es, listed.getD e.i false = true := by
 have key : ∀ (l : List Ent), (∀ e ∈ l, e ∈ es) → EsOk P g ops l → ∀ e ∈ l, listed.getD e.i false = true := by
  intro l
  induction l with
  | nil => intro _ _ e he; simp at he
  | cons x l ih =>
   intro hs hok e he
   have hl := ih (fun e he => hs e (by simp [he])) hok.2.2.2.2.2
   simp only [List.mem_cons] at he
   rcases he with rfl | he
   ·cases hq : listed.getD e.i false with
    | true => rfl
    | false =>
     exfalso
     obtain ⟨⟨o, ho, hco, hmask, hdeps⟩, _⟩ := hok
     have : e.i ∈ Region.ready .any ops listed := by
      rw [mem_ready]
      have hlt : e.i < listed.size := by rw [h.szl]; exact (Array.getElem?_eq_some_iff.1 ho).1
      refine ⟨by simp [hlt] at hq ⊢; exact hq, o, ho, fun ed hed hb => ?_⟩
      obtain ⟨e', he', hi'⟩ := hdeps ed hed hb
      rw [← hi']
      exact hl e' he'
     rw [hr] at this
     cases this
   ·exact hl e he
 exact key es (fun _ h => h) h.ents
theorem ready_sub (h : Sim P g ops lo listed X es m t S) {i : Nat} (hr : i ∈ Region.ready .any ops listed) (hX : X.getD i false = false) : i ∈ Region.ready .any ops X := by
 obtain ⟨h0, o, ho, hall⟩ := mem_ready.1 hr
 refine mem_ready.2 ⟨?_, o, ho, fun ed hed hb => h.sub _ (hall ed hed hb)⟩
 have hlt : i < X.size := by rw [h.szx]; exact (Array.getElem?_eq_some_iff.1 ho).1
 simp [hlt] at hX ⊢
 exact hX
theorem isNewl_op {o : AOper} (h : isNewl o = true) : o.guard = none ∧ ∃ l, o.op = .l l := by
 unfold isNewl at h
 split at h
 ·rename_i hop; simp only [Bool.and_eq_true, Option.isNone_iff_eq_none] at h; exact ⟨h.2, _, hop⟩
 ·rename_i hop; simp only [Bool.and_eq_true, Option.isNone_iff_eq_none] at h; exact ⟨h.2, _, hop⟩
 ·cases h
theorem isAll_op {o : AOper} (h : isAll o = true) : o.guard = none := by
 unfold isAll at h
 split at h
 ·simp only [Bool.and_eq_true, Option.isNone_iff_eq_none] at h; exact h.2
 ·cases h
theorem compO_guard {pm : PM} {o : Oper} {ao : AOper} (h : compO P pm ops o = some ao) (hg : ao.guard = none) : o.guard = none ∧ compA P pm o.dst o.op = some ao.op ∧ o.dst = ao.dst := by
 unfold compO at h
 obtain ⟨a, ha, h⟩ := Option.bind_eq_some_iff.1 h
 cases hgo : o.guard with
 | none => rw [hgo] at h; cases h; exact ⟨rfl, ha, rfl⟩
 | some jw =>
  rw [hgo] at h
  obtain ⟨d, hd, rfl⟩ := Option.map_eq_some_iff.1 h
  cases hg
theorem compCallA_l {o : Op} {l : LO} (h : compCallA P o = some (.l l)) : False := by
 unfold compCallA at h
 split at h
 ·split at h
  ·split at h <;> cases h
  ·cases h
  ·cases h
  ·cases h
 ·cases h
theorem compCallA_h {o : Op} {l : HO} (h : compCallA P o = some (.h l)) : False := by
 unfold compCallA at h
 split at h
 ·split at h
  ·split at h <;> cases h
  ·cases h
  ·cases h
  ·cases h
 ·cases h
theorem compA_l {pm : PM} {dst : Option Nat} {o : Op} {l : LO} (h : compA P pm dst o = some (.l l)) : compL P pm dst o = some l := by
 rcases compA_spec h with ⟨_, h, e⟩ | ⟨_, _, e⟩ | ⟨_, _, e⟩ | ⟨_, h, e⟩ | e
 ·cases e; exact h
 ·cases e
 ·cases e
 ·exact (compCallA_l (e ▸ h)).elim
 ·cases e
theorem compA_h {pm : PM} {dst : Option Nat} {o : Op} {l : HO} (h : compA P pm dst o = some (.h l)) : compH P o = some l := by
 rcases compA_spec h with ⟨_, _, e⟩ | ⟨_, _, e⟩ | ⟨_, h, e⟩ | ⟨_, h, e⟩ | e
 ·cases e
 ·cases e
 ·cases e; exact h
 ·exact (compCallA_h (e ▸ h)).elim
 ·cases e
/-- A value is put down, and the machine goes on. -/
theorem wpOp_value {Q' : Exit → Act → World → Prop} {K' : Act → World → Prop} {i : Nat} {o : Oper} (hi : ops[i]? = some o) (hg : o.guard = none) {u : Value} {w' : World} (hrun : (execOp a.eval o).run P w = .ok (.value u) w') (h : K' (a.put o.dst u) w') : wpOp P ops Q' i K' a w := by
 unfold wpOp
 simp only [hi]
 have hw : Region.wanted o (yielded ops a.tmps) = true := by simp [Region.wanted, hg]
 rw [if_pos hw]
 refine .inl ?_
 unfold Oper.wp
 rw [hrun]
 exact h
/-- The machine makes a block that was told. -/
theorem BSt.makeBlock {pm : PM} {n : Nat} (h : BSt G pm n fr m t S a w) {id : Nat} {vs : List Value} (hb : S.blk id = some ⟨false, vs⟩) (hm : m id = none) (hlo : G.S0.next ≤ id) {us : Array Value} (e : TypeId) (hone : ∀ v ∈ vs, v.oneCell' = true) (hru : LRel m vs us.toList)
  {u : Value} {d : Nat} (hd : baseOf pm d = none) (hv : VRel (m.ext id ⟨w.heap.size, 0, us.size⟩) (t d) u) :
  BSt G pm n (fun i => fr i ∨ some d = some i) (m.ext id ⟨w.heap.size, 0, us.size⟩) t S (a.put (some d) u) (w.alloc (.cells us e)) := by
 have hle := LMap.le_ext hm ⟨w.heap.size, 0, us.size⟩
 have hB0 : G.w0.heap.size ≤ w.heap.size := h.rel.below.size
 have hold : ∀ k, k < w.heap.size → (w.alloc (.cells us e)).heap[k]? = w.heap[k]? := fun k hk => Below.heap_alloc _ _ _ hk
 have hext : ∀ i, i ≠ id → (m.ext id ⟨w.heap.size, 0, us.size⟩) i = m i := fun i hi => by simp [LMap.ext, hi]
 have hself : (m.ext id ⟨w.heap.size, 0, us.size⟩) id = some ⟨w.heap.size, 0, us.size⟩ := by simp [LMap.ext]
 have hcl : ∀ B, B < w.heap.size → ¬ Claimed S m B → ¬ Claimed S (m.ext id ⟨w.heap.size, 0, us.size⟩) B := fun B hB hc ⟨i, b, r, h1, h2, h3, h4⟩ => hc (by
  by_cases hi : i = id
  ·subst hi
   rw [hself] at h3
   cases h3
   simp at h4
   omega
  ·exact ⟨i, b, r, h1, h2, by rw [hext i hi] at h3; exact h3, h4⟩)
 have hrel : Rel G.w0 (m.ext id ⟨w.heap.size, 0, us.size⟩) S (w.alloc (.cells us e)) := by
  refine ⟨h.rel.below.alloc hB0 _, fun i r hr => ?_, h.rel.live, fun i b r hbi hr => ?_, fun i j b c r s hbi hcj hbr hcr hr hs hcb => ?_⟩
  ·by_cases hi : i = id
   ·exact hi ▸ h.rel.live id _ hb
   ·rw [hext i hi] at hr; exact h.rel.dom i r hr
  ·by_cases hi : i = id
   ·subst hi
    rw [hself] at hr
    cases hr
    rw [hb] at hbi
    cases hbi
    have hl : vs.length = us.size := by simpa using hru.1
    refine ⟨hone, us, e, (0, 0), heap_alloc_new w _, rfl, by simp [hl], fun _ => ⟨rfl, hB0⟩, fun hc => by simp at hc, fun k v hk => ?_⟩
    obtain ⟨x, hx, hvx⟩ := hru.get hk
    exact ⟨x, by simpa using hx, hvx.mono hle⟩
   ·rw [hext i hi] at hr
    have hk := h.rel.blk i b r hbi hr
    exact (hk.mono hle).world (hold _ hk.lt)
  ·have lt : ∀ k d s, k ≠ id → S.blk k = some d → (m.ext id ⟨w.heap.size, 0, us.size⟩) k = some s → s.cb < w.heap.size := fun k d s hk hdk hs => by
    rw [hext k hk] at hs
    exact (h.rel.blk k d s hdk hs).lt
   by_cases hi : i = id
   ·by_cases hj : j = id
    ·rw [hi, hj]
    ·have := lt j c s hj hcj hs
     subst hi
     rw [hself] at hr
     cases hr
     simp at hcb
     omega
   ·by_cases hj : j = id
    ·have := lt i b r hi hbi hr
     subst hj
     rw [hself] at hs
     cases hs
     simp at hcb
     omega
    ·rw [hext i hi] at hr
     rw [hext j hj] at hs
     exact h.rel.inj i j b c r s hbi hcj hbr hcr hr hs hcb
 refine ⟨hrel, h.low, ⟨Nat.le_trans h.frame.size (by simp), fun B hB hc => ?_, h.frame.nx, fun i hi hn => ?_⟩, LMap.le_trans h.le hle, h.nx, by rw [defers_put]; exact h.defers, ?_⟩
 ·obtain ⟨k1, k2⟩ := h.frame.same B hB hc
  have hB' := Nat.lt_of_lt_of_le hB h.frame.size
  exact ⟨(hold B hB').trans k1, hcl B hB' k2⟩
 ·obtain ⟨k1, k2⟩ := h.frame.ghost i hi hn
  exact ⟨by rw [hext i (by omega)]; exact k1, k2⟩
 ·have he : BRel pm n fr G.w1.heap.size (m.ext id ⟨w.heap.size, 0, us.size⟩) t S a (w.alloc (.cells us e)) := by
   obtain ⟨h1, h2, loc, h3, h4, h5⟩ := h.env
   refine ⟨h1, fun i hi hfr hb => (h2 i hi hfr hb).mono hle, loc, fun d cs hd hfr hb ht => ?_, h4, h5⟩
   obtain ⟨g1, g2, g3, g4⟩ := h3 d cs hd hfr hb ht
   exact ⟨g1, g2.later hle (hold _ g2.lt), g3, hcl _ g2.lt g4⟩
  have := he.putPlain hv (d := some d) fun x hx => by cases hx; exact hd
  rwa [put_same] at this
/-- One that was told is done. -/
theorem late_exec {Q' : Exit → Act → World → Prop} {K' : Act → World → Prop} (h : Sim P g ops G.S0.next listed X es m t S) (hB : BSt G g.pm g.n (frOf listed es) m t S a w) {i : Nat} (hr : i ∈ Region.ready .any ops listed) (hX : X.getD i false = true)
  (hK : ∀ m' a' w', Sim P g ops G.S0.next (listed.setIfInBounds i true) X es m' t S → BSt G g.pm g.n (frOf (listed.setIfInBounds i true) es) m' t S a' w' → K' a' w') : wpOp P ops Q' i K' a w := by
 obtain ⟨e, he, rfl⟩ := (h.mem i).1 hX
 obtain ⟨h0, o, ho, hall⟩ := mem_ready.1 hr
 have h0' := getD_false_of h0
 obtain ⟨hez, hel⟩ := h.late e he h0'
 obtain ⟨l1, l2, hl⟩ := List.append_of_mem he
 have hents := h.ents
 rw [hl] at hents
 obtain ⟨⟨o', ho', hco, hmask, hdeps⟩, hok, huniq, hlok, hlz, htail⟩ := hents.split
 rw [ho] at ho'
 cases ho'
 have hfr1 : ∀ x, frOf (listed.setIfInBounds e.i true) es x → frOf listed es x ∨ e.o.dst = some x := fun x hx => by
  by_cases hd : e.o.dst = some x
  ·exact .inr hd
  ·refine .inl fun e' he' hl' => ?_
   by_cases hie : e.i = e'.i
   ·rw [← h.ents.uniq e he e' he' hie]
    exact hd
   ·exact hx e' he' (by rw [getD_set_ne false hie]; exact hl')
 have hfr2 : ∀ x, (frOf listed es x ∨ e.o.dst = some x) → frOf (listed.setIfInBounds e.i true) es x := fun x hx e' he' hl' => by
  by_cases hie : e.i = e'.i
  ·rw [← hie, getD_set_self (by rw [h.szl]; exact (Array.getElem?_eq_some_iff.1 ho).1)] at hl'
   cases hl'
  ·rw [getD_set_ne false hie] at hl'
   rcases hx with hx | hx
   ·exact hx e' he' hl'
   ·exact fun hd => hie (h.dst_inj he he' h0' hl' hx hd)
 have hlk := (h.looks he hr).1
 have others : ∀ {m' : LMap}, Gh S m S m' → ∀ e' ∈ es, listed.getD e'.i false = false → e.i ≠ e'.i → Late G.S0.next m' t S e'.o := fun hg e' he' hl' _ =>
  (h.late e' he' hl').2.keep (fun _ _ => rfl) (fun _ _ => rfl) (Nat.le_refl _) (fun id _ => hg.2 id) fun _ _ _ _ hv _ => hv
 rcases hel with ⟨hz, hel⟩ | ⟨hz, hel⟩ | ⟨hz, hel⟩
 ·have hlX : looksX e.o = e.o.looks := by
   unfold isRdl at hz
   unfold looksX
   split
   ·rename_i hop; rw [hop] at hz; simp at hz
   ·rename_i hop; rw [hop] at hz; simp at hz
   ·rfl
  refine op_sound ho hco hok hB (hlX ▸ hlk) (opWp_late hz hel) ?_
  rintro m' t' S' a' w' hB' hg ⟨rfl, rfl⟩
  exact hK m' a' w' (h.list he hr (others hg)) (hB'.weaken hfr1 fun d _ hd => hfr2 d hd)
 ·obtain ⟨hgn, l, hop⟩ := isNewl_op hz
  obtain ⟨hog, hca, hdst⟩ := compO_guard hco hgn
  obtain ⟨d, hd, hel⟩ := hel
  have hnf : ¬ frOf listed es d := fun q => q e he h0' hd
  rw [hop] at hca hel
  have hcl := compA_l hca
  have done : ∀ {vs us ty}, baseOf g.pm d = some d → t d = .agg vs.toArray → LRel m vs us.toList → (∀ x ∈ vs, x.oneCell' = true) → (execOp a.eval o).run P w = .ok (.value (.pointer (some ⟨w.heap.size, 0, none⟩))) (w.alloc (.cells us ty)) → wpOp P ops Q' e.i K' a w := by
   intro vs us ty hbd htd hru hone hrun
   refine wpOp_value ho hog hrun (hK m _ _ (h.list he hr (others (.refl _ _))) ?_)
   rw [hdst, hd]
   exact (hB.makeLocal hbd hnf htd ty hone hru).weaken (fun x hx => hd ▸ hfr1 x hx) fun x _ hx => hfr2 x (hd ▸ hx)
  cases l <;> simp only at hel
  case new d' rs z =>
   obtain ⟨rfl, htd⟩ := hel
   obtain ⟨_, hbd, us, ty, hru, hone, hrun⟩ := make_new (m := m) hcl
   exact done hbd htd hru hone (hrun _ _)
  case box d' rs x =>
   obtain ⟨rfl, hst, htd⟩ := hel
   obtain ⟨_, hbd, ty, hrun⟩ := make_box hcl
   have hx : VRel m (ev t x) (a.eval x) := hB.env.ev (by
    unfold AOper.ok at hok
    simp only [hop, Bool.and_eq_true, List.all_eq_true] at hok
    exact hok.1.1 x (by simp [BOp.operands, LO.operands])) fun i hi => hlk i (by unfold looksX; rw [hop, hi]; simp [opTmp])
   exact done hbd htd hx.cells (hx.cells_one hst) (hrun _ _)
 ·have hgn := isAll_op hz
  obtain ⟨hog, hca, hdst⟩ := compO_guard hco hgn
  obtain ⟨ho', d, id, b, hop, ha, hd, hv, hb, hm, hid, hlo, hbk⟩ := hel
  rw [hop] at hca
  have hch := compA_h hca
  have hlX : looksX e.o = e.o.looks := by
   unfold looksX
   rw [hop]
  have hokx : (∀ x ∈ ho'.operands, opdOk g.pm g.n x = true) ∧ baseOf g.pm d = none := by
   unfold AOper.ok at hok
   simp only [hop, Bool.and_eq_true, List.all_eq_true, hd] at hok
   exact ⟨hok.1.1, by simpa using hok.2⟩
  have hsees : Sees m (ev t) a.eval ho'.operands := fun x hx => hB.env.ev (hokx.1 x hx) fun i hi => hlk i (by
   rw [hlX]
   unfold AOper.looks
   simp only [List.mem_append]
   exact .inl (.inl (List.mem_flatMap.2 ⟨x, by rw [hop]; exact hx, by rw [hi]; simp [opTmp]⟩)))
  obtain ⟨vs, us, ty, mk, u, hS, hmk, hone, hru, _, hrun, hvr, _⟩ := (makes_of o hch ha hsees hv).ex
  have hbv : b = ⟨false, vs⟩ := by
   have := congrArg (fun T : St => T.blk id) hS
   simpa [St.new] using this
  subst hbv
  refine wpOp_value ho hog (hrun w) (hK (m.ext id ⟨w.heap.size, 0, us.size⟩) _ _ (h.list he hr fun e' he' hl' hne => ?_) ?_)
  ·have hlate := (h.late e' he' hl').2
   refine hlate.keep (fun _ _ => rfl) (fun _ _ => rfl) (Nat.le_refl _) (fun j hgj hj hmj => ⟨?_, rfl⟩) fun _ _ _ _ hv _ => hv
   have hji : j ≠ id := fun q => hne (h.gone e he e' he' h0' hl' id (by unfold gid; rw [hop, hd]; simp only [ha, if_true]; exact hbk) (q ▸ hgj))
   simp [LMap.ext, hji, hmj]
  ·rw [hdst, hd]
   exact (hB.makeBlock hb hm hlo ty hone hru hokx.2 (by rw [hmk]; exact hvr _ _ _ (by simp [LMap.ext]))).weaken (fun x hx => hd ▸ hfr1 x hx) fun x _ hx => hfr2 x (hd ▸ hx)
theorem pends_mem {ps : List Pend} (h : pendsOk t S ps) : ∀ p ∈ ps, pendOk t S p := by
 induction ps with
 | nil => intro p hp; simp at hp
 | cons q ps ih =>
  intro p hp
  simp only [List.mem_cons] at hp
  rcases hp with rfl | hp
  ·exact h.1
  ·exact ih h.2 p hp
theorem chkIf_wp {ps : List Pend} {r : ATree} {K : Env → St → Prop} (h : treeWp P (chkIf ps r) t S K) : pendsOk t S ps ∧ treeWp P r t S K := by
 cases ps with
 | nil => exact ⟨trivial, h⟩
 | cons p ps => exact h
theorem chkIf_ok {ps : List Pend} {r : ATree} (h : (chkIf ps r).ok g = true) : r.ok g = true := by
 cases ps with
 | nil => exact h
 | cons p ps => exact h
theorem X_false {i : Nat} (h : Sim P g ops lo listed X es m t S) (hX : X.getD i false = false) : listed.getD i false = false ∧ ∀ e ∈ es, e.i ≠ i :=
 ⟨(by
  cases hq : listed.getD i false with
  | false => rfl
  | true => rw [h.sub i hq] at hX; cases hX), fun e he hi => (by rw [(h.mem i).2 ⟨e, he, hi⟩] at hX; cases hX)⟩
/-- One that was not told is told and done. -/
theorem eff_exec {Q' : Exit → Act → World → Prop} {K' : Act → World → Prop} {K : Env → St → Prop} {r : ATree} (h : Sim P g ops G.S0.next listed X es m t S) (hB : BSt G g.pm g.n (frOf listed es) m t S a w) {i : Nat} (hr : i ∈ Region.ready .any ops listed)
  (hX : X.getD i false = false) {o : Oper} {ao : AOper} (ho : ops[i]? = some o) (hco : compO P g.pm ops o = some ao) (hok : ao.ok g.pm g.n = true) (hlok : lateOk es (depsOf es o) ao false = true)
  (hw : opWp P ao t S fun t' S' => treeWp P (chkIf (pendsOf es (depsOf es o) ao) r) t' S' K)
  (hK : ∀ m' t' S' a' w', Sim P g ops G.S0.next (listed.setIfInBounds i true) (X.setIfInBounds i true) (⟨i, depsOf es o, ao, false⟩ :: es) m' t' S' → BSt G g.pm g.n (frOf (listed.setIfInBounds i true) (⟨i, depsOf es o, ao, false⟩ :: es)) m' t' S' a' w' → treeWp P r t' S' K → K' a' w') : wpOp P ops Q' i K' a w := by
 obtain ⟨hli, hne⟩ := X_false h hX
 obtain ⟨h0, o', ho', hall⟩ := mem_ready.1 hr
 rw [ho] at ho'
 cases ho'
 have hlt : i < ops.size := (Array.getElem?_eq_some_iff.1 ho).1
 have hdeps : ∀ ed ∈ o.after, Region.binds .any ed = true → listed.getD ed.on false = true ∧ ∃ e' ∈ es, e'.i = ed.on := fun ed hed hb => ⟨hall ed hed hb, (h.mem _).1 (h.sub _ (hall ed hed hb))⟩
 have hm := deps_listed (fun e he => he) h.closed hdeps
 have notLate : ∀ e ∈ es, listed.getD e.i false = false → (depsOf es o).testBit e.i = false := fun e he hl => by
  cases hq : (depsOf es o).testBit e.i with
  | false => rfl
  | true => rw [hm _ hq] at hl; cases hl
 refine op_sound ho hco hok hB (fun x hx e he hl hd => ?_) (opWp_changes hw) ?_
 ·rcases (lateOk_mem hlok he (h.late e he hl).1).2 with q | q
  ·rw [notLate e he hl] at q; cases q
  ·exact q x hd hx
 rintro m' t' S' a' w' hB' hgh ⟨hk, hch, hqu⟩
 obtain ⟨hps, hk⟩ := chkIf_wp hk
 have hset : ∀ e ∈ es, (listed.setIfInBounds i true).getD e.i false = listed.getD e.i false := fun e he => getD_set_ne false fun q => hne e he q.symm
 have hap : ∀ e ∈ es, listed.getD e.i false = false → ∀ c ∈ changes ao, c ∉ e.o.looks ∧ e.o.dst ≠ some c := fun e he hl => by
  rcases (lateOk_mem hlok he (h.late e he hl).1).1 with q | q
  ·rw [notLate e he hl] at q; simp at q
  ·exact q
 have hself : (listed.setIfInBounds i true).getD i false = true := getD_set_self (by rw [h.szl]; exact hlt)
 have hold : ∀ e ∈ (⟨i, depsOf es o, ao, false⟩ : Ent) :: es, (listed.setIfInBounds i true).getD e.i false = false → e ∈ es ∧ listed.getD e.i false = false := fun e he hl => by
  simp only [List.mem_cons] at he
  rcases he with rfl | he
  ·simp only at hl
   rw [hself] at hl
   cases hl
  ·exact ⟨he, by rw [hset e he] at hl; exact hl⟩
 have hnx := hgh.1
 refine hK m' t' S' a' w' ⟨by simp [h.szl], by simp [h.szx], fun j hj => ?_, fun j => ?_, ⟨⟨o, ho, hco, rfl, fun ed hed hb => (hdeps ed hed hb).2⟩, hok, hne, hlok, fun q => (by cases q), h.ents⟩, fun e he hl => ?_, fun e1 h1 e2 h2 l1 l2 id g1 g2 => ?_, fun e he hl j hj => ?_⟩ (hB'.weaken (fun x hx => ?_) fun d _ hd e he hl => ?_) hk
 ·by_cases hij : i = j
  ·subst hij; exact getD_set_self (by rw [h.szx]; exact hlt)
  ·rw [getD_set_ne false hij] at hj ⊢; exact h.sub j hj
 ·by_cases hij : i = j
  ·subst hij
   exact ⟨fun _ => ⟨_, List.mem_cons_self, rfl⟩, fun _ => getD_set_self (by rw [h.szx]; exact hlt)⟩
  ·rw [getD_set_ne false hij, h.mem j]
   exact ⟨fun ⟨e, he, hj⟩ => ⟨e, List.mem_cons_of_mem _ he, hj⟩, fun ⟨e, he, hj⟩ => by
    simp only [List.mem_cons] at he
    rcases he with rfl | he
    ·exact absurd hj hij
    ·exact ⟨e, he, hj⟩⟩
 ·obtain ⟨he, hl⟩ := hold e he hl
  obtain ⟨hz, hlv⟩ := h.late e he hl
  have hap := hap e he hl
  refine ⟨hz, hlv.keep (fun x hx => hch x fun hc => (hap x hc).1 hx) (fun d hd => hch d fun hc => (hap d hc).2 hd) hnx (fun id _ => hgh.2 id) fun ho v hop hrd hv hg => ?_⟩
  have hx : ∀ x ∈ ho.operands, ev t' x = ev t x := fun x hx => (looks_op (o := e.o) (fun y hy => hch y fun hc => (hap y hc).1 hy)).1 x (by rw [hop]; exact hx)
  cases hq : isQuiet ao with
  | true => exact read_keep hrd hx (fun id b hb => hqu hq id b (hB.rel.lt hb) hb) hv
  | false =>
   rcases hlv with ⟨hrz, d, hd, hval⟩ | ⟨hrz, _⟩ | ⟨hrz, _⟩
   ·have hmem : (⟨d, ho, e.o.guard⟩ : Pend) ∈ pendsOf es (depsOf es o) ao := by
     unfold pendsOf
     rw [hq]
     simp only [Bool.false_eq_true, if_false]
     refine List.mem_filterMap.2 ⟨e, he, ?_⟩
     rw [if_pos ⟨hz, notLate e he hl⟩, hop, hd]
     simp only [hrd, if_true]
    have := pends_mem hps _ hmem
    unfold pendOk at this
    have hg' : guardB e.o.guard t' = true := by rw [(looks_op (o := e.o) (fun y hy => hch y fun hc => (hap y hc).1 hy)).2.1]; exact hg
    simp only [hg', if_true] at this
    rw [this, hch d fun hc => (hap d hc).2 hd]
    rw [if_pos hg, hop] at hval
    simp only [evalL] at hval
    rw [← hval, hv]
   ·obtain ⟨_, l, hol⟩ := isNewl_op hrz
    rw [hop] at hol
    cases hol
   ·unfold isAll at hrz
    rw [hop] at hrz
    cases ho <;> simp [isAlloc] at hrz <;> simp [isRead] at hrd
 ·obtain ⟨m1, k1⟩ := hold e1 h1 l1
  obtain ⟨m2, k2⟩ := hold e2 h2 l2
  have gk : ∀ e ∈ es, listed.getD e.i false = false → gid t' e.o = gid t e.o := fun e he hl => gid_keep fun d hd => hch d fun hc => (hap e he hl d hc).2 hd
  rw [gk e1 m1 k1] at g1
  rw [gk e2 m2 k2] at g2
  exact h.gone e1 m1 e2 m2 k1 k2 id g1 g2
 ·simp only [List.mem_cons] at he
  rcases he with rfl | he
  ·exact getD_set_true (hm j hj)
  ·rw [hset e he] at hl
   exact getD_set_true (h.closed e he hl j hj)
 ·by_cases hd : ao.dst = some x
  ·exact .inr hd
  ·refine .inl fun e he hl => hx e (List.mem_cons_of_mem _ he) ?_
   rw [hset e he]
   exact hl
 ·obtain ⟨he, hl⟩ := hold e he hl
  rcases hd with hd | hd
  ·exact hd e he hl
  ·exact (hap e he hl d (dst_changes hd)).2
theorem BRel.stale {pm : PM} {n lo : Nat} (h : BRel pm n fr lo m t S a w) {d : Nat} (hd : ∀ b, baseOf pm d = some b → b ≠ d) {fr' : Nat → Prop} (hf : ∀ i, fr' i → fr i ∧ i ≠ d) (hl : ∀ i, baseOf pm i = some i → fr i → fr' i) (v : Value) : BRel pm n fr' lo m (t.put (some d) v) S a w := by
 obtain ⟨h1, h2, loc, h3, h4, h5⟩ := h
 have ht : ∀ i, i ≠ d → (t.put (some d) v) i = t i := fun i hi => by simp only [Env.put, if_neg hi]
 have hb : ∀ i, baseOf pm i = some i → i ≠ d := fun i hi e => hd i (e ▸ hi) e
 refine ⟨h1, fun i hi hfr hbi => ?_, loc, fun e cs he hfe hbe hte => ?_, fun e f cs ds he hf' hfe hff hbe hbf hte htf => ?_, fun i e k o hi hfr hbi hie hti => ?_⟩
 ·rw [ht i (hf i hfr).2]; exact h2 i hi (hf i hfr).1 hbi
 ·rw [ht e (hb e hbe)] at hte; exact h3 e cs he (hf e hfe).1 hbe hte
 ·rw [ht e (hb e hbe)] at hte
  rw [ht f (hb f hbf)] at htf
  exact h4 e f cs ds he hf' (hf e hfe).1 (hf f hff).1 hbe hbf hte htf
 ·rw [ht i (hf i hfr).2] at hti
  obtain ⟨g1, g0, gf, ⟨cs, g2⟩, g3⟩ := h5 i e k o hi (hf i hfr).1 hbi hie hti
  exact ⟨g1, g0, hl e g0 gf, ⟨cs, by rw [ht e (hb e g0)]; exact g2⟩, g3⟩
theorem lazy_dst {ao : AOper} (hz : isRdl ao = true ∨ isAll ao = true) (hok : ao.ok g.pm g.n = true) {d : Nat} (hd : ao.dst = some d) : ∀ b, baseOf g.pm d = some b → b ≠ d := by
 intro b hb
 unfold AOper.ok at hok
 simp only [Bool.and_eq_true] at hok
 have h2 := hok.2
 rcases hz with hz | hz
 ·obtain ⟨d', hd', hc⟩ := isRdl_cases hz
  rw [hd] at hd'
  cases hd'
  rcases hc with ⟨p, hp⟩ | ⟨ho, hp, hrd⟩ | ⟨l, hp, _, _, hl⟩
  ·rw [hp, hd] at h2; simp [hb] at h2
  ·rw [hp, hd] at h2; simp [hb] at h2
  ·rw [hp] at h2
   simp only at h2
   rcases hl with ⟨s, d', o, rfl⟩ | ⟨s, d', n', e, i, rfl⟩ | ⟨s, d', z, ag, rfl⟩
   ·simp only [LO.ok, hd, Bool.and_eq_true, beq_iff_eq, bne_iff_ne, ne_eq, decide_eq_true_eq] at h2
    obtain ⟨_, ⟨q1, q2⟩, _⟩ := h2
    rw [hb] at q1
    cases q1
    exact fun e => q2 e.symm
   ·simp only [LO.ok, hd, Bool.and_eq_true, beq_iff_eq, bne_iff_ne, ne_eq, decide_eq_true_eq] at h2
    obtain ⟨_, ⟨q1, q2⟩, _⟩ := h2
    rw [hb] at q1
    cases q1
    exact fun e => q2 e.symm
   ·simp only [LO.ok, hd, Bool.and_eq_true, beq_iff_eq, decide_eq_true_eq] at h2
    rw [hb] at h2
    simp at h2
 ·unfold isAll at hz
  split at hz
  ·rename_i ho hp
   rw [hp, hd] at h2; simp [hb] at h2
  ·cases hz
/-- One is told early. -/
theorem eager {K : Env → St → Prop} {r : ATree} (h : Sim P g ops G.S0.next listed X es m t S) (hB : BSt G g.pm g.n (frOf listed es) m t S a w) {i : Nat} (hr : i ∈ Region.ready .any ops X) {o : Oper} {ao : AOper}
  (ho : ops[i]? = some o) (hco : compO P g.pm ops o = some ao) (hok : ao.ok g.pm g.n = true) (hz : isLazy ao = true) (hself : ∀ d, ao.dst = some d → d ∉ looksX ao) (hlok : lateOk es (depsOf es o) ao true = true)
  (hw : opWp P ao t S fun t' S' => treeWp P r t' S' K) :
  ∃ t' S', Sim P g ops G.S0.next listed (X.setIfInBounds i true) (⟨i, depsOf es o, ao, true⟩ :: es) m t' S' ∧ BSt G g.pm g.n (frOf listed (⟨i, depsOf es o, ao, true⟩ :: es)) m t' S' a w ∧ treeWp P r t' S' K := by
 obtain ⟨h0, o', ho', hall⟩ := mem_ready.1 hr
 rw [ho] at ho'
 cases ho'
 have hX := getD_false_of h0
 obtain ⟨hli, hne⟩ := X_false h hX
 have hlt : i < ops.size := (Array.getElem?_eq_some_iff.1 ho).1
 have hap : ∀ e ∈ es, listed.getD e.i false = false → ∀ c ∈ changes ao, c ∉ e.o.looks ∧ e.o.dst ≠ some c := fun e he hl => by
  rcases (lateOk_mem hlok he (h.late e he hl).1).1 with q | q
  ·simp at q
  ·exact q
 have close : ∀ {t' : Env} {S' : St}, (∀ x, x ∉ changes ao → t' x = t x) → S.next ≤ S'.next → (∀ id b, S.blk id = some b → S'.blk id = some b) → (∀ id, id < S.next → S'.blk id = S.blk id) →
   Late G.S0.next m t' S' ao → (∀ id, gid t' ao = some id → S.next ≤ id) → Sim P g ops G.S0.next listed (X.setIfInBounds i true) (⟨i, depsOf es o, ao, true⟩ :: es) m t' S' := by
  intro t' S' hch hnx hkb hkid hlate hgn
  have gk : ∀ e ∈ es, listed.getD e.i false = false → gid t' e.o = gid t e.o := fun e he hl => gid_keep fun d hd => hch d fun hc => (hap e he hl d hc).2 hd
  have glt : ∀ e ∈ es, listed.getD e.i false = false → ∀ id, gid t e.o = some id → id < S.next := fun e he hl id hg => by
   rcases (h.late e he hl).2 with ⟨hrz, _⟩ | ⟨hrz, _⟩ | ⟨hrz, ho', d, id', b, hop, ha, hd, _, _, _, hlt, _, hbk⟩
   ·unfold gid at hg
    split at hg
    ·rename_i ho' d hop hd
     split at hg
     ·rename_i ha
      unfold isRdl at hrz
      rw [hop] at hrz
      cases ho' <;> simp [isAlloc] at ha <;> simp at hrz
     ·cases hg
    ·cases hg
   ·obtain ⟨_, l, hol⟩ := isNewl_op hrz
    unfold gid at hg
    rw [hol] at hg
    simp at hg
   ·unfold gid at hg
    rw [hop, hd] at hg
    simp only [ha, if_true] at hg
    rw [hbk] at hg
    cases hg
    exact hlt
  refine ⟨h.szl, by simp [h.szx], fun j hj => getD_set_true (h.sub j hj), fun j => ?_, ⟨⟨o, ho, hco, rfl, fun ed hed hb => (h.mem _).1 (hall ed hed hb)⟩, hok, hne, hlok, fun _ => ⟨hz, hself⟩, h.ents⟩, fun e he hl => ?_, fun e1 h1 e2 h2 l1 l2 id g1 g2 => ?_, fun e he hl j hj => ?_⟩
  ·by_cases hij : i = j
   ·subst hij
    exact ⟨fun _ => ⟨_, List.mem_cons_self, rfl⟩, fun _ => getD_set_self (by rw [h.szx]; exact hlt)⟩
   ·rw [getD_set_ne false hij, h.mem j]
    exact ⟨fun ⟨e, he, hj⟩ => ⟨e, List.mem_cons_of_mem _ he, hj⟩, fun ⟨e, he, hj⟩ => by
     simp only [List.mem_cons] at he
     rcases he with rfl | he
     ·exact absurd hj hij
     ·exact ⟨e, he, hj⟩⟩
  ·simp only [List.mem_cons] at he
   rcases he with rfl | he
   ·exact ⟨rfl, hlate⟩
   ·obtain ⟨hez, hlv⟩ := h.late e he hl
    have hap := hap e he hl
    have hlk : ∀ x ∈ e.o.looks, t' x = t x := fun x hx => hch x fun hc => (hap x hc).1 hx
    exact ⟨hez, hlv.keep hlk (fun d' hd' => hch d' fun hc => (hap d' hc).2 hd') hnx (fun id _ hi hn => ⟨hn, hkid id hi⟩) fun ho v' hop hrd hv' hg => read_keep hrd (fun x hx => (looks_op hlk).1 x (by rw [hop]; exact hx)) hkb hv'⟩
  ·simp only [List.mem_cons] at h1 h2
   rcases h1 with rfl | h1
   ·rcases h2 with rfl | h2
    ·rfl
    ·rw [gk e2 h2 l2] at g2
     have := glt e2 h2 l2 id g2
     have := hgn id g1
     omega
   ·rcases h2 with rfl | h2
    ·rw [gk e1 h1 l1] at g1
     have := glt e1 h1 l1 id g1
     have := hgn id g2
     omega
    ·rw [gk e1 h1 l1] at g1
     rw [gk e2 h2 l2] at g2
     exact h.gone e1 h1 e2 h2 l1 l2 id g1 g2
  ·simp only [List.mem_cons] at he
   rcases he with rfl | he
   ·simp only at hl
    rw [hli] at hl
    cases hl
   ·exact h.closed e he hl j hj
 have hfr1 : ∀ {d}, ao.dst = some d → ∀ x, frOf listed (⟨i, depsOf es o, ao, true⟩ :: es) x → frOf listed es x ∧ x ≠ d := fun {d} hd x hx => ⟨fun e he hl => hx e (List.mem_cons_of_mem _ he) hl, fun e => by
  subst e
  exact hx _ List.mem_cons_self hli hd⟩
 have hfr2 : ∀ {d}, ao.dst = some d → ∀ x, frOf listed es x → x ≠ d → frOf listed (⟨i, depsOf es o, ao, true⟩ :: es) x := fun {d} hd x hx hne e he hl => by
  simp only [List.mem_cons] at he
  rcases he with rfl | he
  ·exact fun q => hne (by rw [hd] at q; exact (Option.some.inj q).symm)
  ·exact hx e he hl
 unfold isLazy at hz
 cases hz1 : isRdl ao with
 | true =>
  obtain ⟨v, hk, hv⟩ := opWp_lazy hz1 hw
  obtain ⟨d, hd, hc⟩ := isRdl_cases hz1
  rw [hd] at hk
  have hput : ∀ x, x ≠ d → (t.put (some d) v) x = t x := fun x hx => by simp only [Env.put, if_neg hx]
  have hlX : looksX ao = ao.looks := by
   unfold isRdl at hz1
   unfold looksX
   split
   ·rename_i hop; rw [hop] at hz1; simp at hz1
   ·rename_i hop; rw [hop] at hz1; simp at hz1
   ·rfl
  have hlv : LateV (t.put (some d) v) S ao := by
   refine ⟨d, hd, ?_⟩
   have hlk := looks_op (o := ao) (t := t) (t' := t.put (some d) v) fun x hx => hput x fun e => hself d hd (by rw [hlX]; exact e ▸ hx)
   have htd : (t.put (some d) v) d = v := by simp [Env.put]
   rw [hlk.2.1, htd]
   split
   ·rename_i hg
    rw [if_pos hg] at hv
    rcases hc with ⟨p, hp⟩ | ⟨ho, hp, hrd⟩ | ⟨l, hp, _⟩
    ·have h1 := hlk.1
     rw [hp] at hv h1 ⊢
     simp only [evalL] at hv ⊢
     rw [apure_agree h1]; exact hv
    ·have h1 := hlk.1
     rw [hp] at hv h1 ⊢
     simp only [evalL] at hv ⊢
     exact read_keep hrd h1 (fun _ _ hb => hb) hv
    ·have h1 := hlk.1
     rw [hp] at hv h1 ⊢
     simp only [evalL] at hv ⊢
     rw [lval_agree h1 (hlk.2.2 l hp)]; exact hv
   ·rename_i hg
    rw [if_neg hg] at hv
    exact hv
  have hgn : gid (t.put (some d) v) ao = none := by
   unfold gid
   split
   ·rename_i ho' d' hop hd'
    split
    ·rename_i ha
     unfold isRdl at hz1
     rw [hop] at hz1
     cases ho' <;> simp [isAlloc] at ha <;> simp at hz1
    ·rfl
   ·rfl
  refine ⟨t.put (some d) v, S, close (fun x hx => hput x fun e => hx (e ▸ dst_changes hd)) (Nat.le_refl _) (fun _ _ hb => hb) (fun _ _ => rfl) (.inl ⟨hz1, hlv⟩) (fun id hg => by rw [hgn] at hg; cases hg), ?_, hk⟩
  exact ⟨hB.rel, hB.low, hB.frame, hB.le, hB.nx, hB.defers, hB.env.stale (lazy_dst (.inl hz1) hok hd) (hfr1 hd) (fun x hbx hx => hfr2 hd x hx fun e => lazy_dst (.inl hz1) hok hd x (e ▸ hbx) e) v⟩
 | false =>
  rw [hz1] at hz
  simp only [Bool.false_or, Bool.or_eq_true] at hz
  rcases hz with hz2 | hz3
  ·obtain ⟨hgn, l, hop⟩ := isNewl_op hz2
   have hgB : guardB ao.guard t = true := by rw [hgn]; rfl
   unfold opWp at hw
   rw [hgB, hop] at hw
   simp only [if_true, optV] at hw
   split at hw
   case h_2 => exact hw.elim
   rename_i v hv
   have hok2 := hok
   unfold AOper.ok at hok2
   rw [hop] at hok2
   simp only [Bool.and_eq_true] at hok2
   have hlo := hok2.2
   unfold isNewl at hz2
   rw [hop] at hz2
   have gn : ∀ t' : Env, gid t' ao = none := fun t' => by unfold gid; rw [hop]
   have tell : ∀ {d rs vs}, ao.dst = some d → baseOf g.pm d = some d → (match rs with | none => True | some es => covers g.pm d es = true) → lnewV (t d) rs vs = some v → (∀ x, x ∉ changes ao → ((t.clr (rs.getD [])).put (some d) v) x = t x) →
     (v = .agg vs.toArray → NewV ((t.clr (rs.getD [])).put (some d) v) ao) → treeWp P r ((t.clr (rs.getD [])).put (some d) v) S K →
     ∃ t' S', Sim P g ops G.S0.next listed (X.setIfInBounds i true) (⟨i, depsOf es o, ao, true⟩ :: es) m t' S' ∧ BSt G g.pm g.n (frOf listed (⟨i, depsOf es o, ao, true⟩ :: es)) m t' S' a w ∧ treeWp P r t' S' K := by
    intro d rs vs hd hbd hrs hnew hch hnv hk
    obtain ⟨hvv, he⟩ := hB.env.tellLocal hbd hrs hnew
    refine ⟨_, S, close hch (Nat.le_refl _) (fun _ _ hb => hb) (fun _ _ => rfl) (.inr (.inl ⟨by unfold isNewl; rw [hop]; exact hz2, hnv hvv⟩)) (fun id hg => by rw [gn] at hg; cases hg), ?_, hk⟩
    exact ⟨hB.rel, hB.low, hB.frame, hB.le, hB.nx, hB.defers, he.weaken (fun x hx => hfr1 hd x hx) fun x _ hx => hfr2 hd x hx.1 hx.2⟩
   have hch0 : ∀ (v : Value) x, x ∉ changes ao → ((t.clr l.clr).put (l.tgt ao.dst) v) x = t x := by
    intro v x hx
    have h1 : l.tgt ao.dst ≠ some x := fun e => hx (by simp [changes, hop, e])
    have h2 : l.clr.contains x = false := by
     cases hc : l.clr.contains x with
     | false => rfl
     | true => exact absurd (show x ∈ changes ao by simp [changes, hop]; exact .inr (.inr (by simpa using hc))) hx
    cases hd : l.tgt ao.dst with
    | none => simp only [Env.put, Env.clr, h2, Bool.false_eq_true, if_false]
    | some d =>
     simp only [Env.put]
     rw [if_neg (fun e => h1 (by rw [hd, e])), Env.clr, h2]
     simp
   cases l <;> simp only [Bool.false_eq_true] at hz2
   case new d rs z =>
    simp only [Bool.and_eq_true, beq_iff_eq] at hz2
    simp only [LO.ok, Bool.and_eq_true, decide_eq_true_eq, beq_iff_eq] at hlo
    refine tell (rs := rs) (vs := z) hz2.1 hlo.1.1.2 (by have := hlo.1.2; split at this <;> simp_all) hv (fun x hx => hch0 v x hx) (fun hvv => ⟨d, hz2.1, ?_⟩) hw
    rw [hop]
    exact ⟨rfl, by simp [Env.put, hvv]⟩
   case box d rs x =>
    simp only [Bool.and_eq_true, beq_iff_eq] at hz2
    simp only [LO.ok, Bool.and_eq_true, decide_eq_true_eq, beq_iff_eq] at hlo
    simp only [lval] at hv
    split at hv
    case isFalse => cases hv
    rename_i hst
    have hcov : (match (generalizing := false) rs with | none => True | some es => covers g.pm d es = true) := by have := hlo.2; split at this <;> simp_all
    have hxo : ev ((t.clr (rs.getD [])).put (some d) v) x = ev t x := by
     refine ev_agree fun i hi => ?_
     have hid : i ≠ d := fun e => hself d hz2.1 (by unfold looksX; rw [hop]; exact e ▸ hi)
     have hbi : baseOf g.pm i = none := by
      have := hok2.1.1
      simp only [BOp.operands, LO.operands, List.all_cons, List.all_nil, Bool.and_true] at this
      cases x <;> simp [opTmp] at hi
      subst hi
      simp [opdOk] at this
      simpa using this.2
     have hic : (rs.getD []).contains i = false := by
      cases hc : (rs.getD []).contains i with
      | false => rfl
      | true =>
       cases rs with
       | none => simp at hc
       | some es =>
        have := ((covers_spec hcov).2 i hc).1
        rw [hbi] at this
        cases this
     simp only [Env.put, if_neg hid, Env.clr, hic, Bool.false_eq_true, if_false]
    refine tell (rs := rs) (vs := (ev t x).cells.toList) hz2.1 hlo.1.2 hcov hv (fun x hx => hch0 v x hx) (fun hvv => ⟨d, hz2.1, ?_⟩) hw
    rw [hop]
    simp only [hxo]
    exact ⟨trivial, hst, by simp [Env.put, hvv]⟩
  ·have hgn := isAll_op hz3
   have hgB : guardB ao.guard t = true := by rw [hgn]; rfl
   have hz3' := hz3
   unfold isAll at hz3'
   split at hz3'
   case h_2 => cases hz3'
   rename_i ho' hop
   simp only [Bool.and_eq_true] at hz3'
   obtain ⟨⟨ha, hds⟩, _⟩ := hz3'
   obtain ⟨d, hd⟩ := Option.isSome_iff_exists.1 hds
   unfold opWp at hw
   rw [hgB, hop] at hw
   simp only [if_true, bodyWp, optWp] at hw
   split at hw
   case h_2 => exact hw.elim
   rename_i v S' hv
   obtain ⟨b, rfl, hbk, hv0⟩ := aheap_alloc ha hv
   rw [hd] at hw
   have hput : ∀ x, x ≠ d → (t.put (some d) v) x = t x := fun x hx => by simp only [Env.put, if_neg hx]
   have htd : (t.put (some d) v) d = v := by simp [Env.put]
   have hkid : ∀ id, id < S.next → (S.new b).blk id = S.blk id := fun id hi => by simp [St.new, Nat.ne_of_lt hi]
   have hfresh := hB.rel.fresh
   have hdb := lazy_dst (.inr hz3) hok hd
   have hlX : looksX ao = ao.looks := by
    unfold looksX
    rw [hop]
   have hlk := looks_op (o := ao) (t := t) (t' := t.put (some d) v) fun x hx => hput x fun e => hself d hd (by rw [hlX]; exact e ▸ hx)
   have hrel : Rel G.w0 m (S.new b) w := by
    refine ⟨hB.rel.below, fun j r hr => Nat.lt_succ_of_lt (hB.rel.dom j r hr), fun j c hc => ?_, fun j c r hc hr => ?_, fun j k c c' r r' hc hc' p q hr hr' => ?_⟩
    ·show j < S.next + 1
     by_cases hj : j = S.next
     ·omega
     ·simp [St.new, hj] at hc
      have := hB.rel.live j c hc
      omega
    all_goals
     have hne : ∀ {j r}, m j = some r → j ≠ S.next := fun hr e => by rw [e, hfresh] at hr; cases hr
    ·exact hB.rel.blk j c r (by simpa [St.new, hne hr] using hc) hr
    ·exact hB.rel.inj j k c c' r r' (by simpa [St.new, hne hr] using hc) (by simpa [St.new, hne hr'] using hc') p q hr hr'
   have hcl : ∀ B, ¬ Claimed S m B → ¬ Claimed (S.new b) m B := fun B hc ⟨j, c, r, h1, h2, h3, h4⟩ => hc ⟨j, c, r, by
    have : j ≠ S.next := fun e => by rw [e, hfresh] at h3; cases h3
    simpa [St.new, this] using h1, h2, h3, h4⟩
   refine ⟨t.put (some d) v, S.new b, close (fun x hx => hput x fun e => hx (e ▸ dst_changes hd)) (by simp [St.new]) (fun id c hc => by rw [hkid id (hB.rel.live id c hc)]; exact hc) hkid (.inr (.inr ⟨hz3, ho', d, S.next, b, hop, ha, hd, ?_, by simp [St.new], hfresh, by simp [St.new], hB.nx, by rw [htd]; exact hbk⟩)) (fun id hg => ?_), ?_, hw⟩
   ·rw [aheap_agree ha (fun x hx => hlk.1 x (by rw [hop]; exact hx)), htd]
    exact hv0
   ·unfold gid at hg
    rw [hop, hd] at hg
    simp only [ha, if_true, htd, hbk] at hg
    cases hg
    exact Nat.le_refl _
   ·refine ⟨hrel, hB.low, ⟨hB.frame.size, fun B hBl hc => ⟨(hB.frame.same B hBl hc).1, hcl B (hB.frame.same B hBl hc).2⟩, Nat.le_trans hB.frame.nx (by simp [St.new]), fun id hi hn => ⟨(hB.frame.ghost id hi hn).1, (hkid id (Nat.lt_of_lt_of_le hi hB.nx)).trans (hB.frame.ghost id hi hn).2⟩⟩, hB.le, Nat.le_trans hB.nx (by simp [St.new]), hB.defers, ?_⟩
    have he : BRel g.pm g.n (frOf listed es) G.w1.heap.size m t (S.new b) a w := by
     obtain ⟨h1, h2, loc, h3, h4, h5⟩ := hB.env
     exact ⟨h1, h2, loc, fun d cs hd hfr hb ht => by
      obtain ⟨g1, g2, g3, g4⟩ := h3 d cs hd hfr hb ht
      exact ⟨g1, g2, g3, hcl _ g4⟩, h4, h5⟩
    exact he.stale hdb (hfr1 hd) (fun x hbx hx => hfr2 hd x hx fun e => hdb x (e ▸ hbx) e) v
theorem countP_set {listed : Array Bool} {i : Nat} (h : listed.getD i true = false) : (listed.setIfInBounds i true).toList.countP (!·) + 1 = listed.toList.countP (!·) := by
 have key : ∀ (l : List Bool) (i : Nat), l[i]? = some false → (l.set i true).countP (!·) + 1 = l.countP (!·) := by
  intro l
  induction l with
  | nil => intro i h; simp at h
  | cons b l ih =>
   intro i h
   cases i with
   | zero => simp at h; subst h; simp
   | succ i =>
    simp at h
    have := ih i h
    simp only [List.set_cons_succ, List.countP_cons]
    omega
 have := key listed.toList i (by
  rcases Nat.lt_or_ge i listed.size with h' | h'
  ·simp [h'] at h ⊢; exact h
  ·simp [Array.getElem?_eq_none h'] at h)
 simpa using this
theorem no_false {listed : Array Bool} (h : listed.toList.countP (!·) ≤ 0) : Region.ready .any ops listed = [] := by
 apply List.eq_nil_iff_forall_not_mem.2
 intro i hi
 have := countP_set (mem_ready.1 hi).1
 omega
theorem drawTree_nil {fuel : Nat} {tr : ATree} (h : drawTree P g ops fuel X es = some tr) (hr : Region.ready .any ops X = []) : tr = .done := by
 cases fuel with
 | zero => unfold drawTree at h; simp [hr] at h; exact h.symm
 | succ fuel => unfold drawTree at h; simp [hr] at h; exact h.symm
theorem draw_sound {Q' : Exit → Act → World → Prop} {K : Env → St → Prop} (hL : Leaves G g K Q') : ∀ (k : Nat) (listed : Array Bool), listed.toList.countP (!·) ≤ k → ∀ (fuel : Nat) (X : Array Bool) (es : List Ent) {tr : ATree}, drawTree P g ops fuel X es = some tr → tr.ok g = true →
  ∀ {t : Env} {S : St} {a : Act} {w : World} {m : LMap}, Sim P g ops G.S0.next listed X es m t S → BSt G g.pm g.n (frOf listed es) m t S a w → treeWp P tr t S K → wpAny P .any ops Q' k listed a w := by
 intro k
 induction k with
 | zero =>
  intro listed hcnt fuel
  have hnil := no_false (ops := ops) hcnt
  induction fuel with
  | zero =>
   intro X es tr htr hok t S a w m hS hB h
   have hset := hS.settled hnil
   have hX : Region.ready .any ops X = [] := by
    cases hq : Region.ready .any ops X with
    | nil => rfl
    | cons i r => unfold drawTree at htr; simp [hq] at htr
   have := drawTree_nil htr hX
   subst this
   exact ⟨hnil, hL m t S a w (hB.weaken (fun x _ e he hl => by rw [hset e he] at hl; cases hl) fun _ _ _ => trivial) h⟩
  | succ fuel ih =>
   intro X es tr htr hok t S a w m hS hB h
   have hset := hS.settled hnil
   have hX : Region.ready .any ops X = [] := by
    apply List.eq_nil_iff_forall_not_mem.2
    intro i hi
    obtain ⟨h0, o, ho, hall⟩ := mem_ready.1 hi
    have : i ∈ Region.ready .any ops listed := by
     refine mem_ready.2 ⟨?_, o, ho, fun ed hed hb => ?_⟩
     ·have hlt : i < listed.size := by rw [hS.szl]; exact (Array.getElem?_eq_some_iff.1 ho).1
      have := (X_false hS (getD_false_of h0)).1
      simp [hlt] at this ⊢; exact this
     ·obtain ⟨e, he, hi'⟩ := (hS.mem _).1 (hall ed hed hb)
      rw [← hi']; exact hset e he
    rw [hnil] at this
    cases this
   have := drawTree_nil htr hX
   subst this
   exact ⟨hnil, hL m t S a w (hB.weaken (fun x _ e he hl => by rw [hset e he] at hl; cases hl) fun _ _ _ => trivial) h⟩
 | succ k ihk =>
  intro listed hcnt fuel
  induction fuel with
  | zero =>
   intro X es tr htr hok t S a w m hS hB h
   have hX : Region.ready .any ops X = [] := by
    cases hq : Region.ready .any ops X with
    | nil => rfl
    | cons i r => unfold drawTree at htr; simp [hq] at htr
   have hd := drawTree_nil htr hX
   subst hd
   refine ⟨fun hnil => ?_, fun i hi => ?_⟩
   ·have hset := hS.settled hnil
    exact hL m t S a w (hB.weaken (fun x _ e he hl => by rw [hset e he] at hl; cases hl) fun _ _ _ => trivial) h
   ·have hXi : X.getD i false = true := by
     cases hq : X.getD i false with
     | true => rfl
     | false => have := ready_sub hS hi hq; rw [hX] at this; cases this
    refine late_exec hS hB hi hXi fun m' a' w' hS' hB' => ?_
    exact ihk _ (by have := countP_set (mem_ready.1 hi).1; omega) 0 X es htr hok hS' hB' h
  | succ fuel ih =>
   intro X es tr htr hok t S a w m hS hB h
   cases hq : Region.ready .any ops X with
   | nil =>
    have hd := drawTree_nil htr hq
    subst hd
    refine ⟨fun hnil => ?_, fun i hi => ?_⟩
    ·have hset := hS.settled hnil
     exact hL m t S a w (hB.weaken (fun x _ e he hl => by rw [hset e he] at hl; cases hl) fun _ _ _ => trivial) h
    ·have hXi : X.getD i false = true := by
      cases hq' : X.getD i false with
      | true => rfl
      | false => have := ready_sub hS hi hq'; rw [hq] at this; cases this
     refine late_exec hS hB hi hXi fun m' a' w' hS' hB' => ?_
     exact ihk _ (by have := countP_set (mem_ready.1 hi).1; omega) (fuel + 1) X es htr hok hS' hB' h
   | cons j0 js =>
    have hne : Region.ready .any ops X ≠ [] := by rw [hq]; simp
    have htr' := htr
    unfold drawTree at htr
    rw [if_neg (by simpa using hne)] at htr
    split at htr
    ·rename_i i hfind
     have hsome := List.find?_some hfind
     have hmem := List.mem_of_find?_eq_some hfind
     split at htr
     case h_2 => cases htr
     rename_i o ho
     obtain ⟨ao, hao, htr⟩ := Option.bind_eq_some_iff.1 htr
     obtain ⟨r, hr, rfl⟩ := Option.map_eq_some_iff.1 htr
     rw [ho] at hsome
     simp only [hao, Bool.and_eq_true] at hsome
     obtain ⟨⟨hz, hself⟩, hlok⟩ := hsome
     have hok' : ao.ok g.pm g.n = true ∧ r.ok g = true := by simpa [ATree.ok] using hok
     obtain ⟨t', S', hS', hB', h'⟩ := eager hS hB hmem ho hao hok'.1 hz (fun d hd => by unfold selfOk at hself; rw [hd] at hself; simpa using hself) hlok h
     exact ih _ _ hr hok'.2 hS' hB' h'
    ·obtain ⟨ts, hts, rfl⟩ := Option.map_eq_some_iff.1 htr
     have hlen : ∀ (l : List Nat) (ts : List ATree), (l.mapM fun i => match ops[i]? with
       | some o => (compO P g.pm ops o).bind fun ao => if lateOk es (depsOf es o) ao false = true then
         (drawTree P g ops fuel (X.setIfInBounds i true) (⟨i, depsOf es o, ao, false⟩ :: es)).map fun r => ATree.op ao (chkIf (pendsOf es (depsOf es o) ao) r) else none
       | none => none) = some ts → (l ≠ [] → ts ≠ []) ∧ ∀ i ∈ l, ∃ o ao r, ops[i]? = some o ∧ compO P g.pm ops o = some ao ∧ lateOk es (depsOf es o) ao false = true ∧ drawTree P g ops fuel (X.setIfInBounds i true) (⟨i, depsOf es o, ao, false⟩ :: es) = some r ∧ ATree.op ao (chkIf (pendsOf es (depsOf es o) ao) r) ∈ ts := by
      intro l
      induction l with
      | nil => intro ts _; exact ⟨fun h => absurd rfl h, fun i hi => by simp at hi⟩
      | cons i l ihl =>
       intro ts h
       rw [List.mapM_cons] at h
       obtain ⟨x, hx, h⟩ := Option.bind_eq_some_iff.1 h
       obtain ⟨xs, hxs, h⟩ := Option.bind_eq_some_iff.1 h
       cases h
       refine ⟨fun _ => by simp, fun j hj => ?_⟩
       simp only [List.mem_cons] at hj
       rcases hj with rfl | hj
       ·split at hx
        case h_2 => cases hx
        rename_i o ho
        obtain ⟨ao, hao, hx⟩ := Option.bind_eq_some_iff.1 hx
        split at hx
        case isFalse => cases hx
        rename_i hlo
        obtain ⟨r, hr, rfl⟩ := Option.map_eq_some_iff.1 hx
        exact ⟨o, ao, r, ho, hao, hlo, hr, by simp⟩
       ·obtain ⟨o, ao, r, h1, h2, h3, h4, h5⟩ := (ihl xs hxs).2 j hj
        exact ⟨o, ao, r, h1, h2, h3, h4, by simp [h5]⟩
     obtain ⟨g1, g2⟩ := hlen _ ts hts
     refine ⟨fun hnil => ?_, fun i hi => ?_⟩
     ·exfalso
      have hset := hS.settled hnil
      obtain ⟨h0, o, ho, hall⟩ := mem_ready.1 (show j0 ∈ Region.ready .any ops X by rw [hq]; simp)
      have : j0 ∈ Region.ready .any ops listed := by
       refine mem_ready.2 ⟨?_, o, ho, fun ed hed hb => ?_⟩
       ·have hlt : j0 < listed.size := by rw [hS.szl]; exact (Array.getElem?_eq_some_iff.1 ho).1
        have := (X_false hS (getD_false_of h0)).1
        simp [hlt] at this ⊢; exact this
       ·obtain ⟨e, he, hi'⟩ := (hS.mem _).1 (hall ed hed hb)
        rw [← hi']; exact hset e he
      rw [hnil] at this
      cases this
     ·cases hXi : X.getD i false with
      | true =>
       refine late_exec hS hB hi hXi fun m' a' w' hS' hB' => ?_
       exact ihk _ (by have := countP_set (mem_ready.1 hi).1; omega) (fuel + 1) X es htr' hok hS' hB' h
      | false =>
       obtain ⟨o, ao, r, h1, h2, h3, h4, h5⟩ := g2 i (ready_sub hS hi hXi)
       have hb := treeWp_both h (g1 hne) _ h5
       have hokr := ok_both hok _ h5
       have hok' : ao.ok g.pm g.n = true ∧ (chkIf (pendsOf es (depsOf es o) ao) r).ok g = true := by simpa [ATree.ok] using hokr
       refine eff_exec hS hB hi hXi h1 h2 hok'.1 h3 hb fun m' t' S' a' w' hS' hB' hk => ?_
       exact ihk _ (by have := countP_set (mem_ready.1 hi).1; omega) fuel _ _ h4 (chkIf_ok hok'.2) hS' hB' hk
end
theorem Sim.start {ops : Array Oper} (lo : Nat) (m : LMap) (t : Env) (S : St) : Sim P g ops lo (Array.replicate ops.size false) (Array.replicate ops.size false) [] m t S := by
 have hf : ∀ i, (Array.replicate ops.size false).getD i false = false := fun i => by
  simp only [Array.getD_eq_getD_getElem?, Array.getElem?_replicate]
  split <;> rfl
 refine ⟨by simp, by simp, fun i hi => hi, fun i => ⟨fun hi => ?_, fun ⟨e, he, _⟩ => by simp at he⟩, trivial, fun e he => by simp at he, fun e he => by simp at he, fun e he => by simp at he⟩
 rw [hf i] at hi
 cases hi
theorem compL_nil (dst : Option Nat) (o : Op) : compL P [] dst o = none := by
 cases o <;> simp only [compL]
 case alloc => cases dst <;> simp [baseOf]
 case box => cases dst <;> simp [baseOf]
 case fieldAddr s x f => cases x <;> simp [baseOf]
 case nilCheck x => cases x <;> simp [baseOf]
 case move x => cases x <;> simp [baseOf]
 case assign x => cases x <;> simp [baseOf]
 case indexAddr t x i => cases x <;> simp [baseOf]
 case load t x => cases x <;> simp [baseOf]
 case store t x v => cases x <;> simp [baseOf]
theorem drawOld_sound {ops : Array Oper} {Q' : Exit → Act → World → Prop} (hpm : g.pm = []) (hQ : ∀ c a w, ¬ Q' (.panic c) a w) (hns : Region.noSelect ops = true) : ∀ (fuel : Nat) (listed : Array Bool) {tr : ATree}, drawOld P ops fuel listed = some tr → tr.ok g = true →
  ∀ {t : Env} {S : St} {a : Act} {w : World} {m : LMap} {K : Env → St → Prop}, Held G g m t S a w → treeWp P tr t S K → Leaves G g K Q' →
  wpAny P .any ops Q' fuel listed a w := by
 intro fuel
 induction fuel with
 | zero =>
  intro listed tr htr _ t S a w m K hB h hL
  unfold drawOld at htr
  split at htr
  ·rename_i hr
   cases htr
   exact wpAny_done (by simpa using hr) (hL m t S a w hB h) 0
  ·cases htr
 | succ fuel ih =>
  intro listed tr htr hok t S a w m K hB h hL
  unfold drawOld at htr
  split at htr
  ·rename_i hr
   cases htr
   exact wpAny_done (by simpa using hr) (hL m t S a w hB h) _
  ·rename_i hne
   split at htr
   ·rename_i i hfind
    have hsome := List.find?_some hfind
    have hmem := List.mem_of_find?_eq_some hfind
    simp only [Bool.and_eq_true] at hsome
    split at htr
    case h_2 => cases htr
    rename_i o hi
    obtain ⟨ao, hao, htr⟩ := Option.bind_eq_some_iff.1 htr
    obtain ⟨r, hr, rfl⟩ := Option.map_eq_some_iff.1 htr
    have hok' : ao.ok g.pm g.n = true ∧ r.ok g = true := by simpa [ATree.ok] using hok
    rw [← hpm] at hao
    obtain ⟨ha, hdst, hg, hops, hlast⟩ := compO_spec (fr := allFr) hao hok'.1 (fun _ _ => trivial)
    have hp : ∃ p, compP P o.op = some p := by
     have := hsome.1
     unfold pureAt at this
     rw [hi] at this
     exact Option.isSome_iff_exists.1 this
    obtain ⟨p, hp⟩ := hp
    have hap : ao.op = .p p := by
     unfold compA at ha
     rw [hpm, compL_nil, hp] at ha
     exact (Option.some.inj ha).symm
    have hw := wanted_rel (ops := ops) (o := o) hB.env hg
    rw [hap] at hlast
    simp only at hlast
    have hput : ∀ {v u : Value}, VRel m v u → Held G g m (t.put ao.dst v) S (a.put o.dst u) w := fun hv => by rw [hdst]; exact (hB.put m.le_refl hB.rel (.refl _ _ _) (Nat.le_refl _) hv hlast).weaken (fun _ _ => .inl trivial) fun _ _ _ => trivial
    have h' : opWp P ao t S fun t S => treeWp P r t S K := h
    unfold opWp at h'
    have take : ∀ {v u}, VRel m v u → Yields P ops o u a → treeWp P r (t.put ao.dst v) S K → wpAny P .any ops Q' (fuel + 1) listed a w := by
     intro v u hv hy hk
     exact wpAny_take hi hns hsome.2 (by simpa using hmem) (fun c a w hq => absurd hq (hQ c _ w)) hy (ih _ hr hok'.2 (hput hv) hk hL)
    cases hgb : guardB ao.guard t with
    | false =>
     rw [hgb] at h'
     simp only [Bool.false_eq_true, if_false] at h'
     exact take (.tuple rfl (fun i x y hx => by simp at hx)) (.inr ⟨by rw [hw, hgb], rfl⟩) h'
    | true =>
     rw [hgb, hap] at h'
     simp only [if_true] at h'
     simp only [bodyWp, optV] at h'
     split at h'
     case h_2 => exact h'.elim
     rename_i v hv
     have hsees : Sees m (ev t) a.eval p.operands := fun x hx => hB.env.ev (hops x (by rw [hap]; exact hx)).1 (hops x (by rw [hap]; exact hx)).2
     obtain ⟨u, hvu, hrun⟩ := pure_sound o (fun y c hy => by rw [hy]; rfl) hp hsees hv
     exact take hvu (.inl ⟨by rw [hw, hgb], hrun⟩) h'
   ·obtain ⟨ts, hts, rfl⟩ := Option.map_eq_some_iff.1 htr
    have hne' : Region.ready .any ops listed ≠ [] := by simpa using hne
    have hlen : ∀ (l : List Nat) (ts : List ATree), (l.mapM fun i => match ops[i]? with
      | some o => (compO P [] ops o).bind fun ao => (drawOld P ops fuel (listed.setIfInBounds i true)).map fun r => ATree.op ao r
      | none => none) = some ts → (l ≠ [] → ts ≠ []) ∧ ∀ i ∈ l, ∃ o ao r, ops[i]? = some o ∧ compO P [] ops o = some ao ∧ drawOld P ops fuel (listed.setIfInBounds i true) = some r ∧ ATree.op ao r ∈ ts := by
     intro l
     induction l with
     | nil => intro ts _; exact ⟨fun h => absurd rfl h, fun i hi => by simp at hi⟩
     | cons i l ihl =>
      intro ts h
      rw [List.mapM_cons] at h
      obtain ⟨x, hx, h⟩ := Option.bind_eq_some_iff.1 h
      obtain ⟨xs, hxs, h⟩ := Option.bind_eq_some_iff.1 h
      cases h
      refine ⟨fun _ => by simp, fun j hj => ?_⟩
      simp only [List.mem_cons] at hj
      rcases hj with rfl | hj
      ·split at hx
       case h_2 => cases hx
       rename_i o ho
       obtain ⟨ao, hao, hx⟩ := Option.bind_eq_some_iff.1 hx
       obtain ⟨r, hr, rfl⟩ := Option.map_eq_some_iff.1 hx
       exact ⟨o, ao, r, ho, hao, hr, by simp⟩
      ·obtain ⟨o, ao, r, h1, h2, h3, h4⟩ := (ihl xs hxs).2 j hj
       exact ⟨o, ao, r, h1, h2, h3, by simp [h4]⟩
    obtain ⟨g1, g2⟩ := hlen _ ts hts
    refine wpAny_all rfl hne' fun i hi => ?_
    obtain ⟨o, ao, r, h1, h2, h3, h4⟩ := g2 i hi
    have hb := treeWp_both h (g1 hne') _ h4
    have hokr := ok_both hok _ h4
    have hok' : ao.ok g.pm g.n = true ∧ r.ok g = true := by simpa [ATree.ok] using hokr
    rw [← hpm] at h2
    refine op_sound h1 h2 hok'.1 hB (fun _ _ => trivial) hb fun m' t' S' a' w' hB' _ hk => ?_
    exact ih _ h3 hok'.2 (hB'.weaken (fun _ _ => .inl trivial) fun _ _ _ => trivial) hk hL
/-- What holds of the machine where something holds of the abstract memory. -/
def Lift (G : Gd) (g : Cfg) (Q : Exit → Env → St → Prop) : Exit → Act → World → Prop := fun e a w =>
 (match e with | .panic _ => False | _ => True) ∧ ∃ m t S, Held G g m t S a w ∧ Q e t S
/-- The logic: code over the abstract memory. -/
def AWp (P : Program) (g : Cfg) (ac : ACode) (Q : Exit → Env → St → Prop) (t : Env) (S : St) : Prop :=
 P.follows .mixedOrders = true → ∀ c, compC P g c = some ac → ac.ok g = true →
  ∀ (G : Gd) (m : LMap) (w : World) (a : Act), Held G g m t S a w → c.wp P (Lift G g Q) a w
variable {Q : Exit → Env → St → Prop} {t : Env}
theorem Lift.no_panic (c : List PanicEntry) (a : Act) (w : World) : ¬ Lift G g Q (.panic c) a w := fun h => h.1
theorem compC_skip {c : Code} (h : compC P g c = some .skip) : c = .skip := by cases c <;> simp [compC, Option.bind_eq_some_iff] at h; rfl
theorem compC_exit {c : Code} {id : Nat} (h : compC P g c = some (.exit id)) : c = .exit id := by cases c <;> simp [compC, Option.bind_eq_some_iff] at h; rw [h]
theorem compC_ret {c : Code} (h : compC P g c = some .ret) : c = .ret := by cases c <;> simp [compC, Option.bind_eq_some_iff] at h; rfl
theorem compC_reg {c : Code} {tr : ATree} (h : compC P g c = some (.reg tr)) : ∃ id ops draw, c = .region id ops draw ∧ regTree P g ops draw = some tr := by
 cases c <;> simp [compC, Option.bind_eq_some_iff] at h
 exact ⟨_, _, _, rfl, h⟩
theorem compC_seq {c : Code} {x y : ACode} (h : compC P g c = some (.seq x y)) : ∃ a b, c = .seq a b ∧ compC P g a = some x ∧ compC P g b = some y := by
 cases c <;> simp [compC, Option.bind_eq_some_iff] at h
 obtain ⟨h1, h2⟩ := h
 exact ⟨_, _, rfl, h1, h2⟩
theorem compC_cond {c : Code} {e : Operand} {x y : ACode} (h : compC P g c = some (.cond e x y)) : ∃ a b, c = .cond e a b ∧ compC P g a = some x ∧ compC P g b = some y := by
 cases c <;> simp [compC, Option.bind_eq_some_iff] at h
 obtain ⟨_, h1, _, h2, rfl, rfl, rfl⟩ := h
 exact ⟨_, _, rfl, h1, h2⟩
theorem compC_block {c : Code} {id : Nat} {x : ACode} (h : compC P g c = some (.block id x)) : ∃ a, c = .block id a ∧ compC P g a = some x := by
 cases c <;> simp [compC, Option.bind_eq_some_iff] at h
 obtain ⟨h1, rfl⟩ := h
 exact ⟨_, rfl, h1⟩
theorem compC_loop {c : Code} {x : ACode} (h : compC P g c = some (.loop x)) : ∃ a, c = .loop a ∧ compC P g a = some x := by
 cases c <;> simp [compC, Option.bind_eq_some_iff] at h
 exact ⟨_, rfl, h⟩
theorem AWp.region {tr : ATree} (h : treeWp P tr t S (Q .normal)) : AWp P g (.reg tr) Q t S := by
 intro hm c hc hok G m w a hB
 obtain ⟨id, ops, draw, rfl, htr⟩ := compC_reg hc
 have hL : Leaves G g (Q .normal) (Lift G g Q) := fun m t S a w h1 h2 => ⟨trivial, m, t, S, h1, h2⟩
 have hdr : Held G g m t S a { w with drawn := w.drawn + 1 } := ⟨hB.rel.drew, hB.low, hB.frame.trans .drew, hB.le, hB.nx, hB.defers, hB.env.later m.le_refl .drew⟩
 unfold regTree at htr
 cases draw with
 | true =>
  simp only [if_true] at htr
  split at htr
  ·refine wp_region_any hm ?_
   refine draw_sound hL ops.size (Array.replicate ops.size false) (Nat.le_trans List.countP_le_length (by simp)) _ _ _ htr hok (Sim.start _ _ t S) (hdr.weaken (fun _ _ => trivial) fun d _ _ e he => by simp at he) h
  ·split at htr
   case isFalse => cases htr
   rename_i hns
   refine wp_region_any hm (drawOld_sound (by simpa using hns.1) Lift.no_panic hns.2 _ _ htr hok hdr h hL)
 | false =>
  simp only [Bool.false_eq_true, if_false] at htr
  refine wp_region ?_
  have := line_sound ops.toList 0 (ops := ops) (by intro j; simp) htr hok hB h hL
  rw [List.range_eq_range']
  simpa using this
theorem AWp.skip (h : Q .normal t S) : AWp P g .skip Q t S := by
 intro hm c hc hok G m w a hB
 obtain rfl := compC_skip hc
 exact wp_skip ⟨trivial, m, t, S, hB, h⟩
theorem AWp.exit {id : Nat} (h : Q (.exit id) t S) : AWp P g (.exit id) Q t S := by
 intro hm c hc hok G m w a hB
 obtain rfl := compC_exit hc
 exact wp_exit ⟨trivial, m, t, S, hB, h⟩
theorem AWp.ret (h : Q .ret t S) : AWp P g .ret Q t S := by
 intro hm c hc hok G m w a hB
 obtain rfl := compC_ret hc
 exact wp_ret ⟨trivial, m, t, S, hB, h⟩
def thenQ (K : Env → St → Prop) (Q : Exit → Env → St → Prop) : Exit → Env → St → Prop
 | .normal, t, S => K t S
 | e, t, S => Q e t S
theorem AWp.seq {x y : ACode} (h : AWp P g x (thenQ (AWp P g y Q) Q) t S) : AWp P g (.seq x y) Q t S := by
 intro hm c hc hok G m w a hB
 obtain ⟨c1, c2, rfl, hx, hy⟩ := compC_seq hc
 have hok' : x.ok g = true ∧ y.ok g = true := by simpa [ACode.ok] using hok
 refine wp_seq (wp_mono (h hm c1 hx hok'.1 G m w a hB) ?_)
 rintro e a' w' ⟨hp, m', t', S', hB', h6⟩
 cases e with
 | normal => exact h6 hm c2 hy hok'.2 G m' w' a' hB'
 | panic c => exact hp.elim
 | _ => exact ⟨trivial, m', t', S', hB', h6⟩
theorem AWp.cond {c : Operand} {x y : ACode} {b : Bool} (hb : ev t c = .bool b) (h : if b = true then AWp P g x Q t S else AWp P g y Q t S) : AWp P g (.cond c x y) Q t S := by
 intro hm cd hc hok G m w a hB
 obtain ⟨c1, c2, rfl, hx, hy⟩ := compC_cond hc
 have hok' : (opdOk g.pm g.n c = true ∧ x.ok g = true) ∧ y.ok g = true := by simpa [ACode.ok] using hok
 have hv := (hB.env.ev hok'.1.1 fun _ _ => trivial).of_bool hb
 refine wp_cond hv ?_
 cases b with
 | true => exact h hm c1 hx hok'.1.2 G m w a hB
 | false => exact h hm c2 hy hok'.2 G m w a hB
def inBlockQ (id : Nat) (Q : Exit → Env → St → Prop) : Exit → Env → St → Prop
 | .exit id', t, S => if id' = id then Q .normal t S else Q (.exit id') t S
 | e, t, S => Q e t S
theorem AWp.block {id : Nat} {x : ACode} (h : AWp P g x (inBlockQ id Q) t S) : AWp P g (.block id x) Q t S := by
 intro hm c hc hok G m w a hB
 obtain ⟨c1, rfl, hx⟩ := compC_block hc
 refine wp_block (wp_mono (h hm c1 hx hok G m w a hB) ?_)
 rintro e a' w' ⟨hp, m', t', S', hB', h6⟩
 cases e with
 | exit id' =>
  simp only [Exit.inBlock]
  simp only [inBlockQ] at h6
  split
  ·rename_i he'
   rw [if_pos he'] at h6
   exact ⟨trivial, m', t', S', hB', h6⟩
  ·rename_i he'
   rw [if_neg he'] at h6
   exact ⟨trivial, m', t', S', hB', h6⟩
 | panic c => exact hp.elim
 | _ => exact ⟨trivial, m', t', S', hB', h6⟩
/-- The logic at the head of a loop's round. -/
def AWpL (P : Program) (g : Cfg) (ac : ACode) (Q : Exit → Env → St → Prop) (t : Env) (S : St) : Prop :=
 P.follows .mixedOrders = true → ∀ c, compC P g c = some ac → ac.ok g = true →
  ∀ (G : Gd) (m : LMap) (w : World) (a : Act), Held G g m t S a w → ∀ b k cs, ∃ e a' w', Lift G g Q e a' w' ∧ Arrives P (lone (b.at a (.code c :: .inLoop c :: k)) cs w) b k cs e a' w'
theorem AWp.of_lp {x : ACode} (h : AWpL P g x Q t S) : AWp P g (.loop x) Q t S := by
 intro hm c hc hok G m w a hB
 obtain ⟨c1, rfl, hx⟩ := compC_loop hc
 intro b k cs
 obtain ⟨e, a', w', hq, harr⟩ := h hm c1 hx hok G m w a hB b k cs
 exact ⟨e, a', w', hq, .of_steps (.one step_loop) harr⟩
/-- One round. -/
theorem AWpL.unroll {x : ACode} (h : AWp P g x (thenQ (AWpL P g x Q) Q) t S) : AWpL P g x Q t S := by
 intro hm c1 hx hok G m w a hB b k cs
 obtain ⟨e, a2, w2, ⟨hp, m2, t2, S2, g2, g6⟩, harr⟩ := h hm c1 hx hok G m w a hB b (.inLoop c1 :: k) cs
 cases e with
 | normal =>
  obtain ⟨e, a', w', hq, harr'⟩ := g6 hm c1 hx hok G m2 w2 a2 g2 b k cs
  exact ⟨e, a', w', hq, .of_steps (Steps.trans harr (.one step_inLoop)) harr'⟩
 | panic c => exact hp.elim
 | exit id => exact ⟨_, a2, w2, ⟨trivial, m2, t2, S2, g2, g6⟩, .pass (x := .inLoop c1) rfl (fun _ _ => .inl (by simp)) harr⟩
 | goto l => exact ⟨_, a2, w2, ⟨trivial, m2, t2, S2, g2, g6⟩, .pass (x := .inLoop c1) rfl (fun _ _ => .inl (by simp)) harr⟩
 | ret => exact ⟨_, a2, w2, ⟨trivial, m2, t2, S2, g2, g6⟩, .pass (x := .inLoop c1) rfl (fun _ _ => .inl (by simp)) harr⟩
 | outgrown => exact ⟨_, a2, w2, ⟨trivial, m2, t2, S2, g2, g6⟩, .pass (x := .inLoop c1) rfl (fun _ _ => .inl (by simp)) harr⟩
theorem AWp.mono' {x : ACode} {Q' : Exit → Env → St → Prop} (h : AWp P g x Q t S) (hq : ∀ e t' S', Q e t' S' → Q' e t' S') : AWp P g x Q' t S := by
 intro hm c hc hok G m w a hB
 refine wp_mono (h hm c hc hok G m w a hB) ?_
 rintro e a' w' ⟨hp, m', t', S', hB', h6⟩
 exact ⟨hp, m', t', S', hB', hq _ _ _ h6⟩
/-- A loop: what holds at every round's head, and what each round lowers. -/
theorem AWpL.loop {x : ACode} (I : Env → St → Prop) (μ : Env → St → Nat)
  (round : ∀ t S, I t S → AWp P g x (thenQ (fun t' S' => I t' S' ∧ μ t' S' < μ t S) Q) t S) : ∀ (d : Nat) (t : Env) (S : St), μ t S = d → I t S → AWpL P g x Q t S := by
 intro d
 induction d using Nat.strongRecOn with
 | _ d ih =>
  intro t S hd hI
  refine AWpL.unroll ((round t S hI).mono' fun e t' S' hq => ?_)
  cases e with
  | normal => exact ih (μ t' S') (hd ▸ hq.2) t' S' rfl hq.1
  | _ => exact hq
theorem AWp.mono {x : ACode} {Q' : Exit → Env → St → Prop} (h : AWp P g x Q t S) (hq : ∀ e t' S', Q e t' S' → Q' e t' S') : AWp P g x Q' t S := by
 intro hm c hc hok G m w a hB
 refine wp_mono (h hm c hc hok G m w a hB) ?_
 rintro e a' w' ⟨hp, m', t', S', hB', h6⟩
 exact ⟨hp, m', t', S', hB', hq _ _ _ h6⟩
def condWp (v : Value) (A B : Prop) : Prop :=
 match v with
 | .bool r => if r = true then A else B
 | _ => False
/-- Code without loops is run; a loop is left as it stands. -/
def cwp (P : Program) (g : Cfg) : ACode → (Exit → Env → St → Prop) → Env → St → Prop
 | .skip, Q, t, S => Q .normal t S
 | .reg tr, Q, t, S => treeWp P tr t S (Q .normal)
 | .seq a b, Q, t, S => cwp P g a (thenQ (cwp P g b Q) Q) t S
 | .cond c a b, Q, t, S => condWp (ev t c) (cwp P g a Q t S) (cwp P g b Q t S)
 | .block id b, Q, t, S => cwp P g b (inBlockQ id Q) t S
 | .loop b, Q, t, S => AWpL P g b Q t S
 | .exit id, Q, t, S => Q (.exit id) t S
 | .ret, Q, t, S => Q .ret t S
theorem AWp.of_cwp : ∀ (c : ACode) {Q : Exit → Env → St → Prop} {t : Env} {S : St}, cwp P g c Q t S → AWp P g c Q t S
 | .skip, _, _, _, h => .skip h
 | .reg _, _, _, _, h => .region h
 | .seq a b, Q, _, _, h => .seq ((AWp.of_cwp a h).mono fun e t S hq => by
   cases e with
   | normal => exact AWp.of_cwp b hq
   | _ => exact hq)
 | .cond c a b, _, t, _, h => by
  simp only [cwp, condWp] at h
  split at h
  case h_2 => exact h.elim
  rename_i r hr
  refine .cond hr ?_
  cases r with
  | true => exact AWp.of_cwp a h
  | false => exact AWp.of_cwp b h
 | .block _ b, _, _, _, h => .block (AWp.of_cwp b h)
 | .loop _, _, _, _, h => .of_lp h
 | .exit _, _, _, _, h => .exit h
 | .ret, _, _, _, h => .ret h
/-! ### functions -/
inductive ARes where
 | tmp (t : Nat)
 | cell (t sz : Nat) (agg : Bool)
 | lcell (t sz : Nat) (agg : Bool)
structure AFun where
 cfg : Cfg
 results : List ARes
 body : ACode
def compR (P : Program) (pm : PM) : ResultVar → Option ARes
 | .tmp t => some (.tmp t)
 | .cell a ty => (szT P ty).bind fun sz => (aggT P ty).map fun ag => if (baseOf pm a).isSome = true then .lcell a sz ag else .cell a sz ag
def AFun.ntmps (f : AFun) : Nat := f.cfg.n
def compF (P : Program) (pm : PM) (lz : Bool) (fn : Func) : Option AFun :=
 fn.body.bind fun c => (compC P ⟨fn.ntmps, pm, lz⟩ c).bind fun ac => (fn.results.toList.mapM (compR P pm)).map fun rs => ⟨⟨fn.ntmps, pm, lz⟩, rs, ac⟩
def ARes.ok (g : Cfg) : ARes → Bool
 | .tmp t => decide (t < g.n) && (baseOf g.pm t).isNone
 | .cell t _ _ => decide (t < g.n) && (baseOf g.pm t).isNone
 | .lcell t _ _ => decide (t < g.n) && baseOf g.pm t == some t
/-- Are that many places the arguments' alone? -/
def AFun.free (f : AFun) (k : Nat) : Bool := Nat.ble k f.cfg.n && f.cfg.pm.all fun e => Nat.ble k e.1 && e.2.2.all (Nat.ble k)
def AFun.ok (f : AFun) : Bool := f.body.ok f.cfg && f.results.all (·.ok f.cfg)
def resVal (t : Env) (S : St) : ARes → Option Value
 | .tmp i => some (t i)
 | .cell i sz ag => match t i with
  | .pointer (some ⟨id, o, none⟩) => ldv S ag id o sz
  | _ => none
 | .lcell i sz ag => lloadV (t i) (some 0) sz ag
def resVals (t : Env) (S : St) : List ARes → Option (List Value)
 | [] => some []
 | r :: rs => (resVal t S r).bind fun v => (resVals t S rs).map fun vs => v :: vs
def oneOr : List Value → Value
 | [v] => v
 | vs => .tuple vs.toArray
def bodyQ (rs : List ARes) (R : Value → St → Prop) : Exit → Env → St → Prop
 | .normal, t, S => match resVals t S rs with
  | some vs => R (oneOr vs) S
  | none => False
 | .ret, t, S => match resVals t S rs with
  | some vs => R (oneOr vs) S
  | none => False
 | _, _, _ => False
def entry (args : List Value) : Env := fun i => args.getD i undef
theorem results_sound {fn : Func} {rs : List ARes} (hrs : fn.results.toList.mapM (compR P g.pm) = some rs) (hok : rs.all (·.ok g) = true) (hB : Held G g m t S a w)
  {vs : List Value} (hv : resVals t S rs = some vs) : ∃ u, (results fn a.tmps).run P w = .ok u w ∧ VRel m (oneOr vs) u := by
 have key : ∀ (l : List ResultVar) (rs : List ARes), l.mapM (compR P g.pm) = some rs → rs.all (·.ok g) = true → ∀ {vs}, resVals t S rs = some vs → ∃ us, LRel m vs us ∧
   (l.mapM (fun | .tmp t => pure (a.tmps.getD t undef) | .cell ad ty => do loadVar ty (← asAddr (a.tmps.getD ad undef))) : Sem (List Value)).run P w = .ok us w := by
  intro l
  induction l with
  | nil => intro rs h _ vs hv; simp at h; subst h; simp [resVals] at hv; subst hv; exact ⟨[], .nil m, rfl⟩
  | cons x l ih =>
   intro rs h hok vs hv
   rw [List.mapM_cons] at h
   obtain ⟨r, hr, h⟩ := Option.bind_eq_some_iff.1 h
   obtain ⟨rs', hrs', h⟩ := Option.bind_eq_some_iff.1 h
   cases h
   simp only [List.all_cons, Bool.and_eq_true] at hok
   simp only [resVals] at hv
   obtain ⟨v, hv1, hv⟩ := Option.bind_eq_some_iff.1 hv
   obtain ⟨vs', hvs', rfl⟩ := Option.map_eq_some_iff.1 hv
   obtain ⟨us, hus, hrun⟩ := ih rs' hrs' hok.2 hvs'
   cases x with
   | tmp i =>
    cases hr
    cases hv1
    have hi : i < g.n ∧ baseOf g.pm i = none := by simpa [ARes.ok] using hok.1
    refine ⟨_, .cons (hB.env.plain i hi.1 trivial hi.2) hus, ?_⟩
    rw [List.mapM_cons]
    simp only [Sem.run_bind, Sem.run_pure, Result.andThen_ok, hrun]
   | cell ad ty =>
    simp only [compR] at hr
    obtain ⟨sz, hsz, hr⟩ := Option.bind_eq_some_iff.1 hr
    obtain ⟨ag, hag, rfl⟩ := Option.map_eq_some_iff.1 hr
    have fin : ∀ (B o : Nat) (u : Value), a.tmps.getD ad undef = .pointer (some ⟨B, o, none⟩) → VRel m v u → (loadVar ty ⟨B, o, none⟩).run P w = .ok u w → ∃ us, LRel m (v :: vs') us ∧
      ((ResultVar.cell ad ty :: l).mapM (fun | .tmp t => pure (a.tmps.getD t undef) | .cell ad ty => do loadVar ty (← asAddr (a.tmps.getD ad undef))) : Sem (List Value)).run P w = .ok us w := by
     intro B o u hp hvu hld
     refine ⟨_, .cons hvu hus, ?_⟩
     rw [List.mapM_cons]
     have h1 : asAddr (a.tmps.getD ad undef) = pure ⟨B, o, none⟩ := by rw [hp]; rfl
     simp only [Sem.run_bind, h1, Sem.run_pure, Result.andThen_ok, hld, hrun]
    cases hbb : baseOf g.pm ad with
    | none =>
     rw [hbb] at hv1 hok
     simp only [Option.isSome_none, Bool.false_eq_true, if_false] at hv1 hok
     have hi : ad < g.n := by have := hok.1; simp [ARes.ok] at this; exact this.1
     simp only [resVal] at hv1
     split at hv1
     case h_2 => cases hv1
     rename_i id o hp
     have hrel := hB.env.plain ad hi trivial hbb
     obtain ⟨r, hr, hu⟩ := hrel.of_ptr hp
     obtain ⟨u, hvu, hld⟩ := ldv_rel (P := P) hB.rel hsz hag hv1 hr
     exact fin _ _ u hu hvu hld
    | some b =>
     rw [hbb] at hv1 hok
     simp only [Option.isSome_some, if_true] at hv1 hok
     have hi : ad < g.n ∧ baseOf g.pm ad = some ad := by simpa [ARes.ok] using hok.1
     simp only [resVal, lloadV] at hv1
     split at hv1
     case h_2 => cases hv1
     rename_i cs o hal ho
     cases ho
     unfold aliveV at hal
     split at hal
     case h_2 => cases hal
     rename_i cs hp
     cases hal
     obtain ⟨loc, h3, _⟩ := hB.env.locs
     obtain ⟨q1, q2, _⟩ := h3 ad cs hi.1 trivial hi.2 hp
     obtain ⟨u, hvu, hld⟩ := q2.load (P := P) hsz hag hv1
     exact fin _ _ u q1 hvu hld
 obtain ⟨us, hus, hrun⟩ := key _ rs hrs hok hv
 have hres : (results fn a.tmps).run P w = .ok (if h : us.toArray.size = 1 then us.toArray[0] else .tuple us.toArray) w := by
  unfold results
  rw [Array.mapM_eq_mapM_toList]
  simp only [Sem.run_bind, Sem.run_map, Sem.run_pure]
  exact congrArg (fun r : Result (List Value) => (r.andThen fun a w' => Result.ok a.toArray w').andThen fun a w' => Result.ok (if h : a.size = 1 then a[0] else Value.tuple a) w') hrun
 refine ⟨_, hres, ?_⟩
 cases vs with
 | nil =>
  have : us = [] := List.eq_nil_of_length_eq_zero (by have := hus.1; simpa using this.symm)
  subst this
  exact .tuple rfl (fun i x y hx => by simp at hx)
 | cons v vs =>
  cases us with
  | nil => have := hus.1; simp at this
  | cons u us =>
   cases vs with
   | nil =>
    have : us = [] := List.eq_nil_of_length_eq_zero (by have := hus.1; simpa using this.symm)
    subst this
    simpa [oneOr] using hus.2 0 v u rfl rfl
   | cons v' vs =>
    cases us with
    | nil => have := hus.1; simp at this
    | cons u' us =>
     have hne : ¬ ((u :: u' :: us).toArray.size = 1) := by simp
     rw [dif_neg hne]
     have := ARel.of_list hus
     exact .tuple this.1 this.2
theorem baseOf_mem {pm : PM} {i d : Nat} (h : baseOf pm i = some d) : ∃ e ∈ pm, i = e.1 ∨ e.2.2.contains i = true := by
 induction pm with
 | nil => cases h
 | cons e r ih =>
  obtain ⟨d', ag, es⟩ := e
  unfold baseOf at h
  split at h
  ·rename_i hc
   simp only [Bool.or_eq_true, beq_iff_eq] at hc
   exact ⟨_, List.mem_cons_self, hc⟩
  ·obtain ⟨e, he, h1⟩ := ih h
   exact ⟨e, List.mem_cons_of_mem _ he, h1⟩
theorem AFun.free_spec {f : AFun} {k : Nat} (h : f.free k = true) : k ≤ f.cfg.n ∧ ∀ i d, baseOf f.cfg.pm i = some d → k ≤ i := by
 unfold AFun.free at h
 simp only [Bool.and_eq_true, List.all_eq_true, Nat.ble_eq] at h
 refine ⟨h.1, fun i d hb => ?_⟩
 obtain ⟨e, he, hc⟩ := baseOf_mem hb
 obtain ⟨h1, h2⟩ := h.2 e he
 rcases hc with rfl | hc
 ·exact h1
 ·exact h2 i (by simpa using hc)
/-- A call by its function's code. -/
theorem ACalls.of_body {f : FuncId} {fn : Func} {af : AFun} {args : List Value} {R : Value → St → Prop} (hm : P.follows .mixedOrders = true) (hf : P.funcs[f]? = some fn) (hc : compF P af.cfg.pm af.cfg.lz fn = some af) (hok : af.ok = true) (hl : af.free args.length = true)
  (h : AWp P af.cfg af.body (bodyQ af.results R) (entry args) S) : ACalls P f args S R := by
 intro w0 m w cargs hR hargs
 unfold compF at hc
 obtain ⟨c, hb, hc⟩ := Option.bind_eq_some_iff.1 hc
 obtain ⟨ac, hac, hc⟩ := Option.bind_eq_some_iff.1 hc
 obtain ⟨rs, hrs, haf⟩ := Option.map_eq_some_iff.1 hc
 obtain ⟨cfg, results', body⟩ := af
 obtain ⟨n, pm, lz⟩ := cfg
 simp only [AFun.mk.injEq, Cfg.mk.injEq] at haf hac
 obtain ⟨⟨rfl, -, -⟩, rfl, rfl⟩ := haf
 simp only [AFun.ok, Bool.and_eq_true] at hok
 simp only at h
 obtain ⟨hln, hfree⟩ := AFun.free_spec hl
 simp only at hln hfree
 have hsz : (cargs.toArray ++ Array.replicate (fn.ntmps - cargs.length) undef).size = fn.ntmps := by
  have := hargs.1; simp; omega
 have hval : ∀ i, i < fn.ntmps → VRel m (entry args i) ((cargs.toArray ++ Array.replicate (fn.ntmps - cargs.length) undef).getD i undef) := fun i hi => by
  unfold entry
  rw [Array.getD_eq_getD_getElem?, Array.getElem?_append]
  by_cases h1 : i < args.length
  ·have h2 : i < cargs.length := by rw [← hargs.1]; exact h1
   have := hargs.2 i _ _ (List.getElem?_eq_getElem h1) (List.getElem?_eq_getElem h2)
   simpa [h2, List.getD, h1] using this
  ·have h2 : ¬ i < cargs.length := by rw [← hargs.1]; exact h1
   have e1 : args.getD i undef = undef := by simp [List.getD, List.getElem?_eq_none (Nat.le_of_not_lt h1)]
   rw [e1]
   simp only [List.size_toArray, if_neg h2, Array.getElem?_replicate]
   have : (if i - cargs.length < fn.ntmps - cargs.length then some undef else none).getD undef = undef := by split <;> rfl
   rw [this]
   exact .tuple rfl (fun i x y hx => by simp at hx)
 have hund : ∀ i d, baseOf pm i = some d → entry args i = undef := fun i d hb => by
  have := hfree i d hb
  unfold entry
  simp [List.getD, List.getElem?_eq_none this]
 refine calls_of_wp hf hb (wp_mono (h hm c hac hok.1 ⟨w0, S, m, w⟩ m w _ ⟨hR, hR.below.size, .refl _ _ _, m.le_refl, Nat.le_refl _, rfl, by simpa using hsz, fun i hi _ _ => by simpa using hval i hi, fun _ => 0, fun d cs hd _ hb ht => (by rw [hund d _ hb] at ht; cases ht), fun d e cs ds hd _ _ _ hb _ ht => (by rw [hund d _ hb] at ht; cases ht), fun i d k o hi _ hb hid ht => (by rw [hund i _ hb] at ht; cases ht)⟩) ?_)
 rintro e a' w' ⟨hp, m', t', S', hB', h6⟩
 have fin : (match resVals t' S' rs with | some vs => R (oneOr vs) S' | none => False) → a'.defers = [] ∧ ∃ v, (results fn a'.tmps).run P w' = .ok v w' ∧
   ∃ m' v' u S', m.le m' ∧ Rel w0 m' S' w' ∧ Frame S m w S' m' w' ∧ S.next ≤ S'.next ∧ VRel m' v' u ∧ Ending.returned v = .returned u ∧ R v' S' := by
  intro h6
  split at h6
  case h_2 => exact h6.elim
  rename_i vs hvs
  obtain ⟨u, hu, hvu⟩ := results_sound hrs hok.2 hB' hvs
  exact ⟨hB'.defers, u, hu, m', _, u, S', hB'.le, hB'.rel, hB'.frame, hB'.nx, hvu, rfl, h6⟩
 cases e with
 | normal => exact fin h6
 | ret => exact fin h6
 | panic c => exact hp.elim
 | exit id => exact h6.elim
 | goto l => exact h6.elim
 | outgrown => exact h6.elim
end
end Go.Proofs.YtegaklgjcicnfaaGreat.Abs
