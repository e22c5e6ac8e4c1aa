/- The code, compiled; the logic over it; calls. -/
import Derived.Test.YtbgnaeagdneikaaCoreAg
namespace Go.Proofs.Ytbgnaeagdneikaa.Abs
open Go Go.RowKit

section
variable {P : Program} {m : LMap} {ρ ρ' : Operand → Value} {w0 w : World} {S : St}

theorem heap_sound (o : Oper) {ho : HO} (hc : compH P o.op = some ho) (hR : Rel w0 m S w) (hs : Sees m ρ ρ' ho.operands) {v : Value} {S' : St} (hv : aheap ρ S ho = some (v, S')) : Does P w0 m S w ρ' o v S' := by
  obtain ⟨dst, op, type, pos, after, guard⟩ := o
  simp only at hc
  cases op
  case load => exact does_load hc hR hs hv
  case store => exact does_store hc hR hs hv
  case box => exact does_box hc hR hs hv
  case alloc => exact does_alloc hc hR hv
  case buildSlice => exact does_buildSlice hc hR hs hv
  case makeSlice => exact does_makeSlice hc hR hs hv
  case convert => exact does_b2s hc hR hs hv
  case call c =>
    obtain ⟨callee, args, ats⟩ := c
    cases callee with
    | builtin b => cases b <;> first | (cases hc; done) | exact does_append (c := ⟨.builtin .append, args, ats⟩) rfl hc hR hs hv
    | value f => cases hc
    | invoke r n => cases hc
  all_goals (cases hc)

/-! ### calls -/
/-- A call over the abstract memory: it returns, and what is told holds of the value and the memory behind it. -/
def ACalls (P : Program) (f : FuncId) (args : List Value) (S : St) (R : Value → St → Prop) : Prop :=
  ∀ (w0 : World) (m : LMap) (w : World) (cargs : List Value), Rel w0 m S w → LRel m args cargs →
    Calls P f cargs.toArray w fun e w' => ∃ m' v u S', m.le m' ∧ Rel w0 m' S' w' ∧ S.next ≤ S'.next ∧ VRel m' v u ∧ e = .returned u ∧ R v S'

theorem ACalls.mono {f : FuncId} {args : List Value} {R R' : Value → St → Prop} (h : ACalls P f args S R) (hr : ∀ v S', S.next ≤ S'.next → R v S' → R' v S') : ACalls P f args S R' :=
  fun w0 m w cargs a b => (h w0 m w cargs a b).mono fun _ _ ⟨m', v, u, S', h1, h2, h3, h4, h5, h6⟩ => ⟨m', v, u, S', h1, h2, h3, h4, h5, hr _ _ h3 h6⟩

structure AOper where
  dst : Option Nat
  op : AOp
  guard : Option (Nat × Bool)

def AOp.operands : AOp → List Operand
  | .p o => o.operands
  | .h o => o.operands
  | .call _ args => args
  | .callv x args => x :: args
  | .bad => []

def AOper.ok (n : Nat) (o : AOper) : Bool :=
  o.op.operands.all (opdOk n) && (match o.guard with | some (d, _) => decide (d < n) | none => true)

def guardB (g : Option (Nat × Bool)) (t : Env) : Bool :=
  match g with
  | none => true
  | some (d, want) => match t d with
    | .bool b => b == want
    | _ => false

def optV (o : Option Value) (K : Value → Prop) : Prop :=
  match o with
  | some v => K v
  | none => False

def optWp (o : Option (Value × St)) (K : Value → St → Prop) : Prop :=
  match o with
  | some (v, S) => K v S
  | none => False

def bodyWp (P : Program) (o : AOp) (t : Env) (S : St) (K : Value → St → Prop) : Prop :=
  match o with
  | .p o => optV (apure (ev t) o) fun v => K v S
  | .h o => optWp (aheap (ev t) S o) K
  | .call f args => ACalls P f (args.map (ev t)) S K
  | .callv x args => match ev t x with
    | .func (.func f) first captured => enters P f = true ∧ ACalls P f (first.toList ++ args.map (ev t) ++ captured.toList) S K
    | _ => False
  | .bad => False

def opWp (P : Program) (o : AOper) (t : Env) (S : St) (K : Env → St → Prop) : Prop :=
  if guardB o.guard t = true then bodyWp P o.op t S (fun v S' => K (t.put o.dst v) S') else K (t.put o.dst undef) S

def compCallA (P : Program) : Op → Option AOp
  | .call c => match c.callee with
    | .value (.func f) => if enters P f = true then some (.call f c.args.toList) else none
    | .value x => some (.callv x c.args.toList)
    | _ => none
  | _ => none

def compA (P : Program) (o : Op) : Option AOp :=
  match compP P o with
  | some p => some (.p p)
  | none => match compH P o with
    | some h => some (.h h)
    | none => match compCallA P o with
      | some c => some c
      | none => some .bad

def compO (P : Program) (ops : Array Oper) (o : Oper) : Option AOper :=
  (compA P o.op).bind fun a => match o.guard with
    | none => some ⟨o.dst, a, none⟩
    | some (j, want) => ((ops[j]?).bind (·.dst)).map fun d => ⟨o.dst, a, some (d, want)⟩

/-- What holds of the machine where something holds of the abstract memory. -/
def Lift (w0 : World) (m : LMap) (nx n : Nat) (Q : Exit → Env → St → Prop) : Exit → Act → World → Prop := fun e a w =>
  (match e with | .panic _ => False | _ => True) ∧ ∃ m' t S, m.le m' ∧ Rel w0 m' S w ∧ nx ≤ S.next ∧ EnvRel m' n t a ∧ a.defers = [] ∧ Q e t S

theorem wanted_rel {ops : Array Oper} {o : Oper} {g : Option (Nat × Bool)} {n : Nat} {t : Env} {a : Act} (he : EnvRel m n t a)
    (hg : (o.guard = none ∧ g = none) ∨ ∃ j want d, o.guard = some (j, want) ∧ (ops[j]?).bind (·.dst) = some d ∧ g = some (d, want) ∧ d < n) :
    Region.wanted o (yielded ops a.tmps) = guardB g t := by
  rcases hg with ⟨h1, rfl⟩ | ⟨j, want, d, h1, h2, rfl, hd⟩
  · simp [Region.wanted, h1, guardB]
  · simp only [Region.wanted, h1, guardB]
    have hv := he.2 d hd
    have hlt : d < a.tmps.size := by rw [he.1]; exact hd
    unfold yielded
    rw [h2]
    simp only [Option.bind_some, Array.getElem?_eq_getElem hlt]
    have : a.tmps.getD d undef = a.tmps[d] := by simp [hlt]
    rw [this] at hv
    generalize a.tmps[d] = u at hv
    generalize t d = v at hv
    cases hv <;> first | rfl | (simp only []; cases want <;> rename_i b <;> cases b <;> rfl)

theorem compO_spec {ops : Array Oper} {o : Oper} {ao : AOper} {n : Nat} (h : compO P ops o = some ao) (hok : ao.ok n = true) :
    compA P o.op = some ao.op ∧ o.dst = ao.dst ∧ ((o.guard = none ∧ ao.guard = none) ∨ ∃ j want d, o.guard = some (j, want) ∧ (ops[j]?).bind (·.dst) = some d ∧ ao.guard = some (d, want) ∧ d < n) ∧ ∀ x ∈ ao.op.operands, opdOk n x = true := by
  unfold compO at h
  obtain ⟨a, ha, h⟩ := Option.bind_eq_some_iff.1 h
  unfold AOper.ok at hok
  simp only [Bool.and_eq_true, List.all_eq_true] at hok
  cases hg : o.guard with
  | none =>
    rw [hg] at h
    cases h
    exact ⟨ha, rfl, .inl ⟨rfl, rfl⟩, hok.1⟩
  | some jw =>
    obtain ⟨j, want⟩ := jw
    rw [hg] at h
    obtain ⟨d, hd, rfl⟩ := Option.map_eq_some_iff.1 h
    exact ⟨ha, rfl, .inr ⟨j, want, d, rfl, hd, rfl, by simpa using hok.2⟩, hok.1⟩

theorem run_enter {f : FuncId} (h : enters P f = true) (args : Array Value) (w : World) : (callFunc f args).run P w = .ok (.enter f args) w := by
  unfold enters at h
  split at h
  case h_2 => cases h
  rename_i fn hf
  simp only [Bool.and_eq_true, bne_iff_ne, ne_eq] at h
  obtain ⟨b, hb⟩ := Option.isSome_iff_exists.1 h.2
  simp [callFunc, hf, h.1, hb]

theorem LRel.map_ev {n : Nat} {t : Env} {a : Act} (he : EnvRel m n t a) {xs : List Operand} (h : ∀ x ∈ xs, opdOk n x = true) : LRel m (xs.map (ev t)) (xs.map a.eval) := by
  induction xs with
  | nil => exact .nil m
  | cons x xs ih => exact .cons (he.ev (h x (by simp))) (ih fun y hy => h y (by simp [hy]))

/-- One operation. -/
theorem op_sound {ops : Array Oper} {i : Nat} {o : Oper} {ao : AOper} {n : Nat} (hi : ops[i]? = some o) (hc : compO P ops o = some ao) (hok : ao.ok n = true)
    {t : Env} {a : Act} {K : Env → St → Prop} {K' : Act → World → Prop} {Q' : Exit → Act → World → Prop} (hR : Rel w0 m S w) (he : EnvRel m n t a) (hd : a.defers = [])
    (h : opWp P ao t S K)
    (hK : ∀ m' t' S' a' w', m.le m' → Rel w0 m' S' w' → S.next ≤ S'.next → EnvRel m' n t' a' → a'.defers = [] → K t' S' → K' a' w') : wpOp P ops Q' i K' a w := by
  obtain ⟨ha, hdst, hg, hops⟩ := compO_spec hc hok
  have hw := wanted_rel (ops := ops) (o := o) he hg
  have hput : ∀ {m' : LMap} {v u : Value}, m.le m' → VRel m' v u → EnvRel m' n (t.put ao.dst v) (a.put o.dst u) := by
    intro m' v u hm hv
    rw [← hdst]
    exact (he.mono hm).put hv o.dst
  have hdp : ∀ u, (a.put o.dst u).defers = [] := by intro u; cases hh : o.dst <;> simp [Act.put, hd]
  have hsees : Sees m (ev t) a.eval ao.op.operands := fun x hx => he.ev (hops x hx)
  unfold wpOp
  simp only [hi, hw]
  unfold opWp at h
  cases hgb : guardB ao.guard t with
  | false =>
    simp only [hgb, Bool.false_eq_true, if_false] at h ⊢
    exact hK m _ S _ w m.le_refl hR (Nat.le_refl _) (hput m.le_refl (.tuple rfl (fun i x y hx => by simp at hx))) (hdp _) h
  | true =>
    simp only [hgb, if_true] at h ⊢
    refine .inl ?_
    unfold Oper.wp
    unfold bodyWp at h
    unfold compA at ha
    cases hp : compP P o.op with
    | some p =>
      rw [hp] at ha
      simp only [Option.some.injEq] at ha
      rw [← ha] at h hsees
      simp only [optV] at h
      split at h
      case h_2 => exact h.elim
      rename_i v hv
      obtain ⟨u, hvu, hrun⟩ := pure_sound o (fun y c hy => by rw [hy]; rfl) hp hsees hv
      rw [hrun w]
      exact hK m _ S _ w m.le_refl hR (Nat.le_refl _) (hput m.le_refl hvu) (hdp _) h
    | none =>
      rw [hp] at ha
      simp only at ha
      cases hh : compH P o.op with
      | some ho =>
        rw [hh] at ha
        simp only [Option.some.injEq] at ha
        rw [← ha] at h hsees
        simp only [optWp] at h
        split at h
        case h_2 => exact h.elim
        rename_i v S' hv
        obtain ⟨m', u, w', hm, hR', hn, hvu, hrun | ⟨hrun, rfl⟩⟩ := heap_sound o hh hR hsees hv
        · rw [hrun]
          exact hK m' _ S' _ w' hm hR' hn (hput hm hvu) (hdp _) h
        · rw [hrun]
          exact hK m' _ S' _ w' hm hR' hn (hput hm hvu) (hdp _) h
      | none =>
        rw [hh] at ha
        simp only at ha
        cases h3 : compCallA P o.op with
        | none =>
          rw [h3] at ha
          simp only [Option.some.injEq] at ha
          rw [← ha] at h
          exact h.elim
        | some c0 =>
        rw [h3] at ha
        simp only [Option.some.injEq] at ha
        subst ha
        have ha := h3
        unfold compCallA at ha
        split at ha
        case h_2 => cases ha
        rename_i c hop
        have hfin : ∀ (f : FuncId) (args : List Value) (cargs : List Value), LRel m args cargs → (execOp a.eval o).run P w = .ok (.enter f cargs.toArray) w → ACalls P f args S (fun v S' => K (t.put ao.dst v) S') →
            o.upon P a K' Q' ((execOp a.eval o).run P w) := by
          intro f args cargs hl hrun hcall
          rw [hrun, Oper.upon_enter]
          refine (hcall w0 m w cargs hR hl).mono ?_
          rintro e w' ⟨m', v, u, S', hm, hR', hn, hvu, rfl, hk⟩
          exact hK m' _ S' _ w' hm hR' hn (hput hm hvu) (hdp _) hk
        split at ha
        · rename_i f hcal
          split at ha
          case isFalse => cases ha
          rename_i hent
          cases hao : ao.op with
          | call f' args' =>
            rw [hao] at ha h hops
            simp only [Option.some.injEq, AOp.call.injEq] at ha
            obtain ⟨rfl, rfl⟩ := ha
            refine hfin f _ _ (LRel.map_ev (xs := c.args.toList) he (fun x hx => hops x hx)) ?_ h
            have : execOp a.eval o = (do let d ← resolve a.eval c o.type; invoke d.target d.args) := by unfold execOp; rw [hop]
            rw [this]
            have h1 : (a.eval (.func f)) = .func (.func f) #[] #[] := rfl
            simp only [resolve, hcal, h1, Deferred.ofValue, Sem.run_bind, Sem.run_pure, Result.andThen_ok, invoke, run_enter hent]
            congr 2
            apply Array.ext'
            simp
          | _ => rw [hao] at ha; simp at ha
        · rename_i x hx hcal
          cases hao : ao.op with
          | callv x' args' =>
            rw [hao] at ha h hops
            simp only [Option.some.injEq, AOp.callv.injEq] at ha
            obtain ⟨rfl, rfl⟩ := ha
            simp only at h
            split at h
            case h_2 => exact h.elim
            rename_i f first cap hfx
            obtain ⟨hent, h⟩ := h
            have hrx := he.ev (hops x (by simp [AOp.operands]))
            rw [hfx] at hrx
            generalize hux : a.eval x = u at hrx
            cases hrx with
            | func fn h1 h2 h3 h4 =>
              rename_i ys ds
              refine hfin f _ (ys.toList ++ c.args.toList.map a.eval ++ ds.toList) ?_ ?_ h
              · exact ((LRel.of_array ⟨h1, h2⟩).append (LRel.map_ev he (fun y hy => hops y (by simp [AOp.operands] at hy ⊢; exact .inr hy)))).append (LRel.of_array ⟨h3, h4⟩)
              · have : execOp a.eval o = (do let d ← resolve a.eval c o.type; invoke d.target d.args) := by unfold execOp; rw [hop]
                rw [this]
                simp only [resolve, hcal, hux, Deferred.ofValue, Sem.run_bind, Sem.run_pure, Result.andThen_ok, invoke, run_enter hent]
                congr 2
                apply Array.ext'
                simp
          | _ => rw [hao] at ha; simp at ha
        · cases ha

end
end Go.Proofs.Ytbgnaeagdneikaa.Abs
