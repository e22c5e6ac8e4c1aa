/- The rules of a run that reckon, gathered. -/
import Derived.Test.YtegaklgjcicnfaaGreatCoreF
set_option linter.unusedSimpArgs false
set_option linter.unusedVariables false
namespace Go.Proofs.YtegaklgjcicnfaaGreat.Abs
open Go Go.RowKit
attribute [go_sem] i64_wrap_id guard_undef List.contains_cons List.contains_nil Int.cast_ofNat_Int and_self k_pend_g pendV
attribute [go_sem] or_true true_or false_or or_false
attribute [go_sem high] lstoreV_full ev_cI' ev_cB'
def oB (d x : Nat) (r : ATree) : ATree := .op ⟨some d, .l (.box d none (.tmp x)), none⟩ r
def oN (d : Nat) (o : LO) (r : ATree) : ATree := .op ⟨some d, .l o, none⟩ r
def oX (g : Nat) (w : Bool) (d : Nat) (o : BOp) (r : ATree) : ATree := .op ⟨some d, o, some (g, w)⟩ r
section
variable {P : Program} {r : ATree} {t : Env} {S : St} {K : Env → St → Prop}
theorem k_oB {d x : Nat} : treeWp P (oB d x r) t S K = treeWp P (.op ⟨some d, .l (.box d none (.tmp x)), none⟩ r) t S K := by unfold oB; rfl
theorem k_oN {d : Nat} {o : LO} : treeWp P (oN d o r) t S K = treeWp P (.op ⟨some d, .l o, none⟩ r) t S K := by unfold oN; rfl
theorem k_oX {g : Nat} {w : Bool} {d : Nat} {o : BOp} : treeWp P (oX g w d o r) t S K = treeWp P (.op ⟨some d, o, some (g, w)⟩ r) t S K := by unfold oX; rfl
end
attribute [go_sem ↓] k_oB k_oN k_oX
attribute [go_sem] slots_cons slots_nil keepL_cons keepL_nil
/-- A function's code, compiled. -/
structure CmP (P : Program) (f : Func) (a : AFun) : Prop where
 h : (compF P a.cfg.pm a.cfg.lz f, a.ok) = (some a, true)
theorem run_of {P : Program} {n : FuncId} {args : List Value} {S : St} {R : Value → St → Prop} {fn : Func} {af : AFun} (hm : P.follows .mixedOrders = true) (hf : P.funcs[n]? = some fn) (hc : CmP P fn af) (hl : af.free args.length = true)
  (h : Live S → ∀ Q : Exit → Env → St → Prop, (∀ e t S', bodyQ af.results R e t S' → Q e t S') → cwp P af.cfg af.body (stkQ P af.cfg Q .nil) (entry args) S) : ACalls P n args S R :=
 .run hm hf (congrArg Prod.fst hc.h) (congrArg Prod.snd hc.h) hl h
def finE : Exit → Bool
 | .ret => true
 | .normal => true
 | _ => false
theorem fin_at {rs : List ARes} {R : Value → St → Prop} {Q : Exit → Env → St → Prop} (hQ : ∀ e t S', bodyQ rs R e t S' → Q e t S') {e : Exit} (he : finE e = true) {t : Env} {S : St} (h : retQ R S (resVals t S rs)) : Q e t S := by
 cases e with
 | ret => exact hQ _ _ _ (by rw [k_body_ret]; exact h)
 | normal => exact hQ _ _ _ (by rw [k_body_normal]; exact h)
 | _ => cases he
end Go.Proofs.YtegaklgjcicnfaaGreat.Abs
