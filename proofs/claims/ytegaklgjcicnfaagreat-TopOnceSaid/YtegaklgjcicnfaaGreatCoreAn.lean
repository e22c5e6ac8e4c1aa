/- The rules of a run that reckon, gathered. -/
import Derived.Test.YtegaklgjcicnfaaGreatCoreF
set_option linter.unusedSimpArgs false
set_option linter.unusedVariables false
namespace Go.Proofs.YtegaklgjcicnfaaGreat.Abs
open Go Go.RowKit
attribute [go_sem] i64_wrap_id guard_undef List.contains_cons List.contains_nil Int.cast_ofNat_Int and_self k_pend_g pendV
attribute [go_sem] or_true true_or false_or or_false
attribute [go_sem high] lstoreV_full ev_cI' ev_cB'
def finE : Exit → Bool
 | .ret => true
 | .normal => true
 | _ => false
theorem fin_at {rs : List ARes} {R : Value → St → Prop} {Q : Exit → Env → St → Prop} (hQ : ∀ e t S', bodyQ rs R e t S' → Q e t S') {e : Exit} (he : finE e = true) {t : Env} {S : St} (h : retQ R S (resVals t S rs)) : Q e t S := by
 cases e with
 | ret => exact hQ _ _ _ (by rw [k_body_ret]; exact h)
 | normal => exact hQ _ _ _ (by rw [k_body_normal]; exact h)
 | _ => cases he
end Go.Proofs.YtegaklgjcicnfaaGreat.Abs
