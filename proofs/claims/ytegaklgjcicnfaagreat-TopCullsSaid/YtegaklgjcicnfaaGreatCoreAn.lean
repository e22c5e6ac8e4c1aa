/- The rules of a run that reckon, gathered. -/
import Derived.Test.YtegaklgjcicnfaaGreatCoreF
set_option linter.unusedSimpArgs false
set_option linter.unusedVariables false
namespace Go.Proofs.YtegaklgjcicnfaaGreat.Abs
open Go Go.RowKit
attribute [go_sem_proc] Int.reduceAdd Int.reduceSub Int.reduceNeg Int.reduceMul Nat.reduceSub Nat.reduceEqDiff Nat.reduceAdd Nat.reduceMul Nat.reduceLeDiff reduceCtorEq Int.reduceToNat Int.reduceLT Int.reduceLE Int.reduceEq Nat.reduceBEq
attribute [go_sem_proc ↓] reduceIte
attribute [go_sem] i64_wrap_id guard_undef List.contains_cons List.contains_nil Int.cast_ofNat_Int and_self k_pend_g pendV
attribute [go_sem] or_true true_or false_or or_false
attribute [go_sem high] lstoreV_full ev_cI' ev_cB'
end Go.Proofs.YtegaklgjcicnfaaGreat.Abs
