/- The rules of a run that reckon, gathered. -/
import Derived.Test.YtbgnaeagdneikaaCoreAm
namespace Go.Proofs.Ytbgnaeagdneikaa.Abs
open Go Go.RowKit
attribute [go_sem_proc] Int.reduceAdd Int.reduceSub Int.reduceNeg Int.reduceMul Nat.reduceSub Nat.reduceEqDiff Nat.reduceAdd Nat.reduceMul Nat.reduceLeDiff reduceCtorEq Int.reduceToNat Int.reduceLT Int.reduceLE Int.reduceEq Nat.reduceBEq
attribute [go_sem_proc ↓] reduceIte
attribute [go_sem] i64_wrap_id guard_undef List.contains_cons List.contains_nil Int.cast_ofNat_Int and_self k_pend_g pendV
end Go.Proofs.Ytbgnaeagdneikaa.Abs
