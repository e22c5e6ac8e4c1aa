/- The rules of a run that reckon, gathered. -/
import Derived.Test.YtbgnaeagdneikaaCoreAm
namespace Go.Proofs.Ytbgnaeagdneikaa.Abs
open Go Go.RowKit
attribute [go_sem] i64_wrap_id guard_undef List.contains_cons List.contains_nil Int.cast_ofNat_Int and_self k_pend_g pendV
end Go.Proofs.Ytbgnaeagdneikaa.Abs
