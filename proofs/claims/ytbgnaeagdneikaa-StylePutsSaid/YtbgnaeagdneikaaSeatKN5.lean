/- The compiled code of functions of the seat, printed by a program of mine (gen.py), checked by the kernel. -/
import Derived.Test.YtbgnaeagdneikaaCoreAi
import Derived.Test.YtbgnaeagdneikaaProg
import Derived.KernelRfl
namespace Go.Proofs.Ytbgnaeagdneikaa
open Go Go.Proofs.Ytbgnaeagdneikaa.Abs
set_option maxRecDepth 100000

-- decoupage/decoupagelaw06.StylePuts
def aN15 : AFun := ⟨⟨55, [(2, false, [])], true⟩, [.tmp 4],
 .seq (.reg (.op ⟨some 2, .l (.box 2 none (.tmp 0)), none⟩
 (.op ⟨some 4, .p (.mov (.const (.bool false))), none⟩ .done)))
 (.seq (.seq (.reg (.op ⟨some 8, .call 19 [], none⟩
 (.op ⟨some 9, .p (.un .not (.tmp 8)), none⟩
 (.op ⟨some 10, .p (.mov (.tmp 9)), none⟩
 (.op ⟨some 11, .p (.mov (.tmp 1)), some (10, false)⟩
 (.op ⟨some 12, .p (.lenS (.tmp 11)), some (10, false)⟩
 (.op ⟨some 13, .p (.int2 .gtr (.tmp 12) (.const (.int .i64 50))), some (10, false)⟩
 (.op ⟨some 14, .p (.pick (.tmp 10) (.const (.bool true)) (.tmp 13)), none⟩ .done))))))))
 (.cond (.tmp 14) (.seq (.reg (.op ⟨some 15, .call 19 [], none⟩
 (.op ⟨some 4, .p (.mov (.tmp 15)), none⟩ .done)))
 (.ret))
 (.skip)))
 (.seq (.reg (.op ⟨some 5, .h (.alloc [.slice none 0 0]), none⟩ .done))
 (.seq (.reg (.op ⟨some 16, .l (.load 2 2 48 true), none⟩
 (.op ⟨some 17, .call 56 [.tmp 5, .tmp 16], none⟩ .done)))
 (.seq (.reg (.op ⟨some 18, .call 29 [.tmp 5], none⟩
 (.op ⟨some 6, .p (.mov (.tmp 18)), none⟩ .done)))
 (.seq (.seq (.reg (.op ⟨some 19, .l (.load 2 2 48 true), none⟩
 (.op ⟨some 20, .call 21 [.tmp 19], none⟩
 (.op ⟨some 21, .p (.un .not (.tmp 20)), none⟩ .done))))
 (.cond (.tmp 21) (.seq (.reg (.op ⟨some 22, .p (.mov (.tmp 6)), none⟩
 (.op ⟨some 23, .p (.lenS (.tmp 22)), none⟩
 (.op ⟨some 24, .p (.int2 .eql (.tmp 23) (.const (.int .i64 0))), none⟩
 (.op ⟨some 4, .p (.mov (.tmp 24)), none⟩ .done)))))
 (.ret))
 (.skip)))
 (.seq (.reg (.op ⟨some 25, .h (.buildSlice 1 0 [] []), none⟩
 (.op ⟨some 26, .p (.mov (.tmp 6)), none⟩
 (.op ⟨some 27, .h (.append 1 1 (.tmp 25) (.tmp 26)), none⟩
 (.op ⟨some 28, .p (.mov (.tmp 1)), none⟩
 (.op ⟨some 29, .h (.append 1 1 (.tmp 27) (.tmp 28)), none⟩
 (.op ⟨some 30, .call 30 [.tmp 29], none⟩
 (.op ⟨some 7, .p (.mov (.tmp 30)), none⟩ .done))))))))
 (.seq (.reg (.op ⟨some 31, .p (.mov (.tmp 6)), none⟩
 (.op ⟨some 32, .h (.b2s (.tmp 31)), none⟩
 (.op ⟨some 33, .l (.load 2 2 48 true), none⟩
 (.op ⟨some 34, .call 39 [.tmp 33], none⟩
 (.chk [⟨32, .b2s (.tmp 31), none⟩]
 (.op ⟨some 35, .h (.b2s (.tmp 34)), none⟩
 (.op ⟨some 36, .p (.eqs false (.tmp 32) (.tmp 35)), none⟩
 (.op ⟨some 37, .p (.mov (.tmp 36)), none⟩
 (.op ⟨some 38, .p (.mov (.tmp 7)), some (37, true)⟩
 (.op ⟨some 40, .l (.load 2 2 48 true), some (37, true)⟩
 (.op ⟨some 39, .call 40 [.tmp 38], some (37, true)⟩
 (.op ⟨some 41, .p (.eqa [false, true, true, true, true, true, true, true, true, true, true, true, true, true, true, true, true, true, true, true, true, true, true, true, true, true, true, true, true, true, true, true, true, true, true, true, true, true, true, true, true, true, false, false, true, false, true, true] false (.tmp 39) (.tmp 40)), some (37, true)⟩
 (.op ⟨some 42, .p (.pick (.tmp 37) (.tmp 41) (.const (.bool false))), none⟩
 (.op ⟨some 43, .p (.mov (.tmp 42)), none⟩
 (.op ⟨some 44, .p (.mov (.tmp 7)), some (43, true)⟩
 (.op ⟨some 45, .call 34 [.tmp 44], some (43, true)⟩
 (.op ⟨some 46, .p (.un .not (.tmp 45)), some (43, true)⟩
 (.op ⟨some 47, .p (.pick (.tmp 43) (.tmp 46) (.const (.bool false))), none⟩
 (.op ⟨some 48, .p (.mov (.tmp 47)), none⟩
 (.op ⟨some 49, .p (.mov (.tmp 7)), some (48, true)⟩
 (.op ⟨some 51, .p (.mov (.tmp 1)), some (48, true)⟩
 (.op ⟨some 52, .p (.lenS (.tmp 51)), some (48, true)⟩
 (.op ⟨some 50, .call 38 [.tmp 49], some (48, true)⟩
 (.op ⟨some 53, .p (.int2 .eql (.tmp 50) (.tmp 52)), some (48, true)⟩
 (.op ⟨some 54, .p (.pick (.tmp 48) (.tmp 53) (.const (.bool false))), none⟩
 (.op ⟨some 4, .p (.mov (.tmp 54)), none⟩
 (.done))))))))))))))))))))))))))))
 (.ret))))))))⟩

theorem cN15 : compF Try.prog aN15.cfg.pm aN15.cfg.lz Try.f15 = some aN15 := by kernel_rfl
theorem kN15 : aN15.ok = true := by kernel_rfl

end Go.Proofs.Ytbgnaeagdneikaa
