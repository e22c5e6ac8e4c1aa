/- The compiled code of functions of the seat, printed by a program of mine (gen.py), checked by the kernel. -/
import Derived.Test.YtbgnaeagdneikaaCoreAi
import Derived.Test.YtbgnaeagdneikaaProg
import Derived.KernelRfl
namespace Go.Proofs.Ytbgnaeagdneikaa
open Go Go.Proofs.Ytbgnaeagdneikaa.Abs
set_option maxRecDepth 100000

-- decoupage/decoupageref06.Bytes
def aN39 : AFun := ⟨⟨88, [(1, false, [8, 11, 15, 19, 23, 66, 67, 72, 75, 80, 84])], true⟩, [.tmp 2],
 .seq (.reg (.op ⟨some 1, .l (.box 1 none (.tmp 0)), none⟩
 (.op ⟨some 2, .p (.mov (.const (.slice none 0 0))), none⟩ .done)))
 (.seq (.reg (.op ⟨some 8, .l (.addr 1 1 1), none⟩
 (.op ⟨some 9, .l (.load 8 1 1 false), none⟩
 (.op ⟨some 10, .p (.int2 .mul (.tmp 9) (.const (.int .i64 2))), none⟩
 (.op ⟨some 3, .p (.mov (.tmp 10)), none⟩ .done)))))
 (.seq (.seq (.reg (.op ⟨some 11, .l (.addr 1 1 0), none⟩
 (.op ⟨some 12, .l (.load 11 1 1 false), none⟩ .done)))
 (.cond (.tmp 12) (.reg (.op ⟨some 13, .p (.mov (.tmp 3)), none⟩
 (.op ⟨some 14, .p (.int2 .add (.tmp 13) (.const (.int .i64 1))), none⟩
 (.op ⟨some 3, .p (.mov (.tmp 14)), none⟩ .done))))
 (.skip)))
 (.seq (.seq (.reg (.op ⟨some 15, .l (.addr 1 1 42), none⟩
 (.op ⟨some 16, .l (.load 15 1 1 false), none⟩ .done)))
 (.cond (.tmp 16) (.reg (.op ⟨some 17, .p (.mov (.tmp 3)), none⟩
 (.op ⟨some 18, .p (.int2 .add (.tmp 17) (.const (.int .i64 8))), none⟩
 (.op ⟨some 3, .p (.mov (.tmp 18)), none⟩ .done))))
 (.skip)))
 (.seq (.seq (.reg (.op ⟨some 19, .l (.addr 1 1 43), none⟩
 (.op ⟨some 20, .l (.load 19 1 1 false), none⟩ .done)))
 (.cond (.tmp 20) (.reg (.op ⟨some 21, .p (.mov (.tmp 3)), none⟩
 (.op ⟨some 22, .p (.int2 .add (.tmp 21) (.const (.int .i64 16))), none⟩
 (.op ⟨some 3, .p (.mov (.tmp 22)), none⟩ .done))))
 (.skip)))
 (.seq (.seq (.reg (.op ⟨some 23, .l (.addr 1 1 45), none⟩
 (.op ⟨some 24, .l (.load 23 1 1 false), none⟩ .done)))
 (.cond (.tmp 24) (.reg (.op ⟨some 25, .p (.mov (.tmp 3)), none⟩
 (.op ⟨some 26, .p (.int2 .add (.tmp 25) (.const (.int .i64 32))), none⟩
 (.op ⟨some 3, .p (.mov (.tmp 26)), none⟩ .done))))
 (.skip)))
 (.seq (.reg (.op ⟨some 27, .p (.mov (.tmp 3)), none⟩
 (.op ⟨some 28, .p (.conv .u8 (.tmp 27)), none⟩
 (.op ⟨some 29, .h (.buildSlice 1 1 [.int .u8 0] [(0, 1, .tmp 28)]), none⟩
 (.op ⟨some 4, .p (.mov (.tmp 29)), none⟩ .done)))))
 (.seq (.reg (.op ⟨some 30, .l (.load 1 1 48 true), none⟩
 (.op ⟨some 31, .call 66 [.tmp 30], none⟩
 (.op ⟨some 5, .p (.mov (.tmp 31)), none⟩ .done))))
 (.seq (.seq (.reg (.op ⟨some 32, .p (.mov (.tmp 5)), none⟩
 (.op ⟨some 33, .p (.lenS (.tmp 32)), none⟩
 (.op ⟨some 34, .p (.mov (.const (.int .i64 0))), none⟩ .done))))
 (.block 0 (.loop (.seq (.reg (.op ⟨some 35, .p (.int2 .lss (.tmp 34) (.tmp 33)), none⟩ .done))
 (.seq (.cond (.tmp 35) (.skip)
 (.exit 0))
 (.seq (.block 1 (.seq (.reg (.op ⟨some 36, .p (.mov (.tmp 34)), none⟩
 (.op ⟨some 6, .p (.mov (.tmp 36)), none⟩ .done)))
 (.seq (.reg (.op ⟨some 37, .p (.mov (.tmp 4)), none⟩
 (.op ⟨some 38, .p (.mov (.tmp 5)), none⟩
 (.op ⟨some 39, .p (.mov (.tmp 6)), none⟩
 (.op ⟨some 40, .p (.idxS 2 (.tmp 38) (.tmp 39)), none⟩
 (.op ⟨some 41, .p (.fieldAddr 0 (.tmp 40)), none⟩
 (.op ⟨some 42, .h (.load 1 false (.tmp 41)), none⟩
 (.op ⟨some 43, .p (.conv .u8 (.tmp 42)), none⟩
 (.op ⟨some 44, .h (.buildSlice 1 1 [.int .u8 0] [(0, 1, .tmp 43)]), none⟩
 (.op ⟨some 45, .h (.append 1 1 (.tmp 37) (.tmp 44)), none⟩
 (.op ⟨some 4, .p (.mov (.tmp 45)), none⟩ .done)))))))))))
 (.seq (.reg (.op ⟨some 46, .p (.mov (.tmp 5)), none⟩
 (.op ⟨some 47, .p (.mov (.tmp 6)), none⟩
 (.op ⟨some 48, .p (.idxS 2 (.tmp 46) (.tmp 47)), none⟩
 (.op ⟨some 49, .p (.fieldAddr 0 (.tmp 48)), none⟩
 (.op ⟨some 50, .h (.load 1 false (.tmp 49)), none⟩
 (.op ⟨some 51, .p (.int2 .neq (.tmp 50) (.const (.int .i64 0))), none⟩ .done)))))))
 (.cond (.tmp 51) (.reg (.op ⟨some 52, .p (.mov (.tmp 4)), none⟩
 (.op ⟨some 53, .p (.mov (.tmp 5)), none⟩
 (.op ⟨some 54, .p (.mov (.tmp 6)), none⟩
 (.op ⟨some 55, .p (.idxS 2 (.tmp 53) (.tmp 54)), none⟩
 (.op ⟨some 56, .p (.fieldAddr 1 (.tmp 55)), none⟩
 (.op ⟨some 57, .h (.load 1 false (.tmp 56)), none⟩
 (.op ⟨some 58, .call 71 [.tmp 57], none⟩
 (.op ⟨some 59, .h (.append 1 1 (.tmp 52) (.tmp 58)), none⟩
 (.op ⟨some 4, .p (.mov (.tmp 59)), none⟩ .done))))))))))
 (.skip))))))
 (.reg (.op ⟨some 60, .p (.int2 .add (.tmp 34) (.const (.int .i64 1))), none⟩
 (.op ⟨some 34, .p (.mov (.tmp 60)), none⟩ .done)))))))))
 (.seq (.seq (.reg (.op ⟨some 61, .p (.mov (.const (.int .i64 0))), none⟩ .done))
 (.block 2 (.loop (.seq (.reg (.op ⟨some 62, .p (.int2 .lss (.tmp 61) (.const (.int .i64 4))), none⟩ .done))
 (.seq (.cond (.tmp 62) (.skip)
 (.exit 2))
 (.seq (.block 3 (.seq (.reg (.op ⟨some 63, .p (.mov (.tmp 61)), none⟩
 (.op ⟨some 7, .p (.mov (.tmp 63)), none⟩ .done)))
 (.reg (.op ⟨some 64, .p (.mov (.tmp 4)), none⟩
 (.op ⟨some 65, .p (.mov (.tmp 7)), none⟩
 (.op ⟨some 66, .l (.addr 1 1 38), none⟩
 (.op ⟨some 67, .l (.idx 66 1 4 1 (.tmp 65)), none⟩
 (.op ⟨some 68, .l (.load 67 1 1 false), none⟩
 (.op ⟨some 69, .call 71 [.tmp 68], none⟩
 (.op ⟨some 70, .h (.append 1 1 (.tmp 64) (.tmp 69)), none⟩
 (.op ⟨some 4, .p (.mov (.tmp 70)), none⟩ .done)))))))))))
 (.reg (.op ⟨some 71, .p (.int2 .add (.tmp 61) (.const (.int .i64 1))), none⟩
 (.op ⟨some 61, .p (.mov (.tmp 71)), none⟩ .done)))))))))
 (.seq (.seq (.reg (.op ⟨some 72, .l (.addr 1 1 43), none⟩
 (.op ⟨some 73, .l (.load 72 1 1 false), none⟩ .done)))
 (.cond (.tmp 73) (.reg (.op ⟨some 74, .p (.mov (.tmp 4)), none⟩
 (.op ⟨some 75, .l (.addr 1 1 44), none⟩
 (.op ⟨some 76, .l (.load 75 1 1 false), none⟩
 (.op ⟨some 77, .call 71 [.tmp 76], none⟩
 (.op ⟨some 78, .h (.append 1 1 (.tmp 74) (.tmp 77)), none⟩
 (.op ⟨some 4, .p (.mov (.tmp 78)), none⟩ .done)))))))
 (.skip)))
 (.seq (.reg (.op ⟨some 79, .p (.mov (.tmp 4)), none⟩
 (.op ⟨some 80, .l (.addr 1 1 46), none⟩
 (.op ⟨some 81, .l (.load 80 1 1 false), none⟩
 (.op ⟨some 84, .l (.addr 1 1 47), none⟩
 (.op ⟨some 85, .l (.load 84 1 1 false), none⟩
 (.op ⟨some 82, .call 71 [.tmp 81], none⟩
 (.op ⟨some 83, .h (.append 1 1 (.tmp 79) (.tmp 82)), none⟩
 (.op ⟨some 86, .call 71 [.tmp 85], none⟩
 (.op ⟨some 87, .h (.append 1 1 (.tmp 83) (.tmp 86)), none⟩
 (.op ⟨some 2, .p (.mov (.tmp 87)), none⟩
 (.done))))))))))))
 (.ret))))))))))))⟩

theorem cN39 : compF Try.prog aN39.cfg.pm aN39.cfg.lz Try.f39 = some aN39 := by kernel_rfl
theorem kN39 : aN39.ok = true := by kernel_rfl

end Go.Proofs.Ytbgnaeagdneikaa
