/- The compiled code of functions of the seat, printed by a program of mine (gen.py), checked by the kernel. -/
import Derived.Test.YtbgnaeagdneikaaCoreAi
import Derived.Test.YtbgnaeagdneikaaProg
import Derived.KernelRfl
namespace Go.Proofs.Ytbgnaeagdneikaa
open Go Go.Proofs.Ytbgnaeagdneikaa.Abs
set_option maxRecDepth 100000

-- decoupage/style.Put
def aN56 : AFun := ⟨⟨63, [], true⟩, [],
 .seq (.reg (.op ⟨some 3, .h (.box (.tmp 1)), none⟩ .done))
 (.seq (.seq (.reg (.op ⟨some 8, .h (.load 48 true (.tmp 3)), none⟩
 (.op ⟨some 9, .call 20 [.tmp 8], none⟩
 (.op ⟨some 10, .p (.un .not (.tmp 9)), none⟩ .done))))
 (.cond (.tmp 10) (.ret)
 (.skip)))
 (.seq (.reg (.op ⟨some 11, .p (.mov (.tmp 0)), none⟩
 (.op ⟨some 12, .h (.load 48 true (.tmp 3)), none⟩
 (.op ⟨some 13, .call 88 [.tmp 12], none⟩
 (.op ⟨some 14, .call 25 [.tmp 11, .tmp 13], none⟩ .done)))))
 (.seq (.seq (.reg (.op ⟨some 15, .call 64 [.tmp 3], none⟩
 (.op ⟨some 16, .p (.lenS (.tmp 15)), none⟩
 (.op ⟨some 17, .p (.mov (.const (.int .i64 0))), none⟩ .done))))
 (.block 0 (.loop (.seq (.reg (.op ⟨some 18, .p (.int2 .lss (.tmp 17) (.tmp 16)), none⟩ .done))
 (.seq (.cond (.tmp 18) (.skip)
 (.exit 0))
 (.seq (.block 1 (.seq (.reg (.op ⟨some 19, .p (.idxS 1 (.tmp 15) (.tmp 17)), none⟩
 (.op ⟨some 20, .h (.load 1 false (.tmp 19)), none⟩
 (.op ⟨some 5, .p (.mov (.tmp 20)), none⟩ .done))))
 (.seq (.reg (.op ⟨some 21, .p (.mov (.tmp 0)), none⟩
 (.op ⟨some 22, .p (.mov (.tmp 5)), none⟩
 (.op ⟨some 23, .p (.nilchk (.tmp 22)), none⟩
 (.op ⟨some 24, .p (.fieldAddr 0 (.tmp 23)), none⟩
 (.op ⟨some 25, .h (.load 1 false (.tmp 24)), none⟩
 (.op ⟨some 26, .p (.conv .u8 (.tmp 25)), none⟩
 (.op ⟨some 27, .call 25 [.tmp 21, .tmp 26], none⟩ .done))))))))
 (.seq (.reg (.op ⟨some 28, .p (.mov (.tmp 5)), none⟩
 (.op ⟨some 29, .p (.nilchk (.tmp 28)), none⟩
 (.op ⟨some 30, .p (.fieldAddr 0 (.tmp 29)), none⟩
 (.op ⟨some 31, .h (.load 1 false (.tmp 30)), none⟩
 (.op ⟨some 32, .p (.int2 .neq (.tmp 31) (.const (.int .i64 0))), none⟩ .done))))))
 (.cond (.tmp 32) (.reg (.op ⟨some 33, .p (.mov (.tmp 0)), none⟩
 (.op ⟨some 34, .p (.mov (.tmp 5)), none⟩
 (.op ⟨some 35, .p (.nilchk (.tmp 34)), none⟩
 (.op ⟨some 36, .p (.fieldAddr 1 (.tmp 35)), none⟩
 (.op ⟨some 37, .h (.load 1 false (.tmp 36)), none⟩
 (.op ⟨some 38, .call 27 [.tmp 33, .tmp 37], none⟩ .done)))))))
 (.skip))))))
 (.reg (.op ⟨some 39, .p (.int2 .add (.tmp 17) (.const (.int .i64 1))), none⟩
 (.op ⟨some 17, .p (.mov (.tmp 39)), none⟩ .done)))))))))
 (.seq (.seq (.reg (.op ⟨some 40, .p (.fieldAddr 38 (.tmp 3)), none⟩
 (.op ⟨some 41, .h (.load 4 true (.tmp 40)), none⟩
 (.op ⟨some 42, .p (.mov (.const (.int .i64 0))), none⟩ .done))))
 (.block 2 (.loop (.seq (.reg (.op ⟨some 43, .p (.int2 .lss (.tmp 42) (.const (.int .i64 4))), none⟩ .done))
 (.seq (.cond (.tmp 43) (.skip)
 (.exit 2))
 (.seq (.block 3 (.seq (.reg (.op ⟨some 44, .p (.idxV 4 1 false (.tmp 41) (.tmp 42)), none⟩
 (.op ⟨some 7, .p (.mov (.tmp 44)), none⟩ .done)))
 (.reg (.op ⟨some 45, .p (.mov (.tmp 0)), none⟩
 (.op ⟨some 46, .p (.mov (.tmp 7)), none⟩
 (.op ⟨some 47, .call 27 [.tmp 45, .tmp 46], none⟩ .done))))))
 (.reg (.op ⟨some 48, .p (.int2 .add (.tmp 42) (.const (.int .i64 1))), none⟩
 (.op ⟨some 42, .p (.mov (.tmp 48)), none⟩ .done)))))))))
 (.seq (.seq (.reg (.op ⟨some 49, .p (.fieldAddr 43 (.tmp 3)), none⟩
 (.op ⟨some 50, .h (.load 1 false (.tmp 49)), none⟩ .done)))
 (.cond (.tmp 50) (.reg (.op ⟨some 51, .p (.mov (.tmp 0)), none⟩
 (.op ⟨some 52, .p (.fieldAddr 44 (.tmp 3)), none⟩
 (.op ⟨some 53, .h (.load 1 false (.tmp 52)), none⟩
 (.op ⟨some 54, .call 27 [.tmp 51, .tmp 53], none⟩ .done)))))
 (.skip)))
 (.seq (.reg (.op ⟨some 55, .p (.mov (.tmp 0)), none⟩
 (.op ⟨some 56, .p (.fieldAddr 46 (.tmp 3)), none⟩
 (.op ⟨some 57, .h (.load 1 false (.tmp 56)), none⟩
 (.op ⟨some 58, .call 27 [.tmp 55, .tmp 57], none⟩ .done)))))
 (.reg (.op ⟨some 59, .p (.mov (.tmp 0)), none⟩
 (.op ⟨some 60, .p (.fieldAddr 47 (.tmp 3)), none⟩
 (.op ⟨some 61, .h (.load 1 false (.tmp 60)), none⟩
 (.op ⟨some 62, .call 27 [.tmp 59, .tmp 61], none⟩ .done)))))))))))⟩

theorem cN56 : compF Try.prog aN56.cfg.pm aN56.cfg.lz Try.f56 = some aN56 := by kernel_rfl
theorem kN56 : aN56.ok = true := by kernel_rfl

-- decoupage/style.flags
def aN88 : AFun := ⟨⟨36, [(1, false, [6, 9, 12, 15, 18]), (5, true, [27, 30])], true⟩, [.tmp 2],
 .seq (.reg (.op ⟨some 1, .l (.box 1 none (.tmp 0)), none⟩
 (.op ⟨some 2, .p (.mov (.const (.int .u8 0))), none⟩ .done)))
 (.seq (.reg (.op ⟨some 6, .l (.addr 1 1 1), none⟩
 (.op ⟨some 7, .l (.load 6 1 1 false), none⟩
 (.op ⟨some 8, .p (.int2 .mul (.const (.int .i64 2)) (.tmp 7)), none⟩
 (.op ⟨some 3, .p (.mov (.tmp 8)), none⟩ .done)))))
 (.seq (.seq (.reg (.op ⟨some 9, .l (.addr 1 1 0), none⟩
 (.op ⟨some 10, .l (.load 9 1 1 false), none⟩
 (.op ⟨some 11, .p (.build [.bool false, .int .i64 0] [(0, 1, .tmp 10), (1, 1, .const (.int .i64 1))]), none⟩
 (.op ⟨some 12, .l (.addr 1 1 42), none⟩
 (.op ⟨some 13, .l (.load 12 1 1 false), none⟩
 (.op ⟨some 14, .p (.build [.bool false, .int .i64 0] [(0, 1, .tmp 13), (1, 1, .const (.int .i64 8))]), none⟩
 (.op ⟨some 15, .l (.addr 1 1 43), none⟩
 (.op ⟨some 16, .l (.load 15 1 1 false), none⟩
 (.op ⟨some 17, .p (.build [.bool false, .int .i64 0] [(0, 1, .tmp 16), (1, 1, .const (.int .i64 16))]), none⟩
 (.op ⟨some 18, .l (.addr 1 1 45), none⟩
 (.op ⟨some 19, .l (.load 18 1 1 false), none⟩
 (.op ⟨some 20, .p (.build [.bool false, .int .i64 0] [(0, 1, .tmp 19), (1, 1, .const (.int .i64 32))]), none⟩
 (.op ⟨some 21, .h (.buildSlice 2 4 [.bool false, .int .i64 0, .bool false, .int .i64 0, .bool false, .int .i64 0, .bool false, .int .i64 0] [(0, 2, .tmp 11), (2, 2, .tmp 14), (4, 2, .tmp 17), (6, 2, .tmp 20)]), none⟩
 (.op ⟨some 22, .p (.lenS (.tmp 21)), none⟩
 (.op ⟨some 23, .p (.mov (.const (.int .i64 0))), none⟩ .done))))))))))))))))
 (.block 0 (.loop (.seq (.reg (.op ⟨some 24, .p (.int2 .lss (.tmp 23) (.tmp 22)), none⟩ .done))
 (.seq (.cond (.tmp 24) (.skip)
 (.exit 0))
 (.seq (.block 1 (.seq (.reg (.op ⟨some 25, .p (.idxS 2 (.tmp 21) (.tmp 23)), none⟩
 (.op ⟨some 26, .h (.load 2 true (.tmp 25)), none⟩
 (.op ⟨some 5, .l (.new 5 (some [27, 30]) [.bool false, .int .i64 0]), none⟩
 (.op ⟨none, .l (.store 5 5 2 (.tmp 26)), none⟩ .done)))))
 (.seq (.reg (.op ⟨some 27, .l (.addr 5 5 0), none⟩
 (.op ⟨some 28, .l (.load 27 5 1 false), none⟩ .done)))
 (.cond (.tmp 28) (.reg (.op ⟨some 29, .p (.mov (.tmp 3)), none⟩
 (.op ⟨some 30, .l (.addr 5 5 1), none⟩
 (.op ⟨some 31, .l (.load 30 5 1 false), none⟩
 (.op ⟨some 32, .p (.int2 .add (.tmp 29) (.tmp 31)), none⟩
 (.op ⟨some 3, .p (.mov (.tmp 32)), none⟩ .done))))))
 (.skip)))))
 (.reg (.op ⟨some 33, .p (.int2 .add (.tmp 23) (.const (.int .i64 1))), none⟩
 (.op ⟨some 23, .p (.mov (.tmp 33)), none⟩ .done)))))))))
 (.seq (.reg (.op ⟨some 34, .p (.mov (.tmp 3)), none⟩
 (.op ⟨some 35, .p (.conv .u8 (.tmp 34)), none⟩
 (.op ⟨some 2, .p (.mov (.tmp 35)), none⟩ .done))))
 (.ret))))⟩

theorem cN88 : compF Try.prog aN88.cfg.pm aN88.cfg.lz Try.f88 = some aN88 := by kernel_rfl
theorem kN88 : aN88.ok = true := by kernel_rfl

end Go.Proofs.Ytbgnaeagdneikaa
