/- The compiled code of functions of the seat, printed by a program of mine (gen.py), checked by the kernel. -/
import Derived.Test.YtbgnaeagdneikaaCoreAi
import Derived.Test.YtbgnaeagdneikaaProg
import Derived.KernelRfl
namespace Go.Proofs.Ytbgnaeagdneikaa
open Go Go.Proofs.Ytbgnaeagdneikaa.Abs
set_option maxRecDepth 100000

-- decoupage/decoupageref06.From
def aN41 : AFun := ⟨⟨133, [(1, false, [118]), (2, false, []), (3, false, []), (5, false, [37, 43, 49, 55, 61, 67, 73, 79, 85, 95, 96, 98, 105, 111, 117])], true⟩, [.lcell 2 48 true, .lcell 3 2 true],
 .seq (.reg (.op ⟨some 1, .l (.box 1 none (.tmp 0)), none⟩
 (.op ⟨some 2, .l (.new 2 none [.bool false, .int .i64 0, .int .i64 0, .int .i64 0, .int .i64 0, .int .i64 0, .int .i64 0, .int .i64 0, .int .i64 0, .int .i64 0, .int .i64 0, .int .i64 0, .int .i64 0, .int .i64 0, .int .i64 0, .int .i64 0, .int .i64 0, .int .i64 0, .int .i64 0, .int .i64 0, .int .i64 0, .int .i64 0, .int .i64 0, .int .i64 0, .int .i64 0, .int .i64 0, .int .i64 0, .int .i64 0, .int .i64 0, .int .i64 0, .int .i64 0, .int .i64 0, .int .i64 0, .int .i64 0, .int .i64 0, .int .i64 0, .int .i64 0, .int .i64 0, .int .i64 0, .int .i64 0, .int .i64 0, .int .i64 0, .bool false, .bool false, .int .i64 0, .bool false, .int .i64 0, .int .i64 0]), none⟩
 (.op ⟨some 3, .l (.new 3 none [.slice none 0 0, .bool false]), none⟩ .done))))
 (.seq (.reg (.op ⟨some 8, .l (.load 1 1 2 true), none⟩
 (.op ⟨some 9, .call 35 [.tmp 8, .const (.int .i64 1)], none⟩
 (.op ⟨some 7, .p (.mov (.tmp 9)), none⟩
 (.op ⟨some 10, .p (.extract (.tmp 7) 0), none⟩
 (.op ⟨some 11, .p (.extract (.tmp 7) 1), none⟩
 (.op ⟨some 4, .p (.mov (.tmp 10)), none⟩
 (.op ⟨none, .l (.store 1 1 2 (.tmp 11)), none⟩ .done))))))))
 (.seq (.reg (.op ⟨some 12, .p (.mov (.tmp 4)), none⟩
 (.op ⟨some 13, .p (.int2 .rem (.tmp 12) (.const (.int .u64 2))), none⟩
 (.op ⟨some 14, .p (.int2 .eql (.tmp 13) (.const (.int .u64 1))), none⟩
 (.op ⟨some 15, .p (.mov (.tmp 4)), none⟩
 (.op ⟨some 16, .p (.int2 .quo (.tmp 15) (.const (.int .u64 2))), none⟩
 (.op ⟨some 17, .p (.int2 .rem (.tmp 16) (.const (.int .u64 4))), none⟩
 (.op ⟨some 18, .p (.conv .i64 (.tmp 17)), none⟩
 (.op ⟨some 19, .p (.mov (.tmp 4)), none⟩
 (.op ⟨some 20, .p (.int2 .quo (.tmp 19) (.const (.int .u64 8))), none⟩
 (.op ⟨some 21, .p (.int2 .rem (.tmp 20) (.const (.int .u64 2))), none⟩
 (.op ⟨some 22, .p (.int2 .eql (.tmp 21) (.const (.int .u64 1))), none⟩
 (.op ⟨some 23, .p (.mov (.tmp 4)), none⟩
 (.op ⟨some 24, .p (.int2 .quo (.tmp 23) (.const (.int .u64 16))), none⟩
 (.op ⟨some 25, .p (.int2 .rem (.tmp 24) (.const (.int .u64 2))), none⟩
 (.op ⟨some 26, .p (.int2 .eql (.tmp 25) (.const (.int .u64 1))), none⟩
 (.op ⟨some 27, .p (.mov (.tmp 4)), none⟩
 (.op ⟨some 28, .p (.int2 .quo (.tmp 27) (.const (.int .u64 32))), none⟩
 (.op ⟨some 29, .p (.int2 .rem (.tmp 28) (.const (.int .u64 2))), none⟩
 (.op ⟨some 30, .p (.int2 .eql (.tmp 29) (.const (.int .u64 1))), none⟩
 (.op ⟨some 31, .p (.build [.bool false, .int .i64 0, .int .i64 0, .int .i64 0, .int .i64 0, .int .i64 0, .int .i64 0, .int .i64 0, .int .i64 0, .int .i64 0, .int .i64 0, .int .i64 0, .int .i64 0, .int .i64 0, .int .i64 0, .int .i64 0, .int .i64 0, .int .i64 0, .int .i64 0, .int .i64 0, .int .i64 0, .int .i64 0, .int .i64 0, .int .i64 0, .int .i64 0, .int .i64 0, .int .i64 0, .int .i64 0, .int .i64 0, .int .i64 0, .int .i64 0, .int .i64 0, .int .i64 0, .int .i64 0, .int .i64 0, .int .i64 0, .int .i64 0, .int .i64 0, .int .i64 0, .int .i64 0, .int .i64 0, .int .i64 0, .bool false, .bool false, .int .i64 0, .bool false, .int .i64 0, .int .i64 0] [(0, 1, .tmp 14), (1, 1, .tmp 18), (42, 1, .tmp 22), (43, 1, .tmp 26), (45, 1, .tmp 30)]), none⟩
 (.op ⟨some 5, .l (.new 5 none [.bool false, .int .i64 0, .int .i64 0, .int .i64 0, .int .i64 0, .int .i64 0, .int .i64 0, .int .i64 0, .int .i64 0, .int .i64 0, .int .i64 0, .int .i64 0, .int .i64 0, .int .i64 0, .int .i64 0, .int .i64 0, .int .i64 0, .int .i64 0, .int .i64 0, .int .i64 0, .int .i64 0, .int .i64 0, .int .i64 0, .int .i64 0, .int .i64 0, .int .i64 0, .int .i64 0, .int .i64 0, .int .i64 0, .int .i64 0, .int .i64 0, .int .i64 0, .int .i64 0, .int .i64 0, .int .i64 0, .int .i64 0, .int .i64 0, .int .i64 0, .int .i64 0, .int .i64 0, .int .i64 0, .int .i64 0, .bool false, .bool false, .int .i64 0, .bool false, .int .i64 0, .int .i64 0]), none⟩
 (.op ⟨none, .l (.store 5 5 48 (.tmp 31)), none⟩ .done)))))))))))))))))))))))
 (.seq (.reg (.op ⟨some 33, .l (.load 1 1 2 true), none⟩
 (.op ⟨some 34, .call 72 [.tmp 33], none⟩
 (.op ⟨some 32, .p (.mov (.tmp 34)), none⟩
 (.op ⟨some 35, .p (.extract (.tmp 32) 0), none⟩
 (.op ⟨some 36, .p (.extract (.tmp 32) 1), none⟩
 (.op ⟨some 37, .l (.addr 5 5 2), none⟩
 (.op ⟨none, .l (.store 37 5 8 (.tmp 35)), none⟩
 (.op ⟨none, .l (.store 1 1 2 (.tmp 36)), none⟩ .done)))))))))
 (.seq (.reg (.op ⟨some 39, .l (.load 1 1 2 true), none⟩
 (.op ⟨some 40, .call 73 [.tmp 39], none⟩
 (.op ⟨some 38, .p (.mov (.tmp 40)), none⟩
 (.op ⟨some 41, .p (.extract (.tmp 38) 0), none⟩
 (.op ⟨some 42, .p (.extract (.tmp 38) 1), none⟩
 (.op ⟨some 43, .l (.addr 5 5 10), none⟩
 (.op ⟨none, .l (.store 43 5 2 (.tmp 41)), none⟩
 (.op ⟨none, .l (.store 1 1 2 (.tmp 42)), none⟩ .done)))))))))
 (.seq (.reg (.op ⟨some 45, .l (.load 1 1 2 true), none⟩
 (.op ⟨some 46, .call 73 [.tmp 45], none⟩
 (.op ⟨some 44, .p (.mov (.tmp 46)), none⟩
 (.op ⟨some 47, .p (.extract (.tmp 44) 0), none⟩
 (.op ⟨some 48, .p (.extract (.tmp 44) 1), none⟩
 (.op ⟨some 49, .l (.addr 5 5 12), none⟩
 (.op ⟨none, .l (.store 49 5 2 (.tmp 47)), none⟩
 (.op ⟨none, .l (.store 1 1 2 (.tmp 48)), none⟩ .done)))))))))
 (.seq (.reg (.op ⟨some 51, .l (.load 1 1 2 true), none⟩
 (.op ⟨some 52, .call 73 [.tmp 51], none⟩
 (.op ⟨some 50, .p (.mov (.tmp 52)), none⟩
 (.op ⟨some 53, .p (.extract (.tmp 50) 0), none⟩
 (.op ⟨some 54, .p (.extract (.tmp 50) 1), none⟩
 (.op ⟨some 55, .l (.addr 5 5 14), none⟩
 (.op ⟨none, .l (.store 55 5 2 (.tmp 53)), none⟩
 (.op ⟨none, .l (.store 1 1 2 (.tmp 54)), none⟩ .done)))))))))
 (.seq (.reg (.op ⟨some 57, .l (.load 1 1 2 true), none⟩
 (.op ⟨some 58, .call 73 [.tmp 57], none⟩
 (.op ⟨some 56, .p (.mov (.tmp 58)), none⟩
 (.op ⟨some 59, .p (.extract (.tmp 56) 0), none⟩
 (.op ⟨some 60, .p (.extract (.tmp 56) 1), none⟩
 (.op ⟨some 61, .l (.addr 5 5 16), none⟩
 (.op ⟨none, .l (.store 61 5 2 (.tmp 59)), none⟩
 (.op ⟨none, .l (.store 1 1 2 (.tmp 60)), none⟩ .done)))))))))
 (.seq (.reg (.op ⟨some 63, .l (.load 1 1 2 true), none⟩
 (.op ⟨some 64, .call 73 [.tmp 63], none⟩
 (.op ⟨some 62, .p (.mov (.tmp 64)), none⟩
 (.op ⟨some 65, .p (.extract (.tmp 62) 0), none⟩
 (.op ⟨some 66, .p (.extract (.tmp 62) 1), none⟩
 (.op ⟨some 67, .l (.addr 5 5 18), none⟩
 (.op ⟨none, .l (.store 67 5 2 (.tmp 65)), none⟩
 (.op ⟨none, .l (.store 1 1 2 (.tmp 66)), none⟩ .done)))))))))
 (.seq (.reg (.op ⟨some 69, .l (.load 1 1 2 true), none⟩
 (.op ⟨some 70, .call 73 [.tmp 69], none⟩
 (.op ⟨some 68, .p (.mov (.tmp 70)), none⟩
 (.op ⟨some 71, .p (.extract (.tmp 68) 0), none⟩
 (.op ⟨some 72, .p (.extract (.tmp 68) 1), none⟩
 (.op ⟨some 73, .l (.addr 5 5 20), none⟩
 (.op ⟨none, .l (.store 73 5 2 (.tmp 71)), none⟩
 (.op ⟨none, .l (.store 1 1 2 (.tmp 72)), none⟩ .done)))))))))
 (.seq (.reg (.op ⟨some 75, .l (.load 1 1 2 true), none⟩
 (.op ⟨some 76, .call 72 [.tmp 75], none⟩
 (.op ⟨some 74, .p (.mov (.tmp 76)), none⟩
 (.op ⟨some 77, .p (.extract (.tmp 74) 0), none⟩
 (.op ⟨some 78, .p (.extract (.tmp 74) 1), none⟩
 (.op ⟨some 79, .l (.addr 5 5 22), none⟩
 (.op ⟨none, .l (.store 79 5 8 (.tmp 77)), none⟩
 (.op ⟨none, .l (.store 1 1 2 (.tmp 78)), none⟩ .done)))))))))
 (.seq (.reg (.op ⟨some 81, .l (.load 1 1 2 true), none⟩
 (.op ⟨some 82, .call 72 [.tmp 81], none⟩
 (.op ⟨some 80, .p (.mov (.tmp 82)), none⟩
 (.op ⟨some 83, .p (.extract (.tmp 80) 0), none⟩
 (.op ⟨some 84, .p (.extract (.tmp 80) 1), none⟩
 (.op ⟨some 85, .l (.addr 5 5 30), none⟩
 (.op ⟨none, .l (.store 85 5 8 (.tmp 83)), none⟩
 (.op ⟨none, .l (.store 1 1 2 (.tmp 84)), none⟩ .done)))))))))
 (.seq (.seq (.reg (.op ⟨some 86, .p (.mov (.const (.int .i64 0))), none⟩ .done))
 (.block 0 (.loop (.seq (.reg (.op ⟨some 87, .p (.int2 .lss (.tmp 86) (.const (.int .i64 4))), none⟩ .done))
 (.seq (.cond (.tmp 87) (.skip)
 (.exit 0))
 (.seq (.block 1 (.seq (.reg (.op ⟨some 88, .p (.mov (.tmp 86)), none⟩
 (.op ⟨some 6, .p (.mov (.tmp 88)), none⟩ .done)))
 (.reg (.op ⟨some 90, .p (.mov (.tmp 6)), none⟩
 (.op ⟨some 91, .l (.load 1 1 2 true), none⟩
 (.op ⟨some 92, .call 74 [.tmp 91], none⟩
 (.op ⟨some 89, .p (.mov (.tmp 92)), none⟩
 (.op ⟨some 93, .p (.extract (.tmp 89) 0), none⟩
 (.op ⟨some 94, .p (.extract (.tmp 89) 1), none⟩
 (.op ⟨some 95, .l (.addr 5 5 38), none⟩
 (.op ⟨some 96, .l (.idx 95 5 4 1 (.tmp 90)), none⟩
 (.op ⟨none, .l (.store 96 5 1 (.tmp 93)), none⟩
 (.op ⟨none, .l (.store 1 1 2 (.tmp 94)), none⟩ .done)))))))))))))
 (.reg (.op ⟨some 97, .p (.int2 .add (.tmp 86) (.const (.int .i64 1))), none⟩
 (.op ⟨some 86, .p (.mov (.tmp 97)), none⟩ .done)))))))))
 (.seq (.seq (.reg (.op ⟨some 98, .l (.addr 5 5 43), none⟩
 (.op ⟨some 99, .l (.load 98 5 1 false), none⟩ .done)))
 (.cond (.tmp 99) (.reg (.op ⟨some 101, .l (.load 1 1 2 true), none⟩
 (.op ⟨some 102, .call 74 [.tmp 101], none⟩
 (.op ⟨some 100, .p (.mov (.tmp 102)), none⟩
 (.op ⟨some 103, .p (.extract (.tmp 100) 0), none⟩
 (.op ⟨some 104, .p (.extract (.tmp 100) 1), none⟩
 (.op ⟨some 105, .l (.addr 5 5 44), none⟩
 (.op ⟨none, .l (.store 105 5 1 (.tmp 103)), none⟩
 (.op ⟨none, .l (.store 1 1 2 (.tmp 104)), none⟩ .done)))))))))
 (.skip)))
 (.seq (.reg (.op ⟨some 107, .l (.load 1 1 2 true), none⟩
 (.op ⟨some 108, .call 74 [.tmp 107], none⟩
 (.op ⟨some 106, .p (.mov (.tmp 108)), none⟩
 (.op ⟨some 109, .p (.extract (.tmp 106) 0), none⟩
 (.op ⟨some 110, .p (.extract (.tmp 106) 1), none⟩
 (.op ⟨some 111, .l (.addr 5 5 46), none⟩
 (.op ⟨none, .l (.store 111 5 1 (.tmp 109)), none⟩
 (.op ⟨none, .l (.store 1 1 2 (.tmp 110)), none⟩ .done)))))))))
 (.seq (.reg (.op ⟨some 113, .l (.load 1 1 2 true), none⟩
 (.op ⟨some 114, .call 74 [.tmp 113], none⟩
 (.op ⟨some 112, .p (.mov (.tmp 114)), none⟩
 (.op ⟨some 115, .p (.extract (.tmp 112) 0), none⟩
 (.op ⟨some 116, .p (.extract (.tmp 112) 1), none⟩
 (.op ⟨some 117, .l (.addr 5 5 47), none⟩
 (.op ⟨none, .l (.store 117 5 1 (.tmp 115)), none⟩
 (.op ⟨none, .l (.store 1 1 2 (.tmp 116)), none⟩ .done)))))))))
 (.seq (.seq (.reg (.op ⟨some 118, .l (.addr 1 1 1), none⟩
 (.op ⟨some 119, .l (.load 118 1 1 false), none⟩
 (.op ⟨some 120, .p (.mov (.tmp 119)), none⟩
 (.op ⟨some 121, .p (.mov (.tmp 4)), some (120, false)⟩
 (.op ⟨some 122, .p (.int2 .gtr (.tmp 121) (.const (.int .u64 63))), some (120, false)⟩
 (.op ⟨some 123, .p (.pick (.tmp 120) (.const (.bool true)) (.tmp 122)), none⟩
 (.op ⟨some 124, .p (.mov (.tmp 123)), none⟩
 (.op ⟨some 125, .l (.load 5 5 48 true), some (124, false)⟩
 (.op ⟨some 126, .call 21 [.tmp 125], some (124, false)⟩
 (.op ⟨some 127, .p (.un .not (.tmp 126)), some (124, false)⟩
 (.op ⟨some 128, .p (.pick (.tmp 124) (.const (.bool true)) (.tmp 127)), none⟩ .done))))))))))))
 (.cond (.tmp 128) (.seq (.reg (.op ⟨some 129, .p (.build [.bool false, .int .i64 0, .int .i64 0, .int .i64 0, .int .i64 0, .int .i64 0, .int .i64 0, .int .i64 0, .int .i64 0, .int .i64 0, .int .i64 0, .int .i64 0, .int .i64 0, .int .i64 0, .int .i64 0, .int .i64 0, .int .i64 0, .int .i64 0, .int .i64 0, .int .i64 0, .int .i64 0, .int .i64 0, .int .i64 0, .int .i64 0, .int .i64 0, .int .i64 0, .int .i64 0, .int .i64 0, .int .i64 0, .int .i64 0, .int .i64 0, .int .i64 0, .int .i64 0, .int .i64 0, .int .i64 0, .int .i64 0, .int .i64 0, .int .i64 0, .int .i64 0, .int .i64 0, .int .i64 0, .int .i64 0, .bool false, .bool false, .int .i64 0, .bool false, .int .i64 0, .int .i64 0] []), none⟩
 (.op ⟨some 130, .p (.build [.slice none 0 0, .bool false] [(1, 1, .const (.bool true))]), none⟩
 (.op ⟨none, .l (.store 2 2 48 (.tmp 129)), none⟩
 (.op ⟨none, .l (.store 3 3 2 (.tmp 130)), none⟩ .done)))))
 (.ret))
 (.skip)))
 (.seq (.reg (.op ⟨some 131, .l (.load 5 5 48 true), none⟩
 (.op ⟨some 132, .l (.load 1 1 2 true), none⟩
 (.op ⟨none, .l (.store 2 2 48 (.tmp 131)), none⟩
 (.op ⟨none, .l (.store 3 3 2 (.tmp 132)), none⟩
 (.done))))))
 (.ret))))))))))))))))))⟩

theorem cN41 : compF Try.prog aN41.cfg.pm aN41.cfg.lz Try.f41 = some aN41 := by kernel_rfl
theorem kN41 : aN41.ok = true := by kernel_rfl

end Go.Proofs.Ytbgnaeagdneikaa
