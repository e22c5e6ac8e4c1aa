/- The compiled code of functions of the seat, printed by a program of mine (gen.py), checked by the kernel. -/
import Derived.Test.YtbgnaeagdneikaaCoreAi
import Derived.Test.YtbgnaeagdneikaaProg
import Derived.KernelRfl
namespace Go.Proofs.Ytbgnaeagdneikaa
open Go Go.Proofs.Ytbgnaeagdneikaa.Abs
set_option maxRecDepth 100000

-- (decoupage/decoupageref05.In).Take
def aN35 : AFun := ⟨⟨38, [(2, false, [8, 11, 24, 33]), (5, false, [])], true⟩, [.tmp 4, .lcell 5 2 true],
 .seq (.reg (.op ⟨some 2, .l (.box 2 none (.tmp 0)), none⟩
 (.op ⟨some 4, .p (.mov (.const (.int .u64 0))), none⟩
 (.op ⟨some 5, .l (.new 5 none [.slice none 0 0, .bool false]), none⟩ .done))))
 (.seq (.seq (.reg (.op ⟨some 8, .l (.addr 2 2 1), none⟩
 (.op ⟨some 9, .l (.load 8 2 1 false), none⟩
 (.op ⟨some 10, .p (.mov (.tmp 9)), none⟩
 (.op ⟨some 11, .l (.addr 2 2 0), some (10, false)⟩
 (.op ⟨some 12, .l (.load 11 2 1 false), some (10, false)⟩
 (.op ⟨some 13, .p (.lenS (.tmp 12)), some (10, false)⟩
 (.op ⟨some 14, .p (.mov (.tmp 1)), some (10, false)⟩
 (.op ⟨some 15, .p (.int2 .lss (.tmp 13) (.tmp 14)), some (10, false)⟩
 (.op ⟨some 16, .p (.pick (.tmp 10) (.const (.bool true)) (.tmp 15)), none⟩ .done))))))))))
 (.cond (.tmp 16) (.seq (.reg (.op ⟨some 17, .p (.build [.slice none 0 0, .bool false] [(1, 1, .const (.bool true))]), none⟩
 (.op ⟨some 4, .p (.mov (.const (.int .u64 0))), none⟩
 (.op ⟨none, .l (.store 5 5 2 (.tmp 17)), none⟩ .done))))
 (.ret))
 (.skip)))
 (.seq (.reg (.op ⟨some 6, .p (.mov (.const (.int .u64 0))), none⟩ .done))
 (.seq (.seq (.reg (.op ⟨some 18, .p (.mov (.tmp 1)), none⟩
 (.op ⟨some 19, .p (.mov (.const (.int .i64 0))), none⟩ .done)))
 (.block 0 (.loop (.seq (.reg (.op ⟨some 20, .p (.int2 .lss (.tmp 19) (.tmp 18)), none⟩ .done))
 (.seq (.cond (.tmp 20) (.skip)
 (.exit 0))
 (.seq (.block 1 (.seq (.reg (.op ⟨some 21, .p (.mov (.tmp 19)), none⟩
 (.op ⟨some 7, .p (.mov (.tmp 21)), none⟩ .done)))
 (.reg (.op ⟨some 22, .p (.mov (.tmp 6)), none⟩
 (.op ⟨some 23, .p (.int2 .mul (.tmp 22) (.const (.int .u64 256))), none⟩
 (.op ⟨some 24, .l (.addr 2 2 0), none⟩
 (.op ⟨some 25, .l (.load 24 2 1 false), none⟩
 (.op ⟨some 26, .p (.mov (.tmp 7)), none⟩
 (.op ⟨some 27, .p (.idxS 1 (.tmp 25) (.tmp 26)), none⟩
 (.op ⟨some 28, .h (.load 1 false (.tmp 27)), none⟩
 (.op ⟨some 29, .p (.conv .u64 (.tmp 28)), none⟩
 (.op ⟨some 30, .p (.int2 .add (.tmp 23) (.tmp 29)), none⟩
 (.op ⟨some 6, .p (.mov (.tmp 30)), none⟩ .done)))))))))))))
 (.reg (.op ⟨some 31, .p (.int2 .add (.tmp 19) (.const (.int .i64 1))), none⟩
 (.op ⟨some 19, .p (.mov (.tmp 31)), none⟩ .done)))))))))
 (.seq (.reg (.op ⟨some 32, .p (.mov (.tmp 6)), none⟩
 (.op ⟨some 33, .l (.addr 2 2 0), none⟩
 (.op ⟨some 34, .l (.load 33 2 1 false), none⟩
 (.op ⟨some 35, .p (.mov (.tmp 1)), none⟩
 (.op ⟨some 36, .p (.sliceS 1 (.tmp 34) (some (.tmp 35)) none), none⟩
 (.op ⟨some 37, .p (.build [.slice none 0 0, .bool false] [(0, 1, .tmp 36)]), none⟩
 (.op ⟨some 4, .p (.mov (.tmp 32)), none⟩
 (.op ⟨none, .l (.store 5 5 2 (.tmp 37)), none⟩
 (.done))))))))))
 (.ret)))))⟩

theorem cN35 : compF Try.prog aN35.cfg.pm aN35.cfg.lz Try.f35 = some aN35 := by kernel_rfl
theorem kN35 : aN35.ok = true := by kernel_rfl

-- decoupage/decoupageref06.four
def aN72 : AFun := ⟨⟨19, [(1, false, []), (2, false, []), (3, false, []), (4, false, [15])], true⟩, [.lcell 2 8 true, .lcell 3 2 true],
 .seq (.reg (.op ⟨some 1, .l (.box 1 none (.tmp 0)), none⟩
 (.op ⟨some 2, .l (.new 2 none [.int .i64 0, .int .i64 0, .int .i64 0, .int .i64 0, .int .i64 0, .int .i64 0, .int .i64 0, .int .i64 0]), none⟩
 (.op ⟨some 3, .l (.new 3 none [.slice none 0 0, .bool false]), none⟩ .done))))
 (.seq (.reg (.op ⟨some 4, .l (.new 4 none [.int .i64 0, .int .i64 0, .int .i64 0, .int .i64 0, .int .i64 0, .int .i64 0, .int .i64 0, .int .i64 0]), none⟩ .done))
 (.seq (.seq (.reg (.op ⟨some 6, .p (.mov (.const (.int .i64 0))), none⟩ .done))
 (.block 0 (.loop (.seq (.reg (.op ⟨some 7, .p (.int2 .lss (.tmp 6) (.const (.int .i64 4))), none⟩ .done))
 (.seq (.cond (.tmp 7) (.skip)
 (.exit 0))
 (.seq (.block 1 (.seq (.reg (.op ⟨some 8, .p (.mov (.tmp 6)), none⟩
 (.op ⟨some 5, .p (.mov (.tmp 8)), none⟩ .done)))
 (.reg (.op ⟨some 10, .p (.mov (.tmp 5)), none⟩
 (.op ⟨some 11, .l (.load 1 1 2 true), none⟩
 (.op ⟨some 12, .call 73 [.tmp 11], none⟩
 (.op ⟨some 9, .p (.mov (.tmp 12)), none⟩
 (.op ⟨some 13, .p (.extract (.tmp 9) 0), none⟩
 (.op ⟨some 14, .p (.extract (.tmp 9) 1), none⟩
 (.op ⟨some 15, .l (.idx 4 4 4 2 (.tmp 10)), none⟩
 (.op ⟨none, .l (.store 15 4 2 (.tmp 13)), none⟩
 (.op ⟨none, .l (.store 1 1 2 (.tmp 14)), none⟩ .done))))))))))))
 (.reg (.op ⟨some 16, .p (.int2 .add (.tmp 6) (.const (.int .i64 1))), none⟩
 (.op ⟨some 6, .p (.mov (.tmp 16)), none⟩ .done)))))))))
 (.seq (.reg (.op ⟨some 17, .l (.load 4 4 8 true), none⟩
 (.op ⟨some 18, .l (.load 1 1 2 true), none⟩
 (.op ⟨none, .l (.store 2 2 8 (.tmp 17)), none⟩
 (.op ⟨none, .l (.store 3 3 2 (.tmp 18)), none⟩
 (.done))))))
 (.ret))))⟩

theorem cN72 : compF Try.prog aN72.cfg.pm aN72.cfg.lz Try.f72 = some aN72 := by kernel_rfl
theorem kN72 : aN72.ok = true := by kernel_rfl

-- decoupage/decoupageref06.length
def aN73 : AFun := ⟨⟨24, [(1, false, []), (2, false, []), (3, false, []), (5, false, [21])], true⟩, [.lcell 2 2 true, .lcell 3 2 true],
 .seq (.reg (.op ⟨some 1, .l (.box 1 none (.tmp 0)), none⟩
 (.op ⟨some 2, .l (.new 2 none [.int .i64 0, .int .i64 0]), none⟩
 (.op ⟨some 3, .l (.new 3 none [.slice none 0 0, .bool false]), none⟩ .done))))
 (.seq (.reg (.op ⟨some 7, .l (.load 1 1 2 true), none⟩
 (.op ⟨some 8, .call 35 [.tmp 7, .const (.int .i64 1)], none⟩
 (.op ⟨some 6, .p (.mov (.tmp 8)), none⟩
 (.op ⟨some 9, .p (.extract (.tmp 6) 0), none⟩
 (.op ⟨some 10, .p (.extract (.tmp 6) 1), none⟩
 (.op ⟨some 4, .p (.mov (.tmp 9)), none⟩
 (.op ⟨none, .l (.store 1 1 2 (.tmp 10)), none⟩ .done))))))))
 (.seq (.reg (.op ⟨some 11, .p (.mov (.tmp 4)), none⟩
 (.op ⟨some 12, .p (.conv .i64 (.tmp 11)), none⟩
 (.op ⟨some 13, .p (.build [.int .i64 0, .int .i64 0] [(0, 1, .tmp 12)]), none⟩
 (.op ⟨some 5, .l (.new 5 none [.int .i64 0, .int .i64 0]), none⟩
 (.op ⟨none, .l (.store 5 5 2 (.tmp 13)), none⟩ .done))))))
 (.seq (.seq (.reg (.op ⟨some 14, .p (.mov (.tmp 4)), none⟩
 (.op ⟨some 15, .p (.int2 .neq (.tmp 14) (.const (.int .u64 0))), none⟩ .done)))
 (.cond (.tmp 15) (.reg (.op ⟨some 17, .l (.load 1 1 2 true), none⟩
 (.op ⟨some 18, .call 74 [.tmp 17], none⟩
 (.op ⟨some 16, .p (.mov (.tmp 18)), none⟩
 (.op ⟨some 19, .p (.extract (.tmp 16) 0), none⟩
 (.op ⟨some 20, .p (.extract (.tmp 16) 1), none⟩
 (.op ⟨some 21, .l (.addr 5 5 1), none⟩
 (.op ⟨none, .l (.store 21 5 1 (.tmp 19)), none⟩
 (.op ⟨none, .l (.store 1 1 2 (.tmp 20)), none⟩ .done)))))))))
 (.skip)))
 (.seq (.reg (.op ⟨some 22, .l (.load 5 5 2 true), none⟩
 (.op ⟨some 23, .l (.load 1 1 2 true), none⟩
 (.op ⟨none, .l (.store 2 2 2 (.tmp 22)), none⟩
 (.op ⟨none, .l (.store 3 3 2 (.tmp 23)), none⟩
 (.done))))))
 (.ret)))))⟩

theorem cN73 : compF Try.prog aN73.cfg.pm aN73.cfg.lz Try.f73 = some aN73 := by kernel_rfl
theorem kN73 : aN73.ok = true := by kernel_rfl

-- (decoupage/decoupageref05.In).Eight
def aN74 : AFun := ⟨⟨14, [(1, false, []), (3, false, []), (5, false, [])], true⟩, [.tmp 2, .lcell 3 2 true],
 .seq (.reg (.op ⟨some 1, .l (.box 1 none (.tmp 0)), none⟩
 (.op ⟨some 2, .p (.mov (.const (.int .i64 0))), none⟩
 (.op ⟨some 3, .l (.new 3 none [.slice none 0 0, .bool false]), none⟩ .done))))
 (.seq (.reg (.op ⟨some 7, .l (.load 1 1 2 true), none⟩
 (.op ⟨some 8, .call 35 [.tmp 7, .const (.int .i64 8)], none⟩
 (.op ⟨some 6, .p (.mov (.tmp 8)), none⟩
 (.op ⟨some 9, .p (.extract (.tmp 6) 0), none⟩
 (.op ⟨some 10, .p (.extract (.tmp 6) 1), none⟩
 (.op ⟨some 5, .l (.new 5 none [.slice none 0 0, .bool false]), none⟩
 (.op ⟨some 4, .p (.mov (.tmp 9)), none⟩
 (.op ⟨none, .l (.store 5 5 2 (.tmp 10)), none⟩ .done)))))))))
 (.seq (.reg (.op ⟨some 11, .p (.mov (.tmp 4)), none⟩
 (.op ⟨some 12, .p (.conv .i64 (.tmp 11)), none⟩
 (.op ⟨some 13, .l (.load 5 5 2 true), none⟩
 (.op ⟨some 2, .p (.mov (.tmp 12)), none⟩
 (.op ⟨none, .l (.store 3 3 2 (.tmp 13)), none⟩
 (.done)))))))
 (.ret)))⟩

theorem cN74 : compF Try.prog aN74.cfg.pm aN74.cfg.lz Try.f74 = some aN74 := by kernel_rfl
theorem kN74 : aN74.ok = true := by kernel_rfl

end Go.Proofs.Ytbgnaeagdneikaa
namespace Go.Proofs.Ytbgnaeagdneikaa
open Go Go.Proofs.Ytbgnaeagdneikaa.Abs
set_option maxRecDepth 100000

-- decoupage/decoupageref06.From
def aN41 : AFun := ⟨⟨133, [(1, false, [118]), (2, false, []), (3, false, []), (5, false, [37, 43, 49, 55, 61, 67, 73, 79, 85, 95, 96, 98, 105, 111, 117])], true⟩, [.lcell 2 48 true, .lcell 3 2 true],
 .seq (.reg (.op ⟨some 1, .l (.box 1 none (.tmp 0)), none⟩
 (.op ⟨some 2, .l (.new 2 none [.bool false, .int .i64 0, .int .i64 0, .int .i64 0, .int .i64 0, .int .i64 0, .int .i64 0, .int .i64 0, .int .i64 0, .int .i64 0, .int .i64 0, .int .i64 0, .int .i64 0, .int .i64 0, .int .i64 0, .int .i64 0, .int .i64 0, .int .i64 0, .int .i64 0, .int .i64 0, .int .i64 0, .int .i64 0, .int .i64 0, .int .i64 0, .int .i64 0, .int .i64 0, .int .i64 0, .int .i64 0, .int .i64 0, .int .i64 0, .int .i64 0, .int .i64 0, .int .i64 0, .int .i64 0, .int .i64 0, .int .i64 0, .int .i64 0, .int .i64 0, .int .i64 0, .int .i64 0, .int .i64 0, .int .i64 0, .bool false, .bool false, .int .i64 0, .bool false, .int .i64 0, .int .i64 0]), none⟩
 (.op ⟨some 3, .l (.new 3 none [.slice none 0 0, .bool false]), none⟩ .done))))
 (.seq (.reg (.op ⟨some 8, .l (.load 1 1 2 true), none⟩
 (.op ⟨some 9, .call 35 [.tmp 8, .const (.int .i64 1)], none⟩
 (.op ⟨some 7, .p (.mov (.tmp 9)), none⟩
 (.op ⟨some 10, .p (.extract (.tmp 7) 0), none⟩
 (.op ⟨some 11, .p (.extract (.tmp 7) 1), none⟩
 (.op ⟨some 4, .p (.mov (.tmp 10)), none⟩
 (.op ⟨none, .l (.store 1 1 2 (.tmp 11)), none⟩ .done))))))))
 (.seq (.reg (.op ⟨some 12, .p (.mov (.tmp 4)), none⟩
 (.op ⟨some 13, .p (.int2 .rem (.tmp 12) (.const (.int .u64 2))), none⟩
 (.op ⟨some 14, .p (.int2 .eql (.tmp 13) (.const (.int .u64 1))), none⟩
 (.op ⟨some 15, .p (.mov (.tmp 4)), none⟩
 (.op ⟨some 16, .p (.int2 .quo (.tmp 15) (.const (.int .u64 2))), none⟩
 (.op ⟨some 17, .p (.int2 .rem (.tmp 16) (.const (.int .u64 4))), none⟩
 (.op ⟨some 18, .p (.conv .i64 (.tmp 17)), none⟩
 (.op ⟨some 19, .p (.mov (.tmp 4)), none⟩
 (.op ⟨some 20, .p (.int2 .quo (.tmp 19) (.const (.int .u64 8))), none⟩
 (.op ⟨some 21, .p (.int2 .rem (.tmp 20) (.const (.int .u64 2))), none⟩
 (.op ⟨some 22, .p (.int2 .eql (.tmp 21) (.const (.int .u64 1))), none⟩
 (.op ⟨some 23, .p (.mov (.tmp 4)), none⟩
 (.op ⟨some 24, .p (.int2 .quo (.tmp 23) (.const (.int .u64 16))), none⟩
 (.op ⟨some 25, .p (.int2 .rem (.tmp 24) (.const (.int .u64 2))), none⟩
 (.op ⟨some 26, .p (.int2 .eql (.tmp 25) (.const (.int .u64 1))), none⟩
 (.op ⟨some 27, .p (.mov (.tmp 4)), none⟩
 (.op ⟨some 28, .p (.int2 .quo (.tmp 27) (.const (.int .u64 32))), none⟩
 (.op ⟨some 29, .p (.int2 .rem (.tmp 28) (.const (.int .u64 2))), none⟩
 (.op ⟨some 30, .p (.int2 .eql (.tmp 29) (.const (.int .u64 1))), none⟩
 (.op ⟨some 31, .p (.build [.bool false, .int .i64 0, .int .i64 0, .int .i64 0, .int .i64 0, .int .i64 0, .int .i64 0, .int .i64 0, .int .i64 0, .int .i64 0, .int .i64 0, .int .i64 0, .int .i64 0, .int .i64 0, .int .i64 0, .int .i64 0, .int .i64 0, .int .i64 0, .int .i64 0, .int .i64 0, .int .i64 0, .int .i64 0, .int .i64 0, .int .i64 0, .int .i64 0, .int .i64 0, .int .i64 0, .int .i64 0, .int .i64 0, .int .i64 0, .int .i64 0, .int .i64 0, .int .i64 0, .int .i64 0, .int .i64 0, .int .i64 0, .int .i64 0, .int .i64 0, .int .i64 0, .int .i64 0, .int .i64 0, .int .i64 0, .bool false, .bool false, .int .i64 0, .bool false, .int .i64 0, .int .i64 0] [(0, 1, .tmp 14), (1, 1, .tmp 18), (42, 1, .tmp 22), (43, 1, .tmp 26), (45, 1, .tmp 30)]), none⟩
 (.op ⟨some 5, .l (.new 5 none [.bool false, .int .i64 0, .int .i64 0, .int .i64 0, .int .i64 0, .int .i64 0, .int .i64 0, .int .i64 0, .int .i64 0, .int .i64 0, .int .i64 0, .int .i64 0, .int .i64 0, .int .i64 0, .int .i64 0, .int .i64 0, .int .i64 0, .int .i64 0, .int .i64 0, .int .i64 0, .int .i64 0, .int .i64 0, .int .i64 0, .int .i64 0, .int .i64 0, .int .i64 0, .int .i64 0, .int .i64 0, .int .i64 0, .int .i64 0, .int .i64 0, .int .i64 0, .int .i64 0, .int .i64 0, .int .i64 0, .int .i64 0, .int .i64 0, .int .i64 0, .int .i64 0, .int .i64 0, .int .i64 0, .int .i64 0, .bool false, .bool false, .int .i64 0, .bool false, .int .i64 0, .int .i64 0]), none⟩
 (.op ⟨none, .l (.store 5 5 48 (.tmp 31)), none⟩ .done)))))))))))))))))))))))
 (.seq (.reg (.op ⟨some 33, .l (.load 1 1 2 true), none⟩
 (.op ⟨some 34, .call 72 [.tmp 33], none⟩
 (.op ⟨some 32, .p (.mov (.tmp 34)), none⟩
 (.op ⟨some 35, .p (.extract (.tmp 32) 0), none⟩
 (.op ⟨some 36, .p (.extract (.tmp 32) 1), none⟩
 (.op ⟨some 37, .l (.addr 5 5 2), none⟩
 (.op ⟨none, .l (.store 37 5 8 (.tmp 35)), none⟩
 (.op ⟨none, .l (.store 1 1 2 (.tmp 36)), none⟩ .done)))))))))
 (.seq (.reg (.op ⟨some 39, .l (.load 1 1 2 true), none⟩
 (.op ⟨some 40, .call 73 [.tmp 39], none⟩
 (.op ⟨some 38, .p (.mov (.tmp 40)), none⟩
 (.op ⟨some 41, .p (.extract (.tmp 38) 0), none⟩
 (.op ⟨some 42, .p (.extract (.tmp 38) 1), none⟩
 (.op ⟨some 43, .l (.addr 5 5 10), none⟩
 (.op ⟨none, .l (.store 43 5 2 (.tmp 41)), none⟩
 (.op ⟨none, .l (.store 1 1 2 (.tmp 42)), none⟩ .done)))))))))
 (.seq (.reg (.op ⟨some 45, .l (.load 1 1 2 true), none⟩
 (.op ⟨some 46, .call 73 [.tmp 45], none⟩
 (.op ⟨some 44, .p (.mov (.tmp 46)), none⟩
 (.op ⟨some 47, .p (.extract (.tmp 44) 0), none⟩
 (.op ⟨some 48, .p (.extract (.tmp 44) 1), none⟩
 (.op ⟨some 49, .l (.addr 5 5 12), none⟩
 (.op ⟨none, .l (.store 49 5 2 (.tmp 47)), none⟩
 (.op ⟨none, .l (.store 1 1 2 (.tmp 48)), none⟩ .done)))))))))
 (.seq (.reg (.op ⟨some 51, .l (.load 1 1 2 true), none⟩
 (.op ⟨some 52, .call 73 [.tmp 51], none⟩
 (.op ⟨some 50, .p (.mov (.tmp 52)), none⟩
 (.op ⟨some 53, .p (.extract (.tmp 50) 0), none⟩
 (.op ⟨some 54, .p (.extract (.tmp 50) 1), none⟩
 (.op ⟨some 55, .l (.addr 5 5 14), none⟩
 (.op ⟨none, .l (.store 55 5 2 (.tmp 53)), none⟩
 (.op ⟨none, .l (.store 1 1 2 (.tmp 54)), none⟩ .done)))))))))
 (.seq (.reg (.op ⟨some 57, .l (.load 1 1 2 true), none⟩
 (.op ⟨some 58, .call 73 [.tmp 57], none⟩
 (.op ⟨some 56, .p (.mov (.tmp 58)), none⟩
 (.op ⟨some 59, .p (.extract (.tmp 56) 0), none⟩
 (.op ⟨some 60, .p (.extract (.tmp 56) 1), none⟩
 (.op ⟨some 61, .l (.addr 5 5 16), none⟩
 (.op ⟨none, .l (.store 61 5 2 (.tmp 59)), none⟩
 (.op ⟨none, .l (.store 1 1 2 (.tmp 60)), none⟩ .done)))))))))
 (.seq (.reg (.op ⟨some 63, .l (.load 1 1 2 true), none⟩
 (.op ⟨some 64, .call 73 [.tmp 63], none⟩
 (.op ⟨some 62, .p (.mov (.tmp 64)), none⟩
 (.op ⟨some 65, .p (.extract (.tmp 62) 0), none⟩
 (.op ⟨some 66, .p (.extract (.tmp 62) 1), none⟩
 (.op ⟨some 67, .l (.addr 5 5 18), none⟩
 (.op ⟨none, .l (.store 67 5 2 (.tmp 65)), none⟩
 (.op ⟨none, .l (.store 1 1 2 (.tmp 66)), none⟩ .done)))))))))
 (.seq (.reg (.op ⟨some 69, .l (.load 1 1 2 true), none⟩
 (.op ⟨some 70, .call 73 [.tmp 69], none⟩
 (.op ⟨some 68, .p (.mov (.tmp 70)), none⟩
 (.op ⟨some 71, .p (.extract (.tmp 68) 0), none⟩
 (.op ⟨some 72, .p (.extract (.tmp 68) 1), none⟩
 (.op ⟨some 73, .l (.addr 5 5 20), none⟩
 (.op ⟨none, .l (.store 73 5 2 (.tmp 71)), none⟩
 (.op ⟨none, .l (.store 1 1 2 (.tmp 72)), none⟩ .done)))))))))
 (.seq (.reg (.op ⟨some 75, .l (.load 1 1 2 true), none⟩
 (.op ⟨some 76, .call 72 [.tmp 75], none⟩
 (.op ⟨some 74, .p (.mov (.tmp 76)), none⟩
 (.op ⟨some 77, .p (.extract (.tmp 74) 0), none⟩
 (.op ⟨some 78, .p (.extract (.tmp 74) 1), none⟩
 (.op ⟨some 79, .l (.addr 5 5 22), none⟩
 (.op ⟨none, .l (.store 79 5 8 (.tmp 77)), none⟩
 (.op ⟨none, .l (.store 1 1 2 (.tmp 78)), none⟩ .done)))))))))
 (.seq (.reg (.op ⟨some 81, .l (.load 1 1 2 true), none⟩
 (.op ⟨some 82, .call 72 [.tmp 81], none⟩
 (.op ⟨some 80, .p (.mov (.tmp 82)), none⟩
 (.op ⟨some 83, .p (.extract (.tmp 80) 0), none⟩
 (.op ⟨some 84, .p (.extract (.tmp 80) 1), none⟩
 (.op ⟨some 85, .l (.addr 5 5 30), none⟩
 (.op ⟨none, .l (.store 85 5 8 (.tmp 83)), none⟩
 (.op ⟨none, .l (.store 1 1 2 (.tmp 84)), none⟩ .done)))))))))
 (.seq (.seq (.reg (.op ⟨some 86, .p (.mov (.const (.int .i64 0))), none⟩ .done))
 (.block 0 (.loop (.seq (.reg (.op ⟨some 87, .p (.int2 .lss (.tmp 86) (.const (.int .i64 4))), none⟩ .done))
 (.seq (.cond (.tmp 87) (.skip)
 (.exit 0))
 (.seq (.block 1 (.seq (.reg (.op ⟨some 88, .p (.mov (.tmp 86)), none⟩
 (.op ⟨some 6, .p (.mov (.tmp 88)), none⟩ .done)))
 (.reg (.op ⟨some 90, .p (.mov (.tmp 6)), none⟩
 (.op ⟨some 91, .l (.load 1 1 2 true), none⟩
 (.op ⟨some 92, .call 74 [.tmp 91], none⟩
 (.op ⟨some 89, .p (.mov (.tmp 92)), none⟩
 (.op ⟨some 93, .p (.extract (.tmp 89) 0), none⟩
 (.op ⟨some 94, .p (.extract (.tmp 89) 1), none⟩
 (.op ⟨some 95, .l (.addr 5 5 38), none⟩
 (.op ⟨some 96, .l (.idx 95 5 4 1 (.tmp 90)), none⟩
 (.op ⟨none, .l (.store 96 5 1 (.tmp 93)), none⟩
 (.op ⟨none, .l (.store 1 1 2 (.tmp 94)), none⟩ .done)))))))))))))
 (.reg (.op ⟨some 97, .p (.int2 .add (.tmp 86) (.const (.int .i64 1))), none⟩
 (.op ⟨some 86, .p (.mov (.tmp 97)), none⟩ .done)))))))))
 (.seq (.seq (.reg (.op ⟨some 98, .l (.addr 5 5 43), none⟩
 (.op ⟨some 99, .l (.load 98 5 1 false), none⟩ .done)))
 (.cond (.tmp 99) (.reg (.op ⟨some 101, .l (.load 1 1 2 true), none⟩
 (.op ⟨some 102, .call 74 [.tmp 101], none⟩
 (.op ⟨some 100, .p (.mov (.tmp 102)), none⟩
 (.op ⟨some 103, .p (.extract (.tmp 100) 0), none⟩
 (.op ⟨some 104, .p (.extract (.tmp 100) 1), none⟩
 (.op ⟨some 105, .l (.addr 5 5 44), none⟩
 (.op ⟨none, .l (.store 105 5 1 (.tmp 103)), none⟩
 (.op ⟨none, .l (.store 1 1 2 (.tmp 104)), none⟩ .done)))))))))
 (.skip)))
 (.seq (.reg (.op ⟨some 107, .l (.load 1 1 2 true), none⟩
 (.op ⟨some 108, .call 74 [.tmp 107], none⟩
 (.op ⟨some 106, .p (.mov (.tmp 108)), none⟩
 (.op ⟨some 109, .p (.extract (.tmp 106) 0), none⟩
 (.op ⟨some 110, .p (.extract (.tmp 106) 1), none⟩
 (.op ⟨some 111, .l (.addr 5 5 46), none⟩
 (.op ⟨none, .l (.store 111 5 1 (.tmp 109)), none⟩
 (.op ⟨none, .l (.store 1 1 2 (.tmp 110)), none⟩ .done)))))))))
 (.seq (.reg (.op ⟨some 113, .l (.load 1 1 2 true), none⟩
 (.op ⟨some 114, .call 74 [.tmp 113], none⟩
 (.op ⟨some 112, .p (.mov (.tmp 114)), none⟩
 (.op ⟨some 115, .p (.extract (.tmp 112) 0), none⟩
 (.op ⟨some 116, .p (.extract (.tmp 112) 1), none⟩
 (.op ⟨some 117, .l (.addr 5 5 47), none⟩
 (.op ⟨none, .l (.store 117 5 1 (.tmp 115)), none⟩
 (.op ⟨none, .l (.store 1 1 2 (.tmp 116)), none⟩ .done)))))))))
 (.seq (.seq (.reg (.op ⟨some 118, .l (.addr 1 1 1), none⟩
 (.op ⟨some 119, .l (.load 118 1 1 false), none⟩
 (.op ⟨some 120, .p (.mov (.tmp 119)), none⟩
 (.op ⟨some 121, .p (.mov (.tmp 4)), some (120, false)⟩
 (.op ⟨some 122, .p (.int2 .gtr (.tmp 121) (.const (.int .u64 63))), some (120, false)⟩
 (.op ⟨some 123, .p (.pick (.tmp 120) (.const (.bool true)) (.tmp 122)), none⟩
 (.op ⟨some 124, .p (.mov (.tmp 123)), none⟩
 (.op ⟨some 125, .l (.load 5 5 48 true), some (124, false)⟩
 (.op ⟨some 126, .call 21 [.tmp 125], some (124, false)⟩
 (.op ⟨some 127, .p (.un .not (.tmp 126)), some (124, false)⟩
 (.op ⟨some 128, .p (.pick (.tmp 124) (.const (.bool true)) (.tmp 127)), none⟩ .done))))))))))))
 (.cond (.tmp 128) (.seq (.reg (.op ⟨some 129, .p (.build [.bool false, .int .i64 0, .int .i64 0, .int .i64 0, .int .i64 0, .int .i64 0, .int .i64 0, .int .i64 0, .int .i64 0, .int .i64 0, .int .i64 0, .int .i64 0, .int .i64 0, .int .i64 0, .int .i64 0, .int .i64 0, .int .i64 0, .int .i64 0, .int .i64 0, .int .i64 0, .int .i64 0, .int .i64 0, .int .i64 0, .int .i64 0, .int .i64 0, .int .i64 0, .int .i64 0, .int .i64 0, .int .i64 0, .int .i64 0, .int .i64 0, .int .i64 0, .int .i64 0, .int .i64 0, .int .i64 0, .int .i64 0, .int .i64 0, .int .i64 0, .int .i64 0, .int .i64 0, .int .i64 0, .int .i64 0, .bool false, .bool false, .int .i64 0, .bool false, .int .i64 0, .int .i64 0] []), none⟩
 (.op ⟨some 130, .p (.build [.slice none 0 0, .bool false] [(1, 1, .const (.bool true))]), none⟩
 (.op ⟨none, .l (.store 2 2 48 (.tmp 129)), none⟩
 (.op ⟨none, .l (.store 3 3 2 (.tmp 130)), none⟩ .done)))))
 (.ret))
 (.skip)))
 (.seq (.reg (.op ⟨some 131, .l (.load 5 5 48 true), none⟩
 (.op ⟨some 132, .l (.load 1 1 2 true), none⟩
 (.op ⟨none, .l (.store 2 2 48 (.tmp 131)), none⟩
 (.op ⟨none, .l (.store 3 3 2 (.tmp 132)), none⟩
 (.done))))))
 (.ret))))))))))))))))))⟩

theorem cN41 : compF Try.prog aN41.cfg.pm aN41.cfg.lz Try.f41 = some aN41 := by kernel_rfl
theorem kN41 : aN41.ok = true := by kernel_rfl

end Go.Proofs.Ytbgnaeagdneikaa
namespace Go.Proofs.Ytbgnaeagdneikaa
open Go Go.Proofs.Ytbgnaeagdneikaa.Abs
set_option maxRecDepth 100000

-- decoupage/decoupageref06.Bytes
def aN39 : AFun := ⟨⟨88, [(1, false, [8, 11, 15, 19, 23, 66, 67, 72, 75, 80, 84])], true⟩, [.tmp 2],
 .seq (.reg (.op ⟨some 1, .l (.box 1 none (.tmp 0)), none⟩
 (.op ⟨some 2, .p (.mov (.const (.slice none 0 0))), none⟩ .done)))
 (.seq (.reg (.op ⟨some 8, .l (.addr 1 1 1), none⟩
 (.op ⟨some 9, .l (.load 8 1 1 false), none⟩
 (.op ⟨some 10, .p (.int2 .mul (.tmp 9) (.const (.int .i64 2))), none⟩
 (.op ⟨some 3, .p (.mov (.tmp 10)), none⟩ .done)))))
 (.seq (.seq (.reg (.op ⟨some 11, .l (.addr 1 1 0), none⟩
 (.op ⟨some 12, .l (.load 11 1 1 false), none⟩ .done)))
 (.cond (.tmp 12) (.reg (.op ⟨some 13, .p (.mov (.tmp 3)), none⟩
 (.op ⟨some 14, .p (.int2 .add (.tmp 13) (.const (.int .i64 1))), none⟩
 (.op ⟨some 3, .p (.mov (.tmp 14)), none⟩ .done))))
 (.skip)))
 (.seq (.seq (.reg (.op ⟨some 15, .l (.addr 1 1 42), none⟩
 (.op ⟨some 16, .l (.load 15 1 1 false), none⟩ .done)))
 (.cond (.tmp 16) (.reg (.op ⟨some 17, .p (.mov (.tmp 3)), none⟩
 (.op ⟨some 18, .p (.int2 .add (.tmp 17) (.const (.int .i64 8))), none⟩
 (.op ⟨some 3, .p (.mov (.tmp 18)), none⟩ .done))))
 (.skip)))
 (.seq (.seq (.reg (.op ⟨some 19, .l (.addr 1 1 43), none⟩
 (.op ⟨some 20, .l (.load 19 1 1 false), none⟩ .done)))
 (.cond (.tmp 20) (.reg (.op ⟨some 21, .p (.mov (.tmp 3)), none⟩
 (.op ⟨some 22, .p (.int2 .add (.tmp 21) (.const (.int .i64 16))), none⟩
 (.op ⟨some 3, .p (.mov (.tmp 22)), none⟩ .done))))
 (.skip)))
 (.seq (.seq (.reg (.op ⟨some 23, .l (.addr 1 1 45), none⟩
 (.op ⟨some 24, .l (.load 23 1 1 false), none⟩ .done)))
 (.cond (.tmp 24) (.reg (.op ⟨some 25, .p (.mov (.tmp 3)), none⟩
 (.op ⟨some 26, .p (.int2 .add (.tmp 25) (.const (.int .i64 32))), none⟩
 (.op ⟨some 3, .p (.mov (.tmp 26)), none⟩ .done))))
 (.skip)))
 (.seq (.reg (.op ⟨some 27, .p (.mov (.tmp 3)), none⟩
 (.op ⟨some 28, .p (.conv .u8 (.tmp 27)), none⟩
 (.op ⟨some 29, .h (.buildSlice 1 1 [.int .u8 0] [(0, 1, .tmp 28)]), none⟩
 (.op ⟨some 4, .p (.mov (.tmp 29)), none⟩ .done)))))
 (.seq (.reg (.op ⟨some 30, .l (.load 1 1 48 true), none⟩
 (.op ⟨some 31, .call 66 [.tmp 30], none⟩
 (.op ⟨some 5, .p (.mov (.tmp 31)), none⟩ .done))))
 (.seq (.seq (.reg (.op ⟨some 32, .p (.mov (.tmp 5)), none⟩
 (.op ⟨some 33, .p (.lenS (.tmp 32)), none⟩
 (.op ⟨some 34, .p (.mov (.const (.int .i64 0))), none⟩ .done))))
 (.block 0 (.loop (.seq (.reg (.op ⟨some 35, .p (.int2 .lss (.tmp 34) (.tmp 33)), none⟩ .done))
 (.seq (.cond (.tmp 35) (.skip)
 (.exit 0))
 (.seq (.block 1 (.seq (.reg (.op ⟨some 36, .p (.mov (.tmp 34)), none⟩
 (.op ⟨some 6, .p (.mov (.tmp 36)), none⟩ .done)))
 (.seq (.reg (.op ⟨some 37, .p (.mov (.tmp 4)), none⟩
 (.op ⟨some 38, .p (.mov (.tmp 5)), none⟩
 (.op ⟨some 39, .p (.mov (.tmp 6)), none⟩
 (.op ⟨some 40, .p (.idxS 2 (.tmp 38) (.tmp 39)), none⟩
 (.op ⟨some 41, .p (.fieldAddr 0 (.tmp 40)), none⟩
 (.op ⟨some 42, .h (.load 1 false (.tmp 41)), none⟩
 (.op ⟨some 43, .p (.conv .u8 (.tmp 42)), none⟩
 (.op ⟨some 44, .h (.buildSlice 1 1 [.int .u8 0] [(0, 1, .tmp 43)]), none⟩
 (.op ⟨some 45, .h (.append 1 1 (.tmp 37) (.tmp 44)), none⟩
 (.op ⟨some 4, .p (.mov (.tmp 45)), none⟩ .done)))))))))))
 (.seq (.reg (.op ⟨some 46, .p (.mov (.tmp 5)), none⟩
 (.op ⟨some 47, .p (.mov (.tmp 6)), none⟩
 (.op ⟨some 48, .p (.idxS 2 (.tmp 46) (.tmp 47)), none⟩
 (.op ⟨some 49, .p (.fieldAddr 0 (.tmp 48)), none⟩
 (.op ⟨some 50, .h (.load 1 false (.tmp 49)), none⟩
 (.op ⟨some 51, .p (.int2 .neq (.tmp 50) (.const (.int .i64 0))), none⟩ .done)))))))
 (.cond (.tmp 51) (.reg (.op ⟨some 52, .p (.mov (.tmp 4)), none⟩
 (.op ⟨some 53, .p (.mov (.tmp 5)), none⟩
 (.op ⟨some 54, .p (.mov (.tmp 6)), none⟩
 (.op ⟨some 55, .p (.idxS 2 (.tmp 53) (.tmp 54)), none⟩
 (.op ⟨some 56, .p (.fieldAddr 1 (.tmp 55)), none⟩
 (.op ⟨some 57, .h (.load 1 false (.tmp 56)), none⟩
 (.op ⟨some 58, .call 71 [.tmp 57], none⟩
 (.op ⟨some 59, .h (.append 1 1 (.tmp 52) (.tmp 58)), none⟩
 (.op ⟨some 4, .p (.mov (.tmp 59)), none⟩ .done))))))))))
 (.skip))))))
 (.reg (.op ⟨some 60, .p (.int2 .add (.tmp 34) (.const (.int .i64 1))), none⟩
 (.op ⟨some 34, .p (.mov (.tmp 60)), none⟩ .done)))))))))
 (.seq (.seq (.reg (.op ⟨some 61, .p (.mov (.const (.int .i64 0))), none⟩ .done))
 (.block 2 (.loop (.seq (.reg (.op ⟨some 62, .p (.int2 .lss (.tmp 61) (.const (.int .i64 4))), none⟩ .done))
 (.seq (.cond (.tmp 62) (.skip)
 (.exit 2))
 (.seq (.block 3 (.seq (.reg (.op ⟨some 63, .p (.mov (.tmp 61)), none⟩
 (.op ⟨some 7, .p (.mov (.tmp 63)), none⟩ .done)))
 (.reg (.op ⟨some 64, .p (.mov (.tmp 4)), none⟩
 (.op ⟨some 65, .p (.mov (.tmp 7)), none⟩
 (.op ⟨some 66, .l (.addr 1 1 38), none⟩
 (.op ⟨some 67, .l (.idx 66 1 4 1 (.tmp 65)), none⟩
 (.op ⟨some 68, .l (.load 67 1 1 false), none⟩
 (.op ⟨some 69, .call 71 [.tmp 68], none⟩
 (.op ⟨some 70, .h (.append 1 1 (.tmp 64) (.tmp 69)), none⟩
 (.op ⟨some 4, .p (.mov (.tmp 70)), none⟩ .done)))))))))))
 (.reg (.op ⟨some 71, .p (.int2 .add (.tmp 61) (.const (.int .i64 1))), none⟩
 (.op ⟨some 61, .p (.mov (.tmp 71)), none⟩ .done)))))))))
 (.seq (.seq (.reg (.op ⟨some 72, .l (.addr 1 1 43), none⟩
 (.op ⟨some 73, .l (.load 72 1 1 false), none⟩ .done)))
 (.cond (.tmp 73) (.reg (.op ⟨some 74, .p (.mov (.tmp 4)), none⟩
 (.op ⟨some 75, .l (.addr 1 1 44), none⟩
 (.op ⟨some 76, .l (.load 75 1 1 false), none⟩
 (.op ⟨some 77, .call 71 [.tmp 76], none⟩
 (.op ⟨some 78, .h (.append 1 1 (.tmp 74) (.tmp 77)), none⟩
 (.op ⟨some 4, .p (.mov (.tmp 78)), none⟩ .done)))))))
 (.skip)))
 (.seq (.reg (.op ⟨some 79, .p (.mov (.tmp 4)), none⟩
 (.op ⟨some 80, .l (.addr 1 1 46), none⟩
 (.op ⟨some 81, .l (.load 80 1 1 false), none⟩
 (.op ⟨some 84, .l (.addr 1 1 47), none⟩
 (.op ⟨some 85, .l (.load 84 1 1 false), none⟩
 (.op ⟨some 82, .call 71 [.tmp 81], none⟩
 (.op ⟨some 83, .h (.append 1 1 (.tmp 79) (.tmp 82)), none⟩
 (.op ⟨some 86, .call 71 [.tmp 85], none⟩
 (.op ⟨some 87, .h (.append 1 1 (.tmp 83) (.tmp 86)), none⟩
 (.op ⟨some 2, .p (.mov (.tmp 87)), none⟩
 (.done))))))))))))
 (.ret))))))))))))⟩

theorem cN39 : compF Try.prog aN39.cfg.pm aN39.cfg.lz Try.f39 = some aN39 := by kernel_rfl
theorem kN39 : aN39.ok = true := by kernel_rfl

end Go.Proofs.Ytbgnaeagdneikaa
namespace Go.Proofs.Ytbgnaeagdneikaa
open Go Go.Proofs.Ytbgnaeagdneikaa.Abs
set_option maxRecDepth 100000

-- decoupage/decoupagelaw06.StyleCuts
def aN8 : AFun := ⟨⟨33, [(2, false, [])], true⟩, [.tmp 4],
 .seq (.reg (.op ⟨some 2, .l (.box 2 none (.tmp 0)), none⟩
 (.op ⟨some 4, .p (.mov (.const (.bool false))), none⟩ .done)))
 (.seq (.seq (.reg (.op ⟨some 7, .call 19 [], none⟩
 (.op ⟨some 8, .p (.un .not (.tmp 7)), none⟩
 (.op ⟨some 9, .p (.mov (.tmp 8)), none⟩
 (.op ⟨some 10, .l (.load 2 2 48 true), some (9, false)⟩
 (.op ⟨some 11, .call 21 [.tmp 10], some (9, false)⟩
 (.op ⟨some 12, .p (.un .not (.tmp 11)), some (9, false)⟩
 (.op ⟨some 13, .p (.pick (.tmp 9) (.const (.bool true)) (.tmp 12)), none⟩ .done))))))))
 (.cond (.tmp 13) (.seq (.reg (.op ⟨some 14, .call 19 [], none⟩
 (.op ⟨some 4, .p (.mov (.tmp 14)), none⟩ .done)))
 (.ret))
 (.skip)))
 (.seq (.reg (.op ⟨some 15, .l (.load 2 2 48 true), none⟩
 (.op ⟨some 16, .call 39 [.tmp 15], none⟩
 (.op ⟨some 5, .p (.mov (.tmp 16)), none⟩ .done))))
 (.seq (.reg (.op ⟨some 17, .p (.mov (.tmp 5)), none⟩
 (.op ⟨some 18, .p (.mov (.tmp 1)), none⟩
 (.op ⟨some 19, .p (.conv .i64 (.tmp 18)), none⟩
 (.op ⟨some 20, .p (.mov (.tmp 5)), none⟩
 (.op ⟨some 21, .p (.lenS (.tmp 20)), none⟩
 (.op ⟨some 22, .p (.int2 .rem (.tmp 19) (.tmp 21)), none⟩
 (.op ⟨some 23, .p (.sliceS 1 (.tmp 17) none (some (.tmp 22))), none⟩
 (.op ⟨some 24, .call 30 [.tmp 23], none⟩
 (.op ⟨some 6, .p (.mov (.tmp 24)), none⟩ .done))))))))))
 (.seq (.reg (.op ⟨some 25, .p (.mov (.tmp 6)), none⟩
 (.op ⟨some 26, .call 40 [.tmp 25], none⟩
 (.op ⟨some 27, .p (.build [.bool false, .int .i64 0, .int .i64 0, .int .i64 0, .int .i64 0, .int .i64 0, .int .i64 0, .int .i64 0, .int .i64 0, .int .i64 0, .int .i64 0, .int .i64 0, .int .i64 0, .int .i64 0, .int .i64 0, .int .i64 0, .int .i64 0, .int .i64 0, .int .i64 0, .int .i64 0, .int .i64 0, .int .i64 0, .int .i64 0, .int .i64 0, .int .i64 0, .int .i64 0, .int .i64 0, .int .i64 0, .int .i64 0, .int .i64 0, .int .i64 0, .int .i64 0, .int .i64 0, .int .i64 0, .int .i64 0, .int .i64 0, .int .i64 0, .int .i64 0, .int .i64 0, .int .i64 0, .int .i64 0, .int .i64 0, .bool false, .bool false, .int .i64 0, .bool false, .int .i64 0, .int .i64 0] []), none⟩
 (.op ⟨some 28, .p (.eqa [false, true, true, true, true, true, true, true, true, true, true, true, true, true, true, true, true, true, true, true, true, true, true, true, true, true, true, true, true, true, true, true, true, true, true, true, true, true, true, true, true, true, false, false, true, false, true, true] false (.tmp 26) (.tmp 27)), none⟩
 (.op ⟨some 29, .p (.mov (.tmp 28)), none⟩
 (.op ⟨some 30, .p (.mov (.tmp 6)), some (29, true)⟩
 (.op ⟨some 31, .call 34 [.tmp 30], some (29, true)⟩
 (.op ⟨some 32, .p (.pick (.tmp 29) (.tmp 31) (.const (.bool false))), none⟩
 (.op ⟨some 4, .p (.mov (.tmp 32)), none⟩ .done))))))))))
 (.ret)))))⟩

theorem cN8 : compF Try.prog aN8.cfg.pm aN8.cfg.lz Try.f8 = some aN8 := by kernel_rfl
theorem kN8 : aN8.ok = true := by kernel_rfl

-- decoupage/decoupagelaw06.StyleGets
def aN9 : AFun := ⟨⟨60, [(4, false, []), (5, false, []), (6, false, [31, 38, 43, 52])], true⟩, [.tmp 2],
 .seq (.reg (.op ⟨some 2, .p (.mov (.const (.bool false))), none⟩ .done))
 (.seq (.seq (.reg (.op ⟨some 7, .call 19 [], none⟩
 (.op ⟨some 8, .p (.un .not (.tmp 7)), none⟩
 (.op ⟨some 9, .p (.mov (.tmp 8)), none⟩
 (.op ⟨some 10, .p (.mov (.tmp 0)), some (9, false)⟩
 (.op ⟨some 11, .p (.lenS (.tmp 10)), some (9, false)⟩
 (.op ⟨some 12, .p (.int2 .gtr (.tmp 11) (.const (.int .i64 1000))), some (9, false)⟩
 (.op ⟨some 13, .p (.pick (.tmp 9) (.const (.bool true)) (.tmp 12)), none⟩ .done))))))))
 (.cond (.tmp 13) (.seq (.reg (.op ⟨some 14, .call 19 [], none⟩
 (.op ⟨some 2, .p (.mov (.tmp 14)), none⟩ .done)))
 (.ret))
 (.skip)))
 (.seq (.reg (.op ⟨some 15, .p (.mov (.tmp 0)), none⟩
 (.op ⟨some 16, .call 30 [.tmp 15], none⟩
 (.op ⟨some 3, .p (.mov (.tmp 16)), none⟩ .done))))
 (.seq (.reg (.op ⟨some 17, .p (.mov (.tmp 3)), none⟩
 (.op ⟨some 18, .call 40 [.tmp 17], none⟩
 (.op ⟨some 4, .l (.new 4 none [.bool false, .int .i64 0, .int .i64 0, .int .i64 0, .int .i64 0, .int .i64 0, .int .i64 0, .int .i64 0, .int .i64 0, .int .i64 0, .int .i64 0, .int .i64 0, .int .i64 0, .int .i64 0, .int .i64 0, .int .i64 0, .int .i64 0, .int .i64 0, .int .i64 0, .int .i64 0, .int .i64 0, .int .i64 0, .int .i64 0, .int .i64 0, .int .i64 0, .int .i64 0, .int .i64 0, .int .i64 0, .int .i64 0, .int .i64 0, .int .i64 0, .int .i64 0, .int .i64 0, .int .i64 0, .int .i64 0, .int .i64 0, .int .i64 0, .int .i64 0, .int .i64 0, .int .i64 0, .int .i64 0, .int .i64 0, .bool false, .bool false, .int .i64 0, .bool false, .int .i64 0, .int .i64 0]), none⟩
 (.op ⟨none, .l (.store 4 4 48 (.tmp 18)), none⟩ .done)))))
 (.seq (.reg (.op ⟨some 20, .p (.mov (.tmp 0)), none⟩
 (.op ⟨some 21, .p (.build [.slice none 0 0, .bool false] [(0, 1, .tmp 20)]), none⟩
 (.op ⟨some 22, .call 41 [.tmp 21], none⟩
 (.op ⟨some 19, .p (.mov (.tmp 22)), none⟩
 (.op ⟨some 23, .p (.extract (.tmp 19) 0), none⟩
 (.op ⟨some 24, .p (.extract (.tmp 19) 1), none⟩
 (.op ⟨some 5, .l (.new 5 none [.bool false, .int .i64 0, .int .i64 0, .int .i64 0, .int .i64 0, .int .i64 0, .int .i64 0, .int .i64 0, .int .i64 0, .int .i64 0, .int .i64 0, .int .i64 0, .int .i64 0, .int .i64 0, .int .i64 0, .int .i64 0, .int .i64 0, .int .i64 0, .int .i64 0, .int .i64 0, .int .i64 0, .int .i64 0, .int .i64 0, .int .i64 0, .int .i64 0, .int .i64 0, .int .i64 0, .int .i64 0, .int .i64 0, .int .i64 0, .int .i64 0, .int .i64 0, .int .i64 0, .int .i64 0, .int .i64 0, .int .i64 0, .int .i64 0, .int .i64 0, .int .i64 0, .int .i64 0, .int .i64 0, .int .i64 0, .bool false, .bool false, .int .i64 0, .bool false, .int .i64 0, .int .i64 0]), none⟩
 (.op ⟨some 6, .l (.new 6 none [.slice none 0 0, .bool false]), none⟩
 (.op ⟨none, .l (.store 5 5 48 (.tmp 23)), none⟩
 (.op ⟨none, .l (.store 6 6 2 (.tmp 24)), none⟩ .done)))))))))))
 (.seq (.seq (.reg (.op ⟨some 25, .l (.load 4 4 48 true), none⟩
 (.op ⟨some 26, .l (.load 5 5 48 true), none⟩
 (.op ⟨some 27, .p (.eqa [false, true, true, true, true, true, true, true, true, true, true, true, true, true, true, true, true, true, true, true, true, true, true, true, true, true, true, true, true, true, true, true, true, true, true, true, true, true, true, true, true, true, false, false, true, false, true, true] true (.tmp 25) (.tmp 26)), none⟩
 (.op ⟨some 28, .p (.mov (.tmp 27)), none⟩
 (.op ⟨some 29, .p (.mov (.tmp 3)), some (28, false)⟩
 (.op ⟨some 31, .l (.addr 6 6 1), some (28, false)⟩
 (.op ⟨some 32, .l (.load 31 6 1 false), some (28, false)⟩
 (.op ⟨some 30, .call 34 [.tmp 29], some (28, false)⟩
 (.op ⟨some 33, .p (.eqb true (.tmp 30) (.tmp 32)), some (28, false)⟩
 (.op ⟨some 34, .p (.pick (.tmp 28) (.const (.bool true)) (.tmp 33)), none⟩
 (.op ⟨some 35, .p (.mov (.tmp 34)), none⟩
 (.op ⟨some 36, .p (.mov (.tmp 3)), some (35, false)⟩
 (.op ⟨some 38, .l (.addr 6 6 0), some (35, false)⟩
 (.op ⟨some 39, .l (.load 38 6 1 false), some (35, false)⟩
 (.op ⟨some 40, .p (.lenS (.tmp 39)), some (35, false)⟩
 (.op ⟨some 37, .call 38 [.tmp 36], some (35, false)⟩
 (.op ⟨some 41, .p (.int2 .neq (.tmp 37) (.tmp 40)), some (35, false)⟩
 (.op ⟨some 42, .p (.pick (.tmp 35) (.const (.bool true)) (.tmp 41)), none⟩
 (.done))))))))))))))))))))
 (.cond (.tmp 42) (.seq (.reg (.op ⟨some 2, .p (.mov (.const (.bool false))), none⟩ .done))
 (.ret))
 (.skip)))
 (.seq (.reg (.op ⟨some 43, .l (.addr 6 6 1), none⟩
 (.op ⟨some 44, .l (.load 43 6 1 false), none⟩
 (.op ⟨some 45, .p (.mov (.tmp 44)), none⟩
 (.op ⟨some 46, .l (.load 4 4 48 true), some (45, false)⟩
 (.op ⟨some 49, .p (.mov (.tmp 0)), some (45, false)⟩
 (.op ⟨some 50, .p (.mov (.tmp 0)), some (45, false)⟩
 (.op ⟨some 51, .p (.lenS (.tmp 50)), some (45, false)⟩
 (.op ⟨some 52, .l (.addr 6 6 0), some (45, false)⟩
 (.op ⟨some 53, .l (.load 52 6 1 false), some (45, false)⟩
 (.op ⟨some 54, .p (.lenS (.tmp 53)), some (45, false)⟩
 (.op ⟨some 55, .p (.int2 .sub (.tmp 51) (.tmp 54)), some (45, false)⟩
 (.op ⟨some 56, .p (.sliceS 1 (.tmp 49) none (some (.tmp 55))), some (45, false)⟩
 (.op ⟨some 57, .h (.b2s (.tmp 56)), some (45, false)⟩
 (.op ⟨some 47, .call 39 [.tmp 46], some (45, false)⟩
 (.chk [⟨57, .b2s (.tmp 56), some (45, false)⟩]
 (.op ⟨some 48, .h (.b2s (.tmp 47)), some (45, false)⟩
 (.op ⟨some 58, .p (.eqs false (.tmp 48) (.tmp 57)), some (45, false)⟩
 (.op ⟨some 59, .p (.pick (.tmp 45) (.const (.bool true)) (.tmp 58)), none⟩
 (.op ⟨some 2, .p (.mov (.tmp 59)), none⟩
 (.done)))))))))))))))))))))
 (.ret)))))))⟩

theorem cN9 : compF Try.prog aN9.cfg.pm aN9.cfg.lz Try.f9 = some aN9 := by kernel_rfl
theorem kN9 : aN9.ok = true := by kernel_rfl

end Go.Proofs.Ytbgnaeagdneikaa
namespace Go.Proofs.Ytbgnaeagdneikaa
open Go Go.Proofs.Ytbgnaeagdneikaa.Abs
set_option maxRecDepth 100000

-- decoupage/style.Put
def aN56 : AFun := ⟨⟨63, [], true⟩, [],
 .seq (.reg (.op ⟨some 3, .h (.box (.tmp 1)), none⟩ .done))
 (.seq (.seq (.reg (.op ⟨some 8, .h (.load 48 true (.tmp 3)), none⟩
 (.op ⟨some 9, .call 20 [.tmp 8], none⟩
 (.op ⟨some 10, .p (.un .not (.tmp 9)), none⟩ .done))))
 (.cond (.tmp 10) (.ret)
 (.skip)))
 (.seq (.reg (.op ⟨some 11, .p (.mov (.tmp 0)), none⟩
 (.op ⟨some 12, .h (.load 48 true (.tmp 3)), none⟩
 (.op ⟨some 13, .call 88 [.tmp 12], none⟩
 (.op ⟨some 14, .call 25 [.tmp 11, .tmp 13], none⟩ .done)))))
 (.seq (.seq (.reg (.op ⟨some 15, .call 64 [.tmp 3], none⟩
 (.op ⟨some 16, .p (.lenS (.tmp 15)), none⟩
 (.op ⟨some 17, .p (.mov (.const (.int .i64 0))), none⟩ .done))))
 (.block 0 (.loop (.seq (.reg (.op ⟨some 18, .p (.int2 .lss (.tmp 17) (.tmp 16)), none⟩ .done))
 (.seq (.cond (.tmp 18) (.skip)
 (.exit 0))
 (.seq (.block 1 (.seq (.reg (.op ⟨some 19, .p (.idxS 1 (.tmp 15) (.tmp 17)), none⟩
 (.op ⟨some 20, .h (.load 1 false (.tmp 19)), none⟩
 (.op ⟨some 5, .p (.mov (.tmp 20)), none⟩ .done))))
 (.seq (.reg (.op ⟨some 21, .p (.mov (.tmp 0)), none⟩
 (.op ⟨some 22, .p (.mov (.tmp 5)), none⟩
 (.op ⟨some 23, .p (.nilchk (.tmp 22)), none⟩
 (.op ⟨some 24, .p (.fieldAddr 0 (.tmp 23)), none⟩
 (.op ⟨some 25, .h (.load 1 false (.tmp 24)), none⟩
 (.op ⟨some 26, .p (.conv .u8 (.tmp 25)), none⟩
 (.op ⟨some 27, .call 25 [.tmp 21, .tmp 26], none⟩ .done))))))))
 (.seq (.reg (.op ⟨some 28, .p (.mov (.tmp 5)), none⟩
 (.op ⟨some 29, .p (.nilchk (.tmp 28)), none⟩
 (.op ⟨some 30, .p (.fieldAddr 0 (.tmp 29)), none⟩
 (.op ⟨some 31, .h (.load 1 false (.tmp 30)), none⟩
 (.op ⟨some 32, .p (.int2 .neq (.tmp 31) (.const (.int .i64 0))), none⟩ .done))))))
 (.cond (.tmp 32) (.reg (.op ⟨some 33, .p (.mov (.tmp 0)), none⟩
 (.op ⟨some 34, .p (.mov (.tmp 5)), none⟩
 (.op ⟨some 35, .p (.nilchk (.tmp 34)), none⟩
 (.op ⟨some 36, .p (.fieldAddr 1 (.tmp 35)), none⟩
 (.op ⟨some 37, .h (.load 1 false (.tmp 36)), none⟩
 (.op ⟨some 38, .call 27 [.tmp 33, .tmp 37], none⟩ .done)))))))
 (.skip))))))
 (.reg (.op ⟨some 39, .p (.int2 .add (.tmp 17) (.const (.int .i64 1))), none⟩
 (.op ⟨some 17, .p (.mov (.tmp 39)), none⟩ .done)))))))))
 (.seq (.seq (.reg (.op ⟨some 40, .p (.fieldAddr 38 (.tmp 3)), none⟩
 (.op ⟨some 41, .h (.load 4 true (.tmp 40)), none⟩
 (.op ⟨some 42, .p (.mov (.const (.int .i64 0))), none⟩ .done))))
 (.block 2 (.loop (.seq (.reg (.op ⟨some 43, .p (.int2 .lss (.tmp 42) (.const (.int .i64 4))), none⟩ .done))
 (.seq (.cond (.tmp 43) (.skip)
 (.exit 2))
 (.seq (.block 3 (.seq (.reg (.op ⟨some 44, .p (.idxV 4 1 false (.tmp 41) (.tmp 42)), none⟩
 (.op ⟨some 7, .p (.mov (.tmp 44)), none⟩ .done)))
 (.reg (.op ⟨some 45, .p (.mov (.tmp 0)), none⟩
 (.op ⟨some 46, .p (.mov (.tmp 7)), none⟩
 (.op ⟨some 47, .call 27 [.tmp 45, .tmp 46], none⟩ .done))))))
 (.reg (.op ⟨some 48, .p (.int2 .add (.tmp 42) (.const (.int .i64 1))), none⟩
 (.op ⟨some 42, .p (.mov (.tmp 48)), none⟩ .done)))))))))
 (.seq (.seq (.reg (.op ⟨some 49, .p (.fieldAddr 43 (.tmp 3)), none⟩
 (.op ⟨some 50, .h (.load 1 false (.tmp 49)), none⟩ .done)))
 (.cond (.tmp 50) (.reg (.op ⟨some 51, .p (.mov (.tmp 0)), none⟩
 (.op ⟨some 52, .p (.fieldAddr 44 (.tmp 3)), none⟩
 (.op ⟨some 53, .h (.load 1 false (.tmp 52)), none⟩
 (.op ⟨some 54, .call 27 [.tmp 51, .tmp 53], none⟩ .done)))))
 (.skip)))
 (.seq (.reg (.op ⟨some 55, .p (.mov (.tmp 0)), none⟩
 (.op ⟨some 56, .p (.fieldAddr 46 (.tmp 3)), none⟩
 (.op ⟨some 57, .h (.load 1 false (.tmp 56)), none⟩
 (.op ⟨some 58, .call 27 [.tmp 55, .tmp 57], none⟩ .done)))))
 (.reg (.op ⟨some 59, .p (.mov (.tmp 0)), none⟩
 (.op ⟨some 60, .p (.fieldAddr 47 (.tmp 3)), none⟩
 (.op ⟨some 61, .h (.load 1 false (.tmp 60)), none⟩
 (.op ⟨some 62, .call 27 [.tmp 59, .tmp 61], none⟩ .done)))))))))))⟩

theorem cN56 : compF Try.prog aN56.cfg.pm aN56.cfg.lz Try.f56 = some aN56 := by kernel_rfl
theorem kN56 : aN56.ok = true := by kernel_rfl

-- decoupage/style.flags
def aN88 : AFun := ⟨⟨36, [(1, false, [6, 9, 12, 15, 18]), (5, true, [27, 30])], true⟩, [.tmp 2],
 .seq (.reg (.op ⟨some 1, .l (.box 1 none (.tmp 0)), none⟩
 (.op ⟨some 2, .p (.mov (.const (.int .u8 0))), none⟩ .done)))
 (.seq (.reg (.op ⟨some 6, .l (.addr 1 1 1), none⟩
 (.op ⟨some 7, .l (.load 6 1 1 false), none⟩
 (.op ⟨some 8, .p (.int2 .mul (.const (.int .i64 2)) (.tmp 7)), none⟩
 (.op ⟨some 3, .p (.mov (.tmp 8)), none⟩ .done)))))
 (.seq (.seq (.reg (.op ⟨some 9, .l (.addr 1 1 0), none⟩
 (.op ⟨some 10, .l (.load 9 1 1 false), none⟩
 (.op ⟨some 11, .p (.build [.bool false, .int .i64 0] [(0, 1, .tmp 10), (1, 1, .const (.int .i64 1))]), none⟩
 (.op ⟨some 12, .l (.addr 1 1 42), none⟩
 (.op ⟨some 13, .l (.load 12 1 1 false), none⟩
 (.op ⟨some 14, .p (.build [.bool false, .int .i64 0] [(0, 1, .tmp 13), (1, 1, .const (.int .i64 8))]), none⟩
 (.op ⟨some 15, .l (.addr 1 1 43), none⟩
 (.op ⟨some 16, .l (.load 15 1 1 false), none⟩
 (.op ⟨some 17, .p (.build [.bool false, .int .i64 0] [(0, 1, .tmp 16), (1, 1, .const (.int .i64 16))]), none⟩
 (.op ⟨some 18, .l (.addr 1 1 45), none⟩
 (.op ⟨some 19, .l (.load 18 1 1 false), none⟩
 (.op ⟨some 20, .p (.build [.bool false, .int .i64 0] [(0, 1, .tmp 19), (1, 1, .const (.int .i64 32))]), none⟩
 (.op ⟨some 21, .h (.buildSlice 2 4 [.bool false, .int .i64 0, .bool false, .int .i64 0, .bool false, .int .i64 0, .bool false, .int .i64 0] [(0, 2, .tmp 11), (2, 2, .tmp 14), (4, 2, .tmp 17), (6, 2, .tmp 20)]), none⟩
 (.op ⟨some 22, .p (.lenS (.tmp 21)), none⟩
 (.op ⟨some 23, .p (.mov (.const (.int .i64 0))), none⟩ .done))))))))))))))))
 (.block 0 (.loop (.seq (.reg (.op ⟨some 24, .p (.int2 .lss (.tmp 23) (.tmp 22)), none⟩ .done))
 (.seq (.cond (.tmp 24) (.skip)
 (.exit 0))
 (.seq (.block 1 (.seq (.reg (.op ⟨some 25, .p (.idxS 2 (.tmp 21) (.tmp 23)), none⟩
 (.op ⟨some 26, .h (.load 2 true (.tmp 25)), none⟩
 (.op ⟨some 5, .l (.new 5 (some [27, 30]) [.bool false, .int .i64 0]), none⟩
 (.op ⟨none, .l (.store 5 5 2 (.tmp 26)), none⟩ .done)))))
 (.seq (.reg (.op ⟨some 27, .l (.addr 5 5 0), none⟩
 (.op ⟨some 28, .l (.load 27 5 1 false), none⟩ .done)))
 (.cond (.tmp 28) (.reg (.op ⟨some 29, .p (.mov (.tmp 3)), none⟩
 (.op ⟨some 30, .l (.addr 5 5 1), none⟩
 (.op ⟨some 31, .l (.load 30 5 1 false), none⟩
 (.op ⟨some 32, .p (.int2 .add (.tmp 29) (.tmp 31)), none⟩
 (.op ⟨some 3, .p (.mov (.tmp 32)), none⟩ .done))))))
 (.skip)))))
 (.reg (.op ⟨some 33, .p (.int2 .add (.tmp 23) (.const (.int .i64 1))), none⟩
 (.op ⟨some 23, .p (.mov (.tmp 33)), none⟩ .done)))))))))
 (.seq (.reg (.op ⟨some 34, .p (.mov (.tmp 3)), none⟩
 (.op ⟨some 35, .p (.conv .u8 (.tmp 34)), none⟩
 (.op ⟨some 2, .p (.mov (.tmp 35)), none⟩ .done))))
 (.ret))))⟩

theorem cN88 : compF Try.prog aN88.cfg.pm aN88.cfg.lz Try.f88 = some aN88 := by kernel_rfl
theorem kN88 : aN88.ok = true := by kernel_rfl

end Go.Proofs.Ytbgnaeagdneikaa
namespace Go.Proofs.Ytbgnaeagdneikaa
open Go Go.Proofs.Ytbgnaeagdneikaa.Abs
set_option maxRecDepth 100000

-- decoupage/decoupagelaw06.StylePuts
def aN15 : AFun := ⟨⟨55, [(2, false, [])], true⟩, [.tmp 4],
 .seq (.reg (.op ⟨some 2, .l (.box 2 none (.tmp 0)), none⟩
 (.op ⟨some 4, .p (.mov (.const (.bool false))), none⟩ .done)))
 (.seq (.seq (.reg (.op ⟨some 8, .call 19 [], none⟩
 (.op ⟨some 9, .p (.un .not (.tmp 8)), none⟩
 (.op ⟨some 10, .p (.mov (.tmp 9)), none⟩
 (.op ⟨some 11, .p (.mov (.tmp 1)), some (10, false)⟩
 (.op ⟨some 12, .p (.lenS (.tmp 11)), some (10, false)⟩
 (.op ⟨some 13, .p (.int2 .gtr (.tmp 12) (.const (.int .i64 50))), some (10, false)⟩
 (.op ⟨some 14, .p (.pick (.tmp 10) (.const (.bool true)) (.tmp 13)), none⟩ .done))))))))
 (.cond (.tmp 14) (.seq (.reg (.op ⟨some 15, .call 19 [], none⟩
 (.op ⟨some 4, .p (.mov (.tmp 15)), none⟩ .done)))
 (.ret))
 (.skip)))
 (.seq (.reg (.op ⟨some 5, .h (.alloc [.slice none 0 0]), none⟩ .done))
 (.seq (.reg (.op ⟨some 16, .l (.load 2 2 48 true), none⟩
 (.op ⟨some 17, .call 56 [.tmp 5, .tmp 16], none⟩ .done)))
 (.seq (.reg (.op ⟨some 18, .call 29 [.tmp 5], none⟩
 (.op ⟨some 6, .p (.mov (.tmp 18)), none⟩ .done)))
 (.seq (.seq (.reg (.op ⟨some 19, .l (.load 2 2 48 true), none⟩
 (.op ⟨some 20, .call 21 [.tmp 19], none⟩
 (.op ⟨some 21, .p (.un .not (.tmp 20)), none⟩ .done))))
 (.cond (.tmp 21) (.seq (.reg (.op ⟨some 22, .p (.mov (.tmp 6)), none⟩
 (.op ⟨some 23, .p (.lenS (.tmp 22)), none⟩
 (.op ⟨some 24, .p (.int2 .eql (.tmp 23) (.const (.int .i64 0))), none⟩
 (.op ⟨some 4, .p (.mov (.tmp 24)), none⟩ .done)))))
 (.ret))
 (.skip)))
 (.seq (.reg (.op ⟨some 25, .h (.buildSlice 1 0 [] []), none⟩
 (.op ⟨some 26, .p (.mov (.tmp 6)), none⟩
 (.op ⟨some 27, .h (.append 1 1 (.tmp 25) (.tmp 26)), none⟩
 (.op ⟨some 28, .p (.mov (.tmp 1)), none⟩
 (.op ⟨some 29, .h (.append 1 1 (.tmp 27) (.tmp 28)), none⟩
 (.op ⟨some 30, .call 30 [.tmp 29], none⟩
 (.op ⟨some 7, .p (.mov (.tmp 30)), none⟩ .done))))))))
 (.seq (.reg (.op ⟨some 31, .p (.mov (.tmp 6)), none⟩
 (.op ⟨some 32, .h (.b2s (.tmp 31)), none⟩
 (.op ⟨some 33, .l (.load 2 2 48 true), none⟩
 (.op ⟨some 34, .call 39 [.tmp 33], none⟩
 (.chk [⟨32, .b2s (.tmp 31), none⟩]
 (.op ⟨some 35, .h (.b2s (.tmp 34)), none⟩
 (.op ⟨some 36, .p (.eqs false (.tmp 32) (.tmp 35)), none⟩
 (.op ⟨some 37, .p (.mov (.tmp 36)), none⟩
 (.op ⟨some 38, .p (.mov (.tmp 7)), some (37, true)⟩
 (.op ⟨some 40, .l (.load 2 2 48 true), some (37, true)⟩
 (.op ⟨some 39, .call 40 [.tmp 38], some (37, true)⟩
 (.op ⟨some 41, .p (.eqa [false, true, true, true, true, true, true, true, true, true, true, true, true, true, true, true, true, true, true, true, true, true, true, true, true, true, true, true, true, true, true, true, true, true, true, true, true, true, true, true, true, true, false, false, true, false, true, true] false (.tmp 39) (.tmp 40)), some (37, true)⟩
 (.op ⟨some 42, .p (.pick (.tmp 37) (.tmp 41) (.const (.bool false))), none⟩
 (.op ⟨some 43, .p (.mov (.tmp 42)), none⟩
 (.op ⟨some 44, .p (.mov (.tmp 7)), some (43, true)⟩
 (.op ⟨some 45, .call 34 [.tmp 44], some (43, true)⟩
 (.op ⟨some 46, .p (.un .not (.tmp 45)), some (43, true)⟩
 (.op ⟨some 47, .p (.pick (.tmp 43) (.tmp 46) (.const (.bool false))), none⟩
 (.op ⟨some 48, .p (.mov (.tmp 47)), none⟩
 (.op ⟨some 49, .p (.mov (.tmp 7)), some (48, true)⟩
 (.op ⟨some 51, .p (.mov (.tmp 1)), some (48, true)⟩
 (.op ⟨some 52, .p (.lenS (.tmp 51)), some (48, true)⟩
 (.op ⟨some 50, .call 38 [.tmp 49], some (48, true)⟩
 (.op ⟨some 53, .p (.int2 .eql (.tmp 50) (.tmp 52)), some (48, true)⟩
 (.op ⟨some 54, .p (.pick (.tmp 48) (.tmp 53) (.const (.bool false))), none⟩
 (.op ⟨some 4, .p (.mov (.tmp 54)), none⟩
 (.done))))))))))))))))))))))))))))
 (.ret))))))))⟩

theorem cN15 : compF Try.prog aN15.cfg.pm aN15.cfg.lz Try.f15 = some aN15 := by kernel_rfl
theorem kN15 : aN15.ok = true := by kernel_rfl

end Go.Proofs.Ytbgnaeagdneikaa
