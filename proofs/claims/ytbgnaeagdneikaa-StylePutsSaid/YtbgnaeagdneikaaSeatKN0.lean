/- The compiled code of functions of the seat, printed by a program of mine (gen.py), checked by the kernel. -/
import Derived.Test.YtbgnaeagdneikaaCoreAi
import Derived.Test.YtbgnaeagdneikaaProg
import Derived.KernelRfl
namespace Go.Proofs.Ytbgnaeagdneikaa
open Go Go.Proofs.Ytbgnaeagdneikaa.Abs
set_option maxRecDepth 100000

-- (decoupage/decoupageref05.In).Take
def aN35 : AFun := ⟨⟨38, [(2, false, [8, 11, 24, 33]), (5, false, [])], true⟩, [.tmp 4, .lcell 5 2 true],
 .seq (.reg (.op ⟨some 2, .l (.box 2 none (.tmp 0)), none⟩
 (.op ⟨some 4, .p (.mov (.const (.int .u64 0))), none⟩
 (.op ⟨some 5, .l (.new 5 none [.slice none 0 0, .bool false]), none⟩ .done))))
 (.seq (.seq (.reg (.op ⟨some 8, .l (.addr 2 2 1), none⟩
 (.op ⟨some 9, .l (.load 8 2 1 false), none⟩
 (.op ⟨some 10, .p (.mov (.tmp 9)), none⟩
 (.op ⟨some 11, .l (.addr 2 2 0), some (10, false)⟩
 (.op ⟨some 12, .l (.load 11 2 1 false), some (10, false)⟩
 (.op ⟨some 13, .p (.lenS (.tmp 12)), some (10, false)⟩
 (.op ⟨some 14, .p (.mov (.tmp 1)), some (10, false)⟩
 (.op ⟨some 15, .p (.int2 .lss (.tmp 13) (.tmp 14)), some (10, false)⟩
 (.op ⟨some 16, .p (.pick (.tmp 10) (.const (.bool true)) (.tmp 15)), none⟩ .done))))))))))
 (.cond (.tmp 16) (.seq (.reg (.op ⟨some 17, .p (.build [.slice none 0 0, .bool false] [(1, 1, .const (.bool true))]), none⟩
 (.op ⟨some 4, .p (.mov (.const (.int .u64 0))), none⟩
 (.op ⟨none, .l (.store 5 5 2 (.tmp 17)), none⟩ .done))))
 (.ret))
 (.skip)))
 (.seq (.reg (.op ⟨some 6, .p (.mov (.const (.int .u64 0))), none⟩ .done))
 (.seq (.seq (.reg (.op ⟨some 18, .p (.mov (.tmp 1)), none⟩
 (.op ⟨some 19, .p (.mov (.const (.int .i64 0))), none⟩ .done)))
 (.block 0 (.loop (.seq (.reg (.op ⟨some 20, .p (.int2 .lss (.tmp 19) (.tmp 18)), none⟩ .done))
 (.seq (.cond (.tmp 20) (.skip)
 (.exit 0))
 (.seq (.block 1 (.seq (.reg (.op ⟨some 21, .p (.mov (.tmp 19)), none⟩
 (.op ⟨some 7, .p (.mov (.tmp 21)), none⟩ .done)))
 (.reg (.op ⟨some 22, .p (.mov (.tmp 6)), none⟩
 (.op ⟨some 23, .p (.int2 .mul (.tmp 22) (.const (.int .u64 256))), none⟩
 (.op ⟨some 24, .l (.addr 2 2 0), none⟩
 (.op ⟨some 25, .l (.load 24 2 1 false), none⟩
 (.op ⟨some 26, .p (.mov (.tmp 7)), none⟩
 (.op ⟨some 27, .p (.idxS 1 (.tmp 25) (.tmp 26)), none⟩
 (.op ⟨some 28, .h (.load 1 false (.tmp 27)), none⟩
 (.op ⟨some 29, .p (.conv .u64 (.tmp 28)), none⟩
 (.op ⟨some 30, .p (.int2 .add (.tmp 23) (.tmp 29)), none⟩
 (.op ⟨some 6, .p (.mov (.tmp 30)), none⟩ .done)))))))))))))
 (.reg (.op ⟨some 31, .p (.int2 .add (.tmp 19) (.const (.int .i64 1))), none⟩
 (.op ⟨some 19, .p (.mov (.tmp 31)), none⟩ .done)))))))))
 (.seq (.reg (.op ⟨some 32, .p (.mov (.tmp 6)), none⟩
 (.op ⟨some 33, .l (.addr 2 2 0), none⟩
 (.op ⟨some 34, .l (.load 33 2 1 false), none⟩
 (.op ⟨some 35, .p (.mov (.tmp 1)), none⟩
 (.op ⟨some 36, .p (.sliceS 1 (.tmp 34) (some (.tmp 35)) none), none⟩
 (.op ⟨some 37, .p (.build [.slice none 0 0, .bool false] [(0, 1, .tmp 36)]), none⟩
 (.op ⟨some 4, .p (.mov (.tmp 32)), none⟩
 (.op ⟨none, .l (.store 5 5 2 (.tmp 37)), none⟩
 (.done))))))))))
 (.ret)))))⟩

theorem cN35 : compF Try.prog aN35.cfg.pm aN35.cfg.lz Try.f35 = some aN35 := by kernel_rfl
theorem kN35 : aN35.ok = true := by kernel_rfl

-- decoupage/decoupageref06.four
def aN72 : AFun := ⟨⟨19, [(1, false, []), (2, false, []), (3, false, []), (4, false, [15])], true⟩, [.lcell 2 8 true, .lcell 3 2 true],
 .seq (.reg (.op ⟨some 1, .l (.box 1 none (.tmp 0)), none⟩
 (.op ⟨some 2, .l (.new 2 none [.int .i64 0, .int .i64 0, .int .i64 0, .int .i64 0, .int .i64 0, .int .i64 0, .int .i64 0, .int .i64 0]), none⟩
 (.op ⟨some 3, .l (.new 3 none [.slice none 0 0, .bool false]), none⟩ .done))))
 (.seq (.reg (.op ⟨some 4, .l (.new 4 none [.int .i64 0, .int .i64 0, .int .i64 0, .int .i64 0, .int .i64 0, .int .i64 0, .int .i64 0, .int .i64 0]), none⟩ .done))
 (.seq (.seq (.reg (.op ⟨some 6, .p (.mov (.const (.int .i64 0))), none⟩ .done))
 (.block 0 (.loop (.seq (.reg (.op ⟨some 7, .p (.int2 .lss (.tmp 6) (.const (.int .i64 4))), none⟩ .done))
 (.seq (.cond (.tmp 7) (.skip)
 (.exit 0))
 (.seq (.block 1 (.seq (.reg (.op ⟨some 8, .p (.mov (.tmp 6)), none⟩
 (.op ⟨some 5, .p (.mov (.tmp 8)), none⟩ .done)))
 (.reg (.op ⟨some 10, .p (.mov (.tmp 5)), none⟩
 (.op ⟨some 11, .l (.load 1 1 2 true), none⟩
 (.op ⟨some 12, .call 73 [.tmp 11], none⟩
 (.op ⟨some 9, .p (.mov (.tmp 12)), none⟩
 (.op ⟨some 13, .p (.extract (.tmp 9) 0), none⟩
 (.op ⟨some 14, .p (.extract (.tmp 9) 1), none⟩
 (.op ⟨some 15, .l (.idx 4 4 4 2 (.tmp 10)), none⟩
 (.op ⟨none, .l (.store 15 4 2 (.tmp 13)), none⟩
 (.op ⟨none, .l (.store 1 1 2 (.tmp 14)), none⟩ .done))))))))))))
 (.reg (.op ⟨some 16, .p (.int2 .add (.tmp 6) (.const (.int .i64 1))), none⟩
 (.op ⟨some 6, .p (.mov (.tmp 16)), none⟩ .done)))))))))
 (.seq (.reg (.op ⟨some 17, .l (.load 4 4 8 true), none⟩
 (.op ⟨some 18, .l (.load 1 1 2 true), none⟩
 (.op ⟨none, .l (.store 2 2 8 (.tmp 17)), none⟩
 (.op ⟨none, .l (.store 3 3 2 (.tmp 18)), none⟩
 (.done))))))
 (.ret))))⟩

theorem cN72 : compF Try.prog aN72.cfg.pm aN72.cfg.lz Try.f72 = some aN72 := by kernel_rfl
theorem kN72 : aN72.ok = true := by kernel_rfl

-- decoupage/decoupageref06.length
def aN73 : AFun := ⟨⟨24, [(1, false, []), (2, false, []), (3, false, []), (5, false, [21])], true⟩, [.lcell 2 2 true, .lcell 3 2 true],
 .seq (.reg (.op ⟨some 1, .l (.box 1 none (.tmp 0)), none⟩
 (.op ⟨some 2, .l (.new 2 none [.int .i64 0, .int .i64 0]), none⟩
 (.op ⟨some 3, .l (.new 3 none [.slice none 0 0, .bool false]), none⟩ .done))))
 (.seq (.reg (.op ⟨some 7, .l (.load 1 1 2 true), none⟩
 (.op ⟨some 8, .call 35 [.tmp 7, .const (.int .i64 1)], none⟩
 (.op ⟨some 6, .p (.mov (.tmp 8)), none⟩
 (.op ⟨some 9, .p (.extract (.tmp 6) 0), none⟩
 (.op ⟨some 10, .p (.extract (.tmp 6) 1), none⟩
 (.op ⟨some 4, .p (.mov (.tmp 9)), none⟩
 (.op ⟨none, .l (.store 1 1 2 (.tmp 10)), none⟩ .done))))))))
 (.seq (.reg (.op ⟨some 11, .p (.mov (.tmp 4)), none⟩
 (.op ⟨some 12, .p (.conv .i64 (.tmp 11)), none⟩
 (.op ⟨some 13, .p (.build [.int .i64 0, .int .i64 0] [(0, 1, .tmp 12)]), none⟩
 (.op ⟨some 5, .l (.new 5 none [.int .i64 0, .int .i64 0]), none⟩
 (.op ⟨none, .l (.store 5 5 2 (.tmp 13)), none⟩ .done))))))
 (.seq (.seq (.reg (.op ⟨some 14, .p (.mov (.tmp 4)), none⟩
 (.op ⟨some 15, .p (.int2 .neq (.tmp 14) (.const (.int .u64 0))), none⟩ .done)))
 (.cond (.tmp 15) (.reg (.op ⟨some 17, .l (.load 1 1 2 true), none⟩
 (.op ⟨some 18, .call 74 [.tmp 17], none⟩
 (.op ⟨some 16, .p (.mov (.tmp 18)), none⟩
 (.op ⟨some 19, .p (.extract (.tmp 16) 0), none⟩
 (.op ⟨some 20, .p (.extract (.tmp 16) 1), none⟩
 (.op ⟨some 21, .l (.addr 5 5 1), none⟩
 (.op ⟨none, .l (.store 21 5 1 (.tmp 19)), none⟩
 (.op ⟨none, .l (.store 1 1 2 (.tmp 20)), none⟩ .done)))))))))
 (.skip)))
 (.seq (.reg (.op ⟨some 22, .l (.load 5 5 2 true), none⟩
 (.op ⟨some 23, .l (.load 1 1 2 true), none⟩
 (.op ⟨none, .l (.store 2 2 2 (.tmp 22)), none⟩
 (.op ⟨none, .l (.store 3 3 2 (.tmp 23)), none⟩
 (.done))))))
 (.ret)))))⟩

theorem cN73 : compF Try.prog aN73.cfg.pm aN73.cfg.lz Try.f73 = some aN73 := by kernel_rfl
theorem kN73 : aN73.ok = true := by kernel_rfl

-- (decoupage/decoupageref05.In).Eight
def aN74 : AFun := ⟨⟨14, [(1, false, []), (3, false, []), (5, false, [])], true⟩, [.tmp 2, .lcell 3 2 true],
 .seq (.reg (.op ⟨some 1, .l (.box 1 none (.tmp 0)), none⟩
 (.op ⟨some 2, .p (.mov (.const (.int .i64 0))), none⟩
 (.op ⟨some 3, .l (.new 3 none [.slice none 0 0, .bool false]), none⟩ .done))))
 (.seq (.reg (.op ⟨some 7, .l (.load 1 1 2 true), none⟩
 (.op ⟨some 8, .call 35 [.tmp 7, .const (.int .i64 8)], none⟩
 (.op ⟨some 6, .p (.mov (.tmp 8)), none⟩
 (.op ⟨some 9, .p (.extract (.tmp 6) 0), none⟩
 (.op ⟨some 10, .p (.extract (.tmp 6) 1), none⟩
 (.op ⟨some 5, .l (.new 5 none [.slice none 0 0, .bool false]), none⟩
 (.op ⟨some 4, .p (.mov (.tmp 9)), none⟩
 (.op ⟨none, .l (.store 5 5 2 (.tmp 10)), none⟩ .done)))))))))
 (.seq (.reg (.op ⟨some 11, .p (.mov (.tmp 4)), none⟩
 (.op ⟨some 12, .p (.conv .i64 (.tmp 11)), none⟩
 (.op ⟨some 13, .l (.load 5 5 2 true), none⟩
 (.op ⟨some 2, .p (.mov (.tmp 12)), none⟩
 (.op ⟨none, .l (.store 3 3 2 (.tmp 13)), none⟩
 (.done)))))))
 (.ret)))⟩

theorem cN74 : compF Try.prog aN74.cfg.pm aN74.cfg.lz Try.f74 = some aN74 := by kernel_rfl
theorem kN74 : aN74.ok = true := by kernel_rfl

end Go.Proofs.Ytbgnaeagdneikaa
