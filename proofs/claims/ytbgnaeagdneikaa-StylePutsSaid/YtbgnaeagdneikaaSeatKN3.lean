/- The compiled code of functions of the seat, printed by a program of mine (gen.py), checked by the kernel. -/
import Derived.Test.YtbgnaeagdneikaaCoreAi
import Derived.Test.YtbgnaeagdneikaaProg
import Derived.KernelRfl
namespace Go.Proofs.Ytbgnaeagdneikaa
open Go Go.Proofs.Ytbgnaeagdneikaa.Abs
set_option maxRecDepth 100000

-- decoupage/decoupagelaw06.StyleCuts
def aN8 : AFun := ⟨⟨33, [(2, false, [])], true⟩, [.tmp 4],
 .seq (.reg (.op ⟨some 2, .l (.box 2 none (.tmp 0)), none⟩
 (.op ⟨some 4, .p (.mov (.const (.bool false))), none⟩ .done)))
 (.seq (.seq (.reg (.op ⟨some 7, .call 19 [], none⟩
 (.op ⟨some 8, .p (.un .not (.tmp 7)), none⟩
 (.op ⟨some 9, .p (.mov (.tmp 8)), none⟩
 (.op ⟨some 10, .l (.load 2 2 48 true), some (9, false)⟩
 (.op ⟨some 11, .call 21 [.tmp 10], some (9, false)⟩
 (.op ⟨some 12, .p (.un .not (.tmp 11)), some (9, false)⟩
 (.op ⟨some 13, .p (.pick (.tmp 9) (.const (.bool true)) (.tmp 12)), none⟩ .done))))))))
 (.cond (.tmp 13) (.seq (.reg (.op ⟨some 14, .call 19 [], none⟩
 (.op ⟨some 4, .p (.mov (.tmp 14)), none⟩ .done)))
 (.ret))
 (.skip)))
 (.seq (.reg (.op ⟨some 15, .l (.load 2 2 48 true), none⟩
 (.op ⟨some 16, .call 39 [.tmp 15], none⟩
 (.op ⟨some 5, .p (.mov (.tmp 16)), none⟩ .done))))
 (.seq (.reg (.op ⟨some 17, .p (.mov (.tmp 5)), none⟩
 (.op ⟨some 18, .p (.mov (.tmp 1)), none⟩
 (.op ⟨some 19, .p (.conv .i64 (.tmp 18)), none⟩
 (.op ⟨some 20, .p (.mov (.tmp 5)), none⟩
 (.op ⟨some 21, .p (.lenS (.tmp 20)), none⟩
 (.op ⟨some 22, .p (.int2 .rem (.tmp 19) (.tmp 21)), none⟩
 (.op ⟨some 23, .p (.sliceS 1 (.tmp 17) none (some (.tmp 22))), none⟩
 (.op ⟨some 24, .call 30 [.tmp 23], none⟩
 (.op ⟨some 6, .p (.mov (.tmp 24)), none⟩ .done))))))))))
 (.seq (.reg (.op ⟨some 25, .p (.mov (.tmp 6)), none⟩
 (.op ⟨some 26, .call 40 [.tmp 25], none⟩
 (.op ⟨some 27, .p (.build [.bool false, .int .i64 0, .int .i64 0, .int .i64 0, .int .i64 0, .int .i64 0, .int .i64 0, .int .i64 0, .int .i64 0, .int .i64 0, .int .i64 0, .int .i64 0, .int .i64 0, .int .i64 0, .int .i64 0, .int .i64 0, .int .i64 0, .int .i64 0, .int .i64 0, .int .i64 0, .int .i64 0, .int .i64 0, .int .i64 0, .int .i64 0, .int .i64 0, .int .i64 0, .int .i64 0, .int .i64 0, .int .i64 0, .int .i64 0, .int .i64 0, .int .i64 0, .int .i64 0, .int .i64 0, .int .i64 0, .int .i64 0, .int .i64 0, .int .i64 0, .int .i64 0, .int .i64 0, .int .i64 0, .int .i64 0, .bool false, .bool false, .int .i64 0, .bool false, .int .i64 0, .int .i64 0] []), none⟩
 (.op ⟨some 28, .p (.eqa [false, true, true, true, true, true, true, true, true, true, true, true, true, true, true, true, true, true, true, true, true, true, true, true, true, true, true, true, true, true, true, true, true, true, true, true, true, true, true, true, true, true, false, false, true, false, true, true] false (.tmp 26) (.tmp 27)), none⟩
 (.op ⟨some 29, .p (.mov (.tmp 28)), none⟩
 (.op ⟨some 30, .p (.mov (.tmp 6)), some (29, true)⟩
 (.op ⟨some 31, .call 34 [.tmp 30], some (29, true)⟩
 (.op ⟨some 32, .p (.pick (.tmp 29) (.tmp 31) (.const (.bool false))), none⟩
 (.op ⟨some 4, .p (.mov (.tmp 32)), none⟩ .done))))))))))
 (.ret)))))⟩

theorem cN8 : compF Try.prog aN8.cfg.pm aN8.cfg.lz Try.f8 = some aN8 := by kernel_rfl
theorem kN8 : aN8.ok = true := by kernel_rfl

-- decoupage/decoupagelaw06.StyleGets
def aN9 : AFun := ⟨⟨60, [(4, false, []), (5, false, []), (6, false, [31, 38, 43, 52])], true⟩, [.tmp 2],
 .seq (.reg (.op ⟨some 2, .p (.mov (.const (.bool false))), none⟩ .done))
 (.seq (.seq (.reg (.op ⟨some 7, .call 19 [], none⟩
 (.op ⟨some 8, .p (.un .not (.tmp 7)), none⟩
 (.op ⟨some 9, .p (.mov (.tmp 8)), none⟩
 (.op ⟨some 10, .p (.mov (.tmp 0)), some (9, false)⟩
 (.op ⟨some 11, .p (.lenS (.tmp 10)), some (9, false)⟩
 (.op ⟨some 12, .p (.int2 .gtr (.tmp 11) (.const (.int .i64 1000))), some (9, false)⟩
 (.op ⟨some 13, .p (.pick (.tmp 9) (.const (.bool true)) (.tmp 12)), none⟩ .done))))))))
 (.cond (.tmp 13) (.seq (.reg (.op ⟨some 14, .call 19 [], none⟩
 (.op ⟨some 2, .p (.mov (.tmp 14)), none⟩ .done)))
 (.ret))
 (.skip)))
 (.seq (.reg (.op ⟨some 15, .p (.mov (.tmp 0)), none⟩
 (.op ⟨some 16, .call 30 [.tmp 15], none⟩
 (.op ⟨some 3, .p (.mov (.tmp 16)), none⟩ .done))))
 (.seq (.reg (.op ⟨some 17, .p (.mov (.tmp 3)), none⟩
 (.op ⟨some 18, .call 40 [.tmp 17], none⟩
 (.op ⟨some 4, .l (.new 4 none [.bool false, .int .i64 0, .int .i64 0, .int .i64 0, .int .i64 0, .int .i64 0, .int .i64 0, .int .i64 0, .int .i64 0, .int .i64 0, .int .i64 0, .int .i64 0, .int .i64 0, .int .i64 0, .int .i64 0, .int .i64 0, .int .i64 0, .int .i64 0, .int .i64 0, .int .i64 0, .int .i64 0, .int .i64 0, .int .i64 0, .int .i64 0, .int .i64 0, .int .i64 0, .int .i64 0, .int .i64 0, .int .i64 0, .int .i64 0, .int .i64 0, .int .i64 0, .int .i64 0, .int .i64 0, .int .i64 0, .int .i64 0, .int .i64 0, .int .i64 0, .int .i64 0, .int .i64 0, .int .i64 0, .int .i64 0, .bool false, .bool false, .int .i64 0, .bool false, .int .i64 0, .int .i64 0]), none⟩
 (.op ⟨none, .l (.store 4 4 48 (.tmp 18)), none⟩ .done)))))
 (.seq (.reg (.op ⟨some 20, .p (.mov (.tmp 0)), none⟩
 (.op ⟨some 21, .p (.build [.slice none 0 0, .bool false] [(0, 1, .tmp 20)]), none⟩
 (.op ⟨some 22, .call 41 [.tmp 21], none⟩
 (.op ⟨some 19, .p (.mov (.tmp 22)), none⟩
 (.op ⟨some 23, .p (.extract (.tmp 19) 0), none⟩
 (.op ⟨some 24, .p (.extract (.tmp 19) 1), none⟩
 (.op ⟨some 5, .l (.new 5 none [.bool false, .int .i64 0, .int .i64 0, .int .i64 0, .int .i64 0, .int .i64 0, .int .i64 0, .int .i64 0, .int .i64 0, .int .i64 0, .int .i64 0, .int .i64 0, .int .i64 0, .int .i64 0, .int .i64 0, .int .i64 0, .int .i64 0, .int .i64 0, .int .i64 0, .int .i64 0, .int .i64 0, .int .i64 0, .int .i64 0, .int .i64 0, .int .i64 0, .int .i64 0, .int .i64 0, .int .i64 0, .int .i64 0, .int .i64 0, .int .i64 0, .int .i64 0, .int .i64 0, .int .i64 0, .int .i64 0, .int .i64 0, .int .i64 0, .int .i64 0, .int .i64 0, .int .i64 0, .int .i64 0, .int .i64 0, .bool false, .bool false, .int .i64 0, .bool false, .int .i64 0, .int .i64 0]), none⟩
 (.op ⟨some 6, .l (.new 6 none [.slice none 0 0, .bool false]), none⟩
 (.op ⟨none, .l (.store 5 5 48 (.tmp 23)), none⟩
 (.op ⟨none, .l (.store 6 6 2 (.tmp 24)), none⟩ .done)))))))))))
 (.seq (.seq (.reg (.op ⟨some 25, .l (.load 4 4 48 true), none⟩
 (.op ⟨some 26, .l (.load 5 5 48 true), none⟩
 (.op ⟨some 27, .p (.eqa [false, true, true, true, true, true, true, true, true, true, true, true, true, true, true, true, true, true, true, true, true, true, true, true, true, true, true, true, true, true, true, true, true, true, true, true, true, true, true, true, true, true, false, false, true, false, true, true] true (.tmp 25) (.tmp 26)), none⟩
 (.op ⟨some 28, .p (.mov (.tmp 27)), none⟩
 (.op ⟨some 29, .p (.mov (.tmp 3)), some (28, false)⟩
 (.op ⟨some 31, .l (.addr 6 6 1), some (28, false)⟩
 (.op ⟨some 32, .l (.load 31 6 1 false), some (28, false)⟩
 (.op ⟨some 30, .call 34 [.tmp 29], some (28, false)⟩
 (.op ⟨some 33, .p (.eqb true (.tmp 30) (.tmp 32)), some (28, false)⟩
 (.op ⟨some 34, .p (.pick (.tmp 28) (.const (.bool true)) (.tmp 33)), none⟩
 (.op ⟨some 35, .p (.mov (.tmp 34)), none⟩
 (.op ⟨some 36, .p (.mov (.tmp 3)), some (35, false)⟩
 (.op ⟨some 38, .l (.addr 6 6 0), some (35, false)⟩
 (.op ⟨some 39, .l (.load 38 6 1 false), some (35, false)⟩
 (.op ⟨some 40, .p (.lenS (.tmp 39)), some (35, false)⟩
 (.op ⟨some 37, .call 38 [.tmp 36], some (35, false)⟩
 (.op ⟨some 41, .p (.int2 .neq (.tmp 37) (.tmp 40)), some (35, false)⟩
 (.op ⟨some 42, .p (.pick (.tmp 35) (.const (.bool true)) (.tmp 41)), none⟩
 (.done))))))))))))))))))))
 (.cond (.tmp 42) (.seq (.reg (.op ⟨some 2, .p (.mov (.const (.bool false))), none⟩ .done))
 (.ret))
 (.skip)))
 (.seq (.reg (.op ⟨some 43, .l (.addr 6 6 1), none⟩
 (.op ⟨some 44, .l (.load 43 6 1 false), none⟩
 (.op ⟨some 45, .p (.mov (.tmp 44)), none⟩
 (.op ⟨some 46, .l (.load 4 4 48 true), some (45, false)⟩
 (.op ⟨some 49, .p (.mov (.tmp 0)), some (45, false)⟩
 (.op ⟨some 50, .p (.mov (.tmp 0)), some (45, false)⟩
 (.op ⟨some 51, .p (.lenS (.tmp 50)), some (45, false)⟩
 (.op ⟨some 52, .l (.addr 6 6 0), some (45, false)⟩
 (.op ⟨some 53, .l (.load 52 6 1 false), some (45, false)⟩
 (.op ⟨some 54, .p (.lenS (.tmp 53)), some (45, false)⟩
 (.op ⟨some 55, .p (.int2 .sub (.tmp 51) (.tmp 54)), some (45, false)⟩
 (.op ⟨some 56, .p (.sliceS 1 (.tmp 49) none (some (.tmp 55))), some (45, false)⟩
 (.op ⟨some 57, .h (.b2s (.tmp 56)), some (45, false)⟩
 (.op ⟨some 47, .call 39 [.tmp 46], some (45, false)⟩
 (.chk [⟨57, .b2s (.tmp 56), some (45, false)⟩]
 (.op ⟨some 48, .h (.b2s (.tmp 47)), some (45, false)⟩
 (.op ⟨some 58, .p (.eqs false (.tmp 48) (.tmp 57)), some (45, false)⟩
 (.op ⟨some 59, .p (.pick (.tmp 45) (.const (.bool true)) (.tmp 58)), none⟩
 (.op ⟨some 2, .p (.mov (.tmp 59)), none⟩
 (.done)))))))))))))))))))))
 (.ret)))))))⟩

theorem cN9 : compF Try.prog aN9.cfg.pm aN9.cfg.lz Try.f9 = some aN9 := by kernel_rfl
theorem kN9 : aN9.ok = true := by kernel_rfl

end Go.Proofs.Ytbgnaeagdneikaa
