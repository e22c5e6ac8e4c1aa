/- The compiled code of functions of the seat, printed by a program of mine (gen.py), checked by the kernel. -/
import Derived.Test.YtbgnaeagdneikaaCoreAi
import Derived.Test.YtbgnaeagdneikaaProg
import Derived.KernelRfl
namespace Go.Proofs.Ytbgnaeagdneikaa
open Go Go.Proofs.Ytbgnaeagdneikaa.Abs
set_option maxRecDepth 100000

-- decoupage/decoupageref30.four
def aN75 : AFun := ⟨⟨12, [(1, false, [3, 5, 7, 9]), (2, false, [])], true⟩, [.lcell 2 4 true],
 .seq (.reg (.op ⟨some 1, .l (.box 1 none (.tmp 0)), none⟩
 (.op ⟨some 2, .l (.new 2 none [.int .i64 0, .int .i64 0, .int .i64 0, .int .i64 0]), none⟩ .done)))
 (.seq (.reg (.op ⟨some 3, .l (.addr 1 1 0), none⟩
 (.op ⟨some 4, .l (.load 3 1 1 false), none⟩
 (.op ⟨some 5, .l (.addr 1 1 1), none⟩
 (.op ⟨some 6, .l (.load 5 1 1 false), none⟩
 (.op ⟨some 7, .l (.addr 1 1 2), none⟩
 (.op ⟨some 8, .l (.load 7 1 1 false), none⟩
 (.op ⟨some 9, .l (.addr 1 1 3), none⟩
 (.op ⟨some 10, .l (.load 9 1 1 false), none⟩
 (.op ⟨some 11, .p (.build [.int .i64 0, .int .i64 0, .int .i64 0, .int .i64 0] [(0, 1, .tmp 4), (1, 1, .tmp 6), (2, 1, .tmp 8), (3, 1, .tmp 10)]), none⟩
 (.op ⟨none, .l (.store 2 2 4 (.tmp 11)), none⟩ .done)))))))))))
 (.ret))⟩

theorem cN75 : compF Try.prog aN75.cfg.pm aN75.cfg.lz Try.f75 = some aN75 := by kernel_rfl
theorem kN75 : aN75.ok = true := by kernel_rfl

-- decoupage/decoupageref01.Fits
def aN76 : AFun := ⟨⟨9, [], true⟩, [.tmp 2],
 .seq (.reg (.op ⟨some 2, .p (.mov (.const (.bool false))), none⟩ .done))
 (.seq (.reg (.op ⟨some 3, .p (.mov (.tmp 0)), none⟩
 (.op ⟨some 4, .p (.int2 .geq (.tmp 3) (.const (.int .i64 (-1125899906842624)))), none⟩
 (.op ⟨some 5, .p (.mov (.tmp 4)), none⟩
 (.op ⟨some 6, .p (.mov (.tmp 0)), some (5, true)⟩
 (.op ⟨some 7, .p (.int2 .leq (.tmp 6) (.const (.int .i64 1125899906842624))), some (5, true)⟩
 (.op ⟨some 8, .p (.pick (.tmp 5) (.tmp 7) (.const (.bool false))), none⟩
 (.op ⟨some 2, .p (.mov (.tmp 8)), none⟩ .done))))))))
 (.ret))⟩

theorem cN76 : compF Try.prog aN76.cfg.pm aN76.cfg.lz Try.f76 = some aN76 := by kernel_rfl
theorem kN76 : aN76.ok = true := by kernel_rfl

-- decoupage/plate.fits
def aN77 : AFun := ⟨⟨21, [(1, false, [3, 7, 12, 17])], true⟩, [.tmp 2],
 .seq (.reg (.op ⟨some 1, .l (.box 1 none (.tmp 0)), none⟩
 (.op ⟨some 2, .p (.mov (.const (.bool false))), none⟩ .done)))
 (.seq (.reg (.op ⟨some 3, .l (.addr 1 1 0), none⟩
 (.op ⟨some 4, .l (.load 3 1 1 false), none⟩
 (.op ⟨some 5, .call 92 [.tmp 4], none⟩
 (.op ⟨some 6, .p (.mov (.tmp 5)), none⟩
 (.op ⟨some 7, .l (.addr 1 1 1), some (6, true)⟩
 (.op ⟨some 8, .l (.load 7 1 1 false), some (6, true)⟩
 (.op ⟨some 9, .call 92 [.tmp 8], some (6, true)⟩
 (.op ⟨some 10, .p (.pick (.tmp 6) (.tmp 9) (.const (.bool false))), none⟩
 (.op ⟨some 11, .p (.mov (.tmp 10)), none⟩
 (.op ⟨some 12, .l (.addr 1 1 2), some (11, true)⟩
 (.op ⟨some 13, .l (.load 12 1 1 false), some (11, true)⟩
 (.op ⟨some 14, .call 92 [.tmp 13], some (11, true)⟩
 (.op ⟨some 15, .p (.pick (.tmp 11) (.tmp 14) (.const (.bool false))), none⟩
 (.op ⟨some 16, .p (.mov (.tmp 15)), none⟩
 (.op ⟨some 17, .l (.addr 1 1 3), some (16, true)⟩
 (.op ⟨some 18, .l (.load 17 1 1 false), some (16, true)⟩
 (.op ⟨some 19, .call 92 [.tmp 18], some (16, true)⟩
 (.op ⟨some 20, .p (.pick (.tmp 16) (.tmp 19) (.const (.bool false))), none⟩
 (.op ⟨some 2, .p (.mov (.tmp 20)), none⟩ .done))))))))))))))))))))
 (.ret))⟩

theorem cN77 : compF Try.prog aN77.cfg.pm aN77.cfg.lz Try.f77 = some aN77 := by kernel_rfl
theorem kN77 : aN77.ok = true := by kernel_rfl

-- decoupage/plate.put
def aN80 : AFun := ⟨⟨24, [(3, false, [6, 8, 10, 12])], true⟩, [],
 .seq (.reg (.op ⟨some 3, .l (.box 3 none (.tmp 1)), none⟩ .done))
 (.seq (.reg (.op ⟨some 6, .l (.addr 3 3 0), none⟩
 (.op ⟨some 7, .l (.load 6 3 1 false), none⟩
 (.op ⟨some 8, .l (.addr 3 3 1), none⟩
 (.op ⟨some 9, .l (.load 8 3 1 false), none⟩
 (.op ⟨some 10, .l (.addr 3 3 2), none⟩
 (.op ⟨some 11, .l (.load 10 3 1 false), none⟩
 (.op ⟨some 12, .l (.addr 3 3 3), none⟩
 (.op ⟨some 13, .l (.load 12 3 1 false), none⟩
 (.op ⟨some 14, .h (.buildSlice 1 4 [.int .i64 0, .int .i64 0, .int .i64 0, .int .i64 0] [(0, 1, .tmp 7), (1, 1, .tmp 9), (2, 1, .tmp 11), (3, 1, .tmp 13)]), none⟩
 (.op ⟨some 15, .p (.lenS (.tmp 14)), none⟩
 (.op ⟨some 16, .p (.mov (.const (.int .i64 0))), none⟩ .done))))))))))))
 (.block 0 (.loop (.seq (.reg (.op ⟨some 17, .p (.int2 .lss (.tmp 16) (.tmp 15)), none⟩ .done))
 (.seq (.cond (.tmp 17) (.skip)
 (.exit 0))
 (.seq (.block 1 (.seq (.reg (.op ⟨some 18, .p (.idxS 1 (.tmp 14) (.tmp 16)), none⟩
 (.op ⟨some 19, .h (.load 1 false (.tmp 18)), none⟩
 (.op ⟨some 5, .p (.mov (.tmp 19)), none⟩ .done))))
 (.reg (.op ⟨some 20, .p (.mov (.tmp 0)), none⟩
 (.op ⟨some 21, .p (.mov (.tmp 5)), none⟩
 (.op ⟨some 22, .call 27 [.tmp 20, .tmp 21], none⟩ .done))))))
 (.reg (.op ⟨some 23, .p (.int2 .add (.tmp 16) (.const (.int .i64 1))), none⟩
 (.op ⟨some 16, .p (.mov (.tmp 23)), none⟩ .done)))))))))⟩

theorem cN80 : compF Try.prog aN80.cfg.pm aN80.cfg.lz Try.f80 = some aN80 := by kernel_rfl
theorem kN80 : aN80.ok = true := by kernel_rfl

-- decoupage/decoupageref30.rect
def aN82 : AFun := ⟨⟨20, [(1, false, []), (4, false, [13])], true⟩, [.tmp 2],
 .seq (.reg (.op ⟨some 1, .l (.box 1 none (.tmp 0)), none⟩
 (.op ⟨some 2, .p (.mov (.const (.slice none 0 0))), none⟩ .done)))
 (.seq (.reg (.op ⟨some 3, .p (.mov (.const (.slice none 0 0))), none⟩ .done))
 (.seq (.reg (.op ⟨some 6, .l (.load 1 1 4 true), none⟩
 (.op ⟨some 7, .call 75 [.tmp 6], none⟩
 (.op ⟨some 4, .l (.new 4 none [.int .i64 0, .int .i64 0, .int .i64 0, .int .i64 0]), none⟩
 (.op ⟨none, .l (.store 4 4 4 (.tmp 7)), none⟩ .done)))))
 (.seq (.seq (.reg (.op ⟨some 8, .p (.mov (.const (.int .i64 0))), none⟩ .done))
 (.block 0 (.loop (.seq (.reg (.op ⟨some 9, .p (.int2 .lss (.tmp 8) (.const (.int .i64 4))), none⟩ .done))
 (.seq (.cond (.tmp 9) (.skip)
 (.exit 0))
 (.seq (.block 1 (.seq (.reg (.op ⟨some 10, .p (.mov (.tmp 8)), none⟩
 (.op ⟨some 5, .p (.mov (.tmp 10)), none⟩ .done)))
 (.reg (.op ⟨some 11, .p (.mov (.tmp 3)), none⟩
 (.op ⟨some 12, .p (.mov (.tmp 5)), none⟩
 (.op ⟨some 13, .l (.idx 4 4 4 1 (.tmp 12)), none⟩
 (.op ⟨some 14, .l (.load 13 4 1 false), none⟩
 (.op ⟨some 15, .p (.conv .u64 (.tmp 14)), none⟩
 (.op ⟨some 16, .call 49 [.tmp 15, .const (.int .i64 8)], none⟩
 (.op ⟨some 17, .h (.append 1 1 (.tmp 11) (.tmp 16)), none⟩
 (.op ⟨some 3, .p (.mov (.tmp 17)), none⟩ .done)))))))))))
 (.reg (.op ⟨some 18, .p (.int2 .add (.tmp 8) (.const (.int .i64 1))), none⟩
 (.op ⟨some 8, .p (.mov (.tmp 18)), none⟩ .done)))))))))
 (.seq (.reg (.op ⟨some 19, .p (.mov (.tmp 3)), none⟩
 (.op ⟨some 2, .p (.mov (.tmp 19)), none⟩ .done)))
 (.ret)))))⟩

theorem cN82 : compF Try.prog aN82.cfg.pm aN82.cfg.lz Try.f82 = some aN82 := by kernel_rfl
theorem kN82 : aN82.ok = true := by kernel_rfl

-- decoupage/fix.Fits
def aN92 : AFun := ⟨⟨9, [], true⟩, [.tmp 2],
 .seq (.reg (.op ⟨some 2, .p (.mov (.const (.bool false))), none⟩ .done))
 (.seq (.reg (.op ⟨some 3, .p (.mov (.tmp 0)), none⟩
 (.op ⟨some 4, .p (.int2 .geq (.tmp 3) (.const (.int .i64 (-1125899906842624)))), none⟩
 (.op ⟨some 5, .p (.mov (.tmp 4)), none⟩
 (.op ⟨some 6, .p (.mov (.tmp 0)), some (5, true)⟩
 (.op ⟨some 7, .p (.int2 .leq (.tmp 6) (.const (.int .i64 1125899906842624))), some (5, true)⟩
 (.op ⟨some 8, .p (.pick (.tmp 5) (.tmp 7) (.const (.bool false))), none⟩
 (.op ⟨some 2, .p (.mov (.tmp 8)), none⟩ .done))))))))
 (.ret))⟩

theorem cN92 : compF Try.prog aN92.cfg.pm aN92.cfg.lz Try.f92 = some aN92 := by kernel_rfl
theorem kN92 : aN92.ok = true := by kernel_rfl

end Go.Proofs.Ytbgnaeagdneikaa
namespace Go.Proofs.Ytbgnaeagdneikaa
open Go Go.Proofs.Ytbgnaeagdneikaa.Abs
set_option maxRecDepth 100000

-- decoupage/decoupageref30.Right
def aN43 : AFun := ⟨⟨61, [(1, false, [7, 9, 11, 29, 33, 37, 43, 47, 52, 57]), (4, true, []), (5, true, [23])], true⟩, [.tmp 2],
 .seq (.reg (.op ⟨some 1, .l (.box 1 none (.tmp 0)), none⟩
 (.op ⟨some 2, .p (.mov (.const (.bool false))), none⟩ .done)))
 (.seq (.seq (.reg (.op ⟨some 7, .l (.addr 1 1 2), none⟩
 (.op ⟨some 8, .l (.load 7 1 4 true), none⟩
 (.op ⟨some 9, .l (.addr 1 1 6), none⟩
 (.op ⟨some 10, .l (.load 9 1 4 true), none⟩
 (.op ⟨some 11, .l (.addr 1 1 10), none⟩
 (.op ⟨some 12, .l (.load 11 1 4 true), none⟩
 (.op ⟨some 13, .p (.build [.int .i64 0, .int .i64 0, .int .i64 0, .int .i64 0, .int .i64 0, .int .i64 0, .int .i64 0, .int .i64 0, .int .i64 0, .int .i64 0, .int .i64 0, .int .i64 0] [(0, 4, .tmp 8), (4, 4, .tmp 10), (8, 4, .tmp 12)]), none⟩
 (.op ⟨some 14, .p (.mov (.const (.int .i64 0))), none⟩ .done)))))))))
 (.block 0 (.loop (.seq (.reg (.op ⟨some 15, .p (.int2 .lss (.tmp 14) (.const (.int .i64 3))), none⟩ .done))
 (.seq (.cond (.tmp 15) (.skip)
 (.exit 0))
 (.seq (.block 1 (.seq (.reg (.op ⟨some 16, .p (.idxV 3 4 true (.tmp 13) (.tmp 14)), none⟩
 (.op ⟨some 4, .l (.new 4 (some []) [.int .i64 0, .int .i64 0, .int .i64 0, .int .i64 0]), none⟩
 (.op ⟨none, .l (.store 4 4 4 (.tmp 16)), none⟩ .done))))
 (.seq (.reg (.op ⟨some 17, .l (.load 4 4 4 true), none⟩
 (.op ⟨some 18, .call 75 [.tmp 17], none⟩
 (.op ⟨some 5, .l (.new 5 (some [23]) [.int .i64 0, .int .i64 0, .int .i64 0, .int .i64 0]), none⟩
 (.op ⟨none, .l (.store 5 5 4 (.tmp 18)), none⟩ .done)))))
 (.seq (.reg (.op ⟨some 19, .p (.mov (.const (.int .i64 0))), none⟩ .done))
 (.block 2 (.loop (.seq (.reg (.op ⟨some 20, .p (.int2 .lss (.tmp 19) (.const (.int .i64 4))), none⟩ .done))
 (.seq (.cond (.tmp 20) (.skip)
 (.exit 2))
 (.seq (.block 3 (.seq (.reg (.op ⟨some 21, .p (.mov (.tmp 19)), none⟩
 (.op ⟨some 6, .p (.mov (.tmp 21)), none⟩ .done)))
 (.seq (.reg (.op ⟨some 22, .p (.mov (.tmp 6)), none⟩
 (.op ⟨some 23, .l (.idx 5 5 4 1 (.tmp 22)), none⟩
 (.op ⟨some 24, .l (.load 23 5 1 false), none⟩
 (.op ⟨some 25, .call 76 [.tmp 24], none⟩
 (.op ⟨some 26, .p (.un .not (.tmp 25)), none⟩ .done))))))
 (.cond (.tmp 26) (.seq (.reg (.op ⟨some 2, .p (.mov (.const (.bool false))), none⟩ .done))
 (.ret))
 (.skip)))))
 (.reg (.op ⟨some 27, .p (.int2 .add (.tmp 19) (.const (.int .i64 1))), none⟩
 (.op ⟨some 19, .p (.mov (.tmp 27)), none⟩ .done))))))))))))
 (.reg (.op ⟨some 28, .p (.int2 .add (.tmp 14) (.const (.int .i64 1))), none⟩
 (.op ⟨some 14, .p (.mov (.tmp 28)), none⟩ .done)))))))))
 (.seq (.seq (.reg (.op ⟨some 29, .l (.addr 1 1 1), none⟩
 (.op ⟨some 30, .l (.load 29 1 1 false), none⟩
 (.op ⟨some 31, .p (.int2 .neq (.tmp 30) (.const (.int .i64 1))), none⟩
 (.op ⟨some 32, .p (.mov (.tmp 31)), none⟩
 (.op ⟨some 33, .l (.addr 1 1 1), some (32, true)⟩
 (.op ⟨some 34, .l (.load 33 1 1 false), some (32, true)⟩
 (.op ⟨some 35, .p (.int2 .neq (.tmp 34) (.const (.int .i64 0))), some (32, true)⟩
 (.op ⟨some 36, .p (.mov (.tmp 35)), some (32, true)⟩
 (.op ⟨some 37, .l (.addr 1 1 6), some (36, false)⟩
 (.op ⟨some 38, .l (.load 37 1 4 true), some (36, false)⟩
 (.op ⟨some 39, .p (.build [.int .i64 0, .int .i64 0, .int .i64 0, .int .i64 0] []), some (36, false)⟩
 (.op ⟨some 40, .p (.eqa [true, true, true, true] true (.tmp 38) (.tmp 39)), some (36, false)⟩
 (.op ⟨some 41, .p (.pick (.tmp 36) (.const (.bool true)) (.tmp 40)), some (32, true)⟩
 (.op ⟨some 42, .p (.pick (.tmp 32) (.tmp 41) (.const (.bool false))), none⟩ .done)))))))))))))))
 (.cond (.tmp 42) (.seq (.reg (.op ⟨some 2, .p (.mov (.const (.bool false))), none⟩ .done))
 (.ret))
 (.skip)))
 (.seq (.reg (.op ⟨some 43, .l (.addr 1 1 0), none⟩
 (.op ⟨some 44, .l (.load 43 1 1 false), none⟩
 (.op ⟨some 45, .p (.int2 .geq (.tmp 44) (.const (.int .i64 0))), none⟩
 (.op ⟨some 46, .p (.mov (.tmp 45)), none⟩
 (.op ⟨some 47, .l (.addr 1 1 0), some (46, true)⟩
 (.op ⟨some 48, .l (.load 47 1 1 false), some (46, true)⟩
 (.op ⟨some 49, .p (.int2 .leq (.tmp 48) (.const (.int .i64 65535))), some (46, true)⟩
 (.op ⟨some 50, .p (.pick (.tmp 46) (.tmp 49) (.const (.bool false))), none⟩
 (.op ⟨some 51, .p (.mov (.tmp 50)), none⟩
 (.op ⟨some 52, .l (.addr 1 1 14), some (51, true)⟩
 (.op ⟨some 53, .l (.load 52 1 1 false), some (51, true)⟩
 (.op ⟨some 54, .p (.int2 .geq (.tmp 53) (.const (.int .i64 1))), some (51, true)⟩
 (.op ⟨some 55, .p (.pick (.tmp 51) (.tmp 54) (.const (.bool false))), none⟩
 (.op ⟨some 56, .p (.mov (.tmp 55)), none⟩
 (.op ⟨some 57, .l (.addr 1 1 14), some (56, true)⟩
 (.op ⟨some 58, .l (.load 57 1 1 false), some (56, true)⟩
 (.op ⟨some 59, .p (.int2 .leq (.tmp 58) (.const (.int .i64 16777216))), some (56, true)⟩
 (.op ⟨some 60, .p (.pick (.tmp 56) (.tmp 59) (.const (.bool false))), none⟩
 (.op ⟨some 2, .p (.mov (.tmp 60)), none⟩ .done))))))))))))))))))))
 (.ret))))⟩

theorem cN43 : compF Try.prog aN43.cfg.pm aN43.cfg.lz Try.f43 = some aN43 := by kernel_rfl
theorem kN43 : aN43.ok = true := by kernel_rfl

-- decoupage/plate.Right
def aN44 : AFun := ⟨⟨53, [(1, false, [3, 7, 12, 17, 22, 28, 34, 39, 43, 47])], true⟩, [.tmp 2],
 .seq (.reg (.op ⟨some 1, .l (.box 1 none (.tmp 0)), none⟩
 (.op ⟨some 2, .p (.mov (.const (.bool false))), none⟩ .done)))
 (.seq (.seq (.reg (.op ⟨some 3, .l (.addr 1 1 0), none⟩
 (.op ⟨some 4, .l (.load 3 1 1 false), none⟩
 (.op ⟨some 5, .p (.int2 .lss (.tmp 4) (.const (.int .i64 0))), none⟩
 (.op ⟨some 6, .p (.mov (.tmp 5)), none⟩
 (.op ⟨some 7, .l (.addr 1 1 0), some (6, false)⟩
 (.op ⟨some 8, .l (.load 7 1 1 false), some (6, false)⟩
 (.op ⟨some 9, .p (.int2 .gtr (.tmp 8) (.const (.int .i64 65535))), some (6, false)⟩
 (.op ⟨some 10, .p (.pick (.tmp 6) (.const (.bool true)) (.tmp 9)), none⟩
 (.op ⟨some 11, .p (.mov (.tmp 10)), none⟩
 (.op ⟨some 12, .l (.addr 1 1 14), some (11, false)⟩
 (.op ⟨some 13, .l (.load 12 1 1 false), some (11, false)⟩
 (.op ⟨some 14, .p (.int2 .lss (.tmp 13) (.const (.int .i64 1))), some (11, false)⟩
 (.op ⟨some 15, .p (.pick (.tmp 11) (.const (.bool true)) (.tmp 14)), none⟩
 (.op ⟨some 16, .p (.mov (.tmp 15)), none⟩
 (.op ⟨some 17, .l (.addr 1 1 14), some (16, false)⟩
 (.op ⟨some 18, .l (.load 17 1 1 false), some (16, false)⟩
 (.op ⟨some 19, .p (.int2 .gtr (.tmp 18) (.const (.int .i64 16777216))), some (16, false)⟩
 (.op ⟨some 20, .p (.pick (.tmp 16) (.const (.bool true)) (.tmp 19)), none⟩
 (.op ⟨some 21, .p (.mov (.tmp 20)), none⟩
 (.op ⟨some 22, .l (.addr 1 1 2), some (21, false)⟩
 (.op ⟨some 23, .l (.load 22 1 4 true), some (21, false)⟩
 (.op ⟨some 24, .call 77 [.tmp 23], some (21, false)⟩
 (.op ⟨some 25, .p (.un .not (.tmp 24)), some (21, false)⟩
 (.op ⟨some 26, .p (.pick (.tmp 21) (.const (.bool true)) (.tmp 25)), none⟩
 (.op ⟨some 27, .p (.mov (.tmp 26)), none⟩
 (.op ⟨some 28, .l (.addr 1 1 6), some (27, false)⟩
 (.op ⟨some 29, .l (.load 28 1 4 true), some (27, false)⟩
 (.op ⟨some 30, .call 77 [.tmp 29], some (27, false)⟩
 (.op ⟨some 31, .p (.un .not (.tmp 30)), some (27, false)⟩
 (.op ⟨some 32, .p (.pick (.tmp 27) (.const (.bool true)) (.tmp 31)), none⟩
 (.op ⟨some 33, .p (.mov (.tmp 32)), none⟩
 (.op ⟨some 34, .l (.addr 1 1 10), some (33, false)⟩
 (.op ⟨some 35, .l (.load 34 1 4 true), some (33, false)⟩
 (.op ⟨some 36, .call 77 [.tmp 35], some (33, false)⟩
 (.op ⟨some 37, .p (.un .not (.tmp 36)), some (33, false)⟩
 (.op ⟨some 38, .p (.pick (.tmp 33) (.const (.bool true)) (.tmp 37)), none⟩ .done)))))))))))))))))))))))))))))))))))))
 (.cond (.tmp 38) (.seq (.reg (.op ⟨some 2, .p (.mov (.const (.bool false))), none⟩ .done))
 (.ret))
 (.skip)))
 (.seq (.reg (.op ⟨some 39, .l (.addr 1 1 1), none⟩
 (.op ⟨some 40, .l (.load 39 1 1 false), none⟩
 (.op ⟨some 41, .p (.int2 .eql (.tmp 40) (.const (.int .i64 1))), none⟩
 (.op ⟨some 42, .p (.mov (.tmp 41)), none⟩
 (.op ⟨some 43, .l (.addr 1 1 1), some (42, false)⟩
 (.op ⟨some 44, .l (.load 43 1 1 false), some (42, false)⟩
 (.op ⟨some 45, .p (.int2 .eql (.tmp 44) (.const (.int .i64 0))), some (42, false)⟩
 (.op ⟨some 46, .p (.mov (.tmp 45)), some (42, false)⟩
 (.op ⟨some 47, .l (.addr 1 1 6), some (46, true)⟩
 (.op ⟨some 48, .l (.load 47 1 4 true), some (46, true)⟩
 (.op ⟨some 49, .p (.build [.int .i64 0, .int .i64 0, .int .i64 0, .int .i64 0] []), some (46, true)⟩
 (.op ⟨some 50, .p (.eqa [true, true, true, true] false (.tmp 48) (.tmp 49)), some (46, true)⟩
 (.op ⟨some 51, .p (.pick (.tmp 46) (.tmp 50) (.const (.bool false))), some (42, false)⟩
 (.op ⟨some 52, .p (.pick (.tmp 42) (.const (.bool true)) (.tmp 51)), none⟩
 (.op ⟨some 2, .p (.mov (.tmp 52)), none⟩ .done))))))))))))))))
 (.ret)))⟩

theorem cN44 : compF Try.prog aN44.cfg.pm aN44.cfg.lz Try.f44 = some aN44 := by kernel_rfl
theorem kN44 : aN44.ok = true := by kernel_rfl

-- decoupage/plate.get
def aN81 : AFun := ⟨⟨12, [(2, false, [])], true⟩, [.lcell 2 4 true],
 .seq (.reg (.op ⟨some 2, .l (.new 2 none [.int .i64 0, .int .i64 0, .int .i64 0, .int .i64 0]), none⟩ .done))
 (.seq (.reg (.op ⟨some 3, .p (.mov (.tmp 0)), none⟩
 (.op ⟨some 4, .call 31 [.tmp 3], none⟩
 (.op ⟨some 5, .p (.mov (.tmp 0)), none⟩
 (.op ⟨some 6, .call 31 [.tmp 5], none⟩
 (.op ⟨some 7, .p (.mov (.tmp 0)), none⟩
 (.op ⟨some 8, .call 31 [.tmp 7], none⟩
 (.op ⟨some 9, .p (.mov (.tmp 0)), none⟩
 (.op ⟨some 10, .call 31 [.tmp 9], none⟩
 (.op ⟨some 11, .p (.build [.int .i64 0, .int .i64 0, .int .i64 0, .int .i64 0] [(0, 1, .tmp 4), (1, 1, .tmp 6), (2, 1, .tmp 8), (3, 1, .tmp 10)]), none⟩
 (.op ⟨none, .l (.store 2 2 4 (.tmp 11)), none⟩ .done)))))))))))
 (.ret))⟩

theorem cN81 : compF Try.prog aN81.cfg.pm aN81.cfg.lz Try.f81 = some aN81 := by kernel_rfl
theorem kN81 : aN81.ok = true := by kernel_rfl

end Go.Proofs.Ytbgnaeagdneikaa
namespace Go.Proofs.Ytbgnaeagdneikaa
open Go Go.Proofs.Ytbgnaeagdneikaa.Abs
set_option maxRecDepth 100000

-- decoupage/plate.Encode
def aN45 : AFun := ⟨⟨44, [(6, true, [19, 23, 27, 30, 33, 36, 39])], true⟩, [.tmp 2, .tmp 3],
 .seq (.reg (.op ⟨some 2, .p (.mov (.const (.slice none 0 0))), none⟩
 (.op ⟨some 3, .p (.mov (.const (.int .i64 0))), none⟩ .done)))
 (.seq (.seq (.reg (.op ⟨some 7, .p (.mov (.tmp 0)), none⟩
 (.op ⟨some 8, .call 78 [.tmp 7, .func 79], none⟩ .done)))
 (.cond (.tmp 8) (.seq (.reg (.op ⟨some 2, .p (.mov (.const (.slice none 0 0))), none⟩
 (.op ⟨some 3, .p (.mov (.const (.int .i64 1))), none⟩ .done)))
 (.ret))
 (.skip)))
 (.seq (.reg (.op ⟨some 4, .h (.alloc [.slice none 0 0]), none⟩ .done))
 (.seq (.reg (.op ⟨some 9, .p (.mov (.tmp 0)), none⟩
 (.op ⟨some 10, .p (.lenS (.tmp 9)), none⟩
 (.op ⟨some 11, .p (.conv .u32 (.tmp 10)), none⟩
 (.op ⟨some 12, .call 26 [.tmp 4, .tmp 11], none⟩ .done)))))
 (.seq (.seq (.reg (.op ⟨some 13, .p (.mov (.tmp 0)), none⟩
 (.op ⟨some 14, .p (.lenS (.tmp 13)), none⟩
 (.op ⟨some 15, .p (.mov (.const (.int .i64 0))), none⟩ .done))))
 (.block 0 (.loop (.seq (.reg (.op ⟨some 16, .p (.int2 .lss (.tmp 15) (.tmp 14)), none⟩ .done))
 (.seq (.cond (.tmp 16) (.skip)
 (.exit 0))
 (.seq (.block 1 (.seq (.reg (.op ⟨some 17, .p (.idxS 15 (.tmp 13) (.tmp 15)), none⟩
 (.op ⟨some 18, .h (.load 15 true (.tmp 17)), none⟩
 (.op ⟨some 6, .l (.new 6 (some [19, 23, 27, 30, 33, 36, 39]) [.int .i64 0, .int .i64 0, .int .i64 0, .int .i64 0, .int .i64 0, .int .i64 0, .int .i64 0, .int .i64 0, .int .i64 0, .int .i64 0, .int .i64 0, .int .i64 0, .int .i64 0, .int .i64 0, .int .i64 0]), none⟩
 (.op ⟨none, .l (.store 6 6 15 (.tmp 18)), none⟩ .done)))))
 (.seq (.reg (.op ⟨some 19, .l (.addr 6 6 0), none⟩
 (.op ⟨some 20, .l (.load 19 6 1 false), none⟩
 (.op ⟨some 21, .p (.conv .u32 (.tmp 20)), none⟩
 (.op ⟨some 22, .call 26 [.tmp 4, .tmp 21], none⟩ .done)))))
 (.seq (.reg (.op ⟨some 23, .l (.addr 6 6 1), none⟩
 (.op ⟨some 24, .l (.load 23 6 1 false), none⟩
 (.op ⟨some 25, .p (.conv .u8 (.tmp 24)), none⟩
 (.op ⟨some 26, .call 25 [.tmp 4, .tmp 25], none⟩ .done)))))
 (.seq (.reg (.op ⟨some 27, .l (.addr 6 6 2), none⟩
 (.op ⟨some 28, .l (.load 27 6 4 true), none⟩
 (.op ⟨some 29, .call 80 [.tmp 4, .tmp 28], none⟩ .done))))
 (.seq (.seq (.reg (.op ⟨some 30, .l (.addr 6 6 1), none⟩
 (.op ⟨some 31, .l (.load 30 6 1 false), none⟩
 (.op ⟨some 32, .p (.int2 .eql (.tmp 31) (.const (.int .i64 1))), none⟩ .done))))
 (.cond (.tmp 32) (.reg (.op ⟨some 33, .l (.addr 6 6 6), none⟩
 (.op ⟨some 34, .l (.load 33 6 4 true), none⟩
 (.op ⟨some 35, .call 80 [.tmp 4, .tmp 34], none⟩ .done))))
 (.skip)))
 (.seq (.reg (.op ⟨some 36, .l (.addr 6 6 10), none⟩
 (.op ⟨some 37, .l (.load 36 6 4 true), none⟩
 (.op ⟨some 38, .call 80 [.tmp 4, .tmp 37], none⟩ .done))))
 (.reg (.op ⟨some 39, .l (.addr 6 6 14), none⟩
 (.op ⟨some 40, .l (.load 39 6 1 false), none⟩
 (.op ⟨some 41, .call 27 [.tmp 4, .tmp 40], none⟩ .done)))))))))))
 (.reg (.op ⟨some 42, .p (.int2 .add (.tmp 15) (.const (.int .i64 1))), none⟩
 (.op ⟨some 15, .p (.mov (.tmp 42)), none⟩ .done)))))))))
 (.seq (.reg (.op ⟨some 43, .call 29 [.tmp 4], none⟩
 (.op ⟨some 2, .p (.mov (.tmp 43)), none⟩
 (.op ⟨some 3, .p (.mov (.const (.int .i64 0))), none⟩ .done))))
 (.ret))))))⟩

theorem cN45 : compF Try.prog aN45.cfg.pm aN45.cfg.lz Try.f45 = some aN45 := by kernel_rfl
theorem kN45 : aN45.ok = true := by kernel_rfl

-- slices.ContainsFunc[[]decoupage/api.Item,decoupage/api.Item]
def aN78 : AFun := ⟨⟨9, [], true⟩, [.tmp 4],
 .seq (.reg (.op ⟨some 4, .p (.mov (.const (.bool false))), none⟩ .done))
 (.seq (.reg (.op ⟨some 5, .p (.mov (.tmp 0)), none⟩
 (.op ⟨some 6, .p (.mov (.tmp 1)), none⟩
 (.op ⟨some 7, .call 93 [.tmp 5, .tmp 6], none⟩
 (.op ⟨some 8, .p (.int2 .geq (.tmp 7) (.const (.int .i64 0))), none⟩
 (.op ⟨some 4, .p (.mov (.tmp 8)), none⟩ .done))))))
 (.ret))⟩

theorem cN78 : compF Try.prog aN78.cfg.pm aN78.cfg.lz Try.f78 = some aN78 := by kernel_rfl
theorem kN78 : aN78.ok = true := by kernel_rfl

-- decoupage/plate.Encode$1
def aN79 : AFun := ⟨⟨6, [(1, false, [])], true⟩, [.tmp 2],
 .seq (.reg (.op ⟨some 1, .l (.box 1 none (.tmp 0)), none⟩
 (.op ⟨some 2, .p (.mov (.const (.bool false))), none⟩ .done)))
 (.seq (.reg (.op ⟨some 3, .l (.load 1 1 15 true), none⟩
 (.op ⟨some 4, .call 44 [.tmp 3], none⟩
 (.op ⟨some 5, .p (.un .not (.tmp 4)), none⟩
 (.op ⟨some 2, .p (.mov (.tmp 5)), none⟩ .done)))))
 (.ret))⟩

theorem cN79 : compF Try.prog aN79.cfg.pm aN79.cfg.lz Try.f79 = some aN79 := by kernel_rfl
theorem kN79 : aN79.ok = true := by kernel_rfl

-- slices.IndexFunc[[]decoupage/api.Item,decoupage/api.Item]
def aN93 : AFun := ⟨⟨19, [], true⟩, [.tmp 4],
 .seq (.reg (.op ⟨some 4, .p (.mov (.const (.int .i64 0))), none⟩ .done))
 (.seq (.seq (.reg (.op ⟨some 6, .p (.mov (.tmp 0)), none⟩
 (.op ⟨some 7, .p (.lenS (.tmp 6)), none⟩
 (.op ⟨some 8, .p (.mov (.const (.int .i64 0))), none⟩ .done))))
 (.block 0 (.loop (.seq (.reg (.op ⟨some 9, .p (.int2 .lss (.tmp 8) (.tmp 7)), none⟩ .done))
 (.seq (.cond (.tmp 9) (.skip)
 (.exit 0))
 (.seq (.block 1 (.seq (.reg (.op ⟨some 10, .p (.mov (.tmp 8)), none⟩
 (.op ⟨some 5, .p (.mov (.tmp 10)), none⟩ .done)))
 (.seq (.reg (.op ⟨some 11, .p (.mov (.tmp 1)), none⟩
 (.op ⟨some 12, .p (.mov (.tmp 0)), none⟩
 (.op ⟨some 13, .p (.mov (.tmp 5)), none⟩
 (.op ⟨some 14, .p (.idxS 15 (.tmp 12) (.tmp 13)), none⟩
 (.op ⟨some 15, .h (.load 15 true (.tmp 14)), none⟩
 (.op ⟨some 16, .callv (.tmp 11) [.tmp 15], none⟩ .done)))))))
 (.cond (.tmp 16) (.seq (.reg (.op ⟨some 17, .p (.mov (.tmp 5)), none⟩
 (.op ⟨some 4, .p (.mov (.tmp 17)), none⟩ .done)))
 (.ret))
 (.skip)))))
 (.reg (.op ⟨some 18, .p (.int2 .add (.tmp 8) (.const (.int .i64 1))), none⟩
 (.op ⟨some 8, .p (.mov (.tmp 18)), none⟩ .done)))))))))
 (.seq (.reg (.op ⟨some 4, .p (.mov (.const (.int .i64 (-1)))), none⟩ .done))
 (.ret)))⟩

theorem cN93 : compF Try.prog aN93.cfg.pm aN93.cfg.lz Try.f93 = some aN93 := by kernel_rfl
theorem kN93 : aN93.ok = true := by kernel_rfl

end Go.Proofs.Ytbgnaeagdneikaa
namespace Go.Proofs.Ytbgnaeagdneikaa
open Go Go.Proofs.Ytbgnaeagdneikaa.Abs
set_option maxRecDepth 100000

-- decoupage/plate.Decode
def aN46 : AFun := ⟨⟨53, [(7, true, [24, 25, 30, 33, 36])], true⟩, [.tmp 2, .tmp 3],
 .seq (.reg (.op ⟨some 2, .p (.mov (.const (.slice none 0 0))), none⟩
 (.op ⟨some 3, .p (.mov (.const (.int .i64 0))), none⟩ .done)))
 (.seq (.reg (.op ⟨some 8, .p (.mov (.tmp 0)), none⟩
 (.op ⟨some 9, .call 30 [.tmp 8], none⟩
 (.op ⟨some 4, .p (.mov (.tmp 9)), none⟩ .done))))
 (.seq (.reg (.op ⟨some 10, .p (.mov (.tmp 4)), none⟩
 (.op ⟨some 11, .call 36 [.tmp 10], none⟩
 (.op ⟨some 5, .p (.mov (.tmp 11)), none⟩ .done))))
 (.seq (.reg (.op ⟨some 6, .p (.mov (.const (.slice none 0 0))), none⟩ .done))
 (.seq (.seq (.reg (.op ⟨some 12, .p (.mov (.tmp 5)), none⟩
 (.op ⟨some 13, .p (.mov (.const (.int .u32 0))), none⟩ .done)))
 (.block 0 (.loop (.seq (.reg (.op ⟨some 14, .p (.int2 .lss (.tmp 13) (.tmp 12)), none⟩ .done))
 (.seq (.cond (.tmp 14) (.skip)
 (.exit 0))
 (.seq (.block 1 (.seq (.reg (.op ⟨some 15, .p (.mov (.tmp 4)), none⟩
 (.op ⟨some 16, .call 36 [.tmp 15], none⟩
 (.op ⟨some 17, .p (.conv .i64 (.tmp 16)), none⟩
 (.op ⟨some 18, .p (.mov (.tmp 4)), none⟩
 (.op ⟨some 19, .call 32 [.tmp 18], none⟩
 (.op ⟨some 20, .p (.conv .i64 (.tmp 19)), none⟩
 (.op ⟨some 21, .p (.build [.int .i64 0, .int .i64 0, .int .i64 0, .int .i64 0, .int .i64 0, .int .i64 0, .int .i64 0, .int .i64 0, .int .i64 0, .int .i64 0, .int .i64 0, .int .i64 0, .int .i64 0, .int .i64 0, .int .i64 0] [(0, 1, .tmp 17), (1, 1, .tmp 20)]), none⟩
 (.op ⟨some 7, .l (.new 7 (some [24, 25, 30, 33, 36]) [.int .i64 0, .int .i64 0, .int .i64 0, .int .i64 0, .int .i64 0, .int .i64 0, .int .i64 0, .int .i64 0, .int .i64 0, .int .i64 0, .int .i64 0, .int .i64 0, .int .i64 0, .int .i64 0, .int .i64 0]), none⟩
 (.op ⟨none, .l (.store 7 7 15 (.tmp 21)), none⟩ .done))))))))))
 (.seq (.reg (.op ⟨some 22, .p (.mov (.tmp 4)), none⟩
 (.op ⟨some 23, .call 81 [.tmp 22], none⟩
 (.op ⟨some 24, .l (.addr 7 7 2), none⟩
 (.op ⟨none, .l (.store 24 7 4 (.tmp 23)), none⟩ .done)))))
 (.seq (.seq (.reg (.op ⟨some 25, .l (.addr 7 7 1), none⟩
 (.op ⟨some 26, .l (.load 25 7 1 false), none⟩
 (.op ⟨some 27, .p (.int2 .eql (.tmp 26) (.const (.int .i64 1))), none⟩ .done))))
 (.cond (.tmp 27) (.reg (.op ⟨some 28, .p (.mov (.tmp 4)), none⟩
 (.op ⟨some 29, .call 81 [.tmp 28], none⟩
 (.op ⟨some 30, .l (.addr 7 7 6), none⟩
 (.op ⟨none, .l (.store 30 7 4 (.tmp 29)), none⟩ .done)))))
 (.skip)))
 (.seq (.reg (.op ⟨some 31, .p (.mov (.tmp 4)), none⟩
 (.op ⟨some 32, .call 81 [.tmp 31], none⟩
 (.op ⟨some 33, .l (.addr 7 7 10), none⟩
 (.op ⟨none, .l (.store 33 7 4 (.tmp 32)), none⟩ .done)))))
 (.seq (.reg (.op ⟨some 34, .p (.mov (.tmp 4)), none⟩
 (.op ⟨some 35, .call 31 [.tmp 34], none⟩
 (.op ⟨some 36, .l (.addr 7 7 14), none⟩
 (.op ⟨none, .l (.store 36 7 1 (.tmp 35)), none⟩ .done)))))
 (.seq (.seq (.reg (.op ⟨some 37, .p (.mov (.tmp 4)), none⟩
 (.op ⟨some 38, .call 34 [.tmp 37], none⟩
 (.op ⟨some 39, .p (.mov (.tmp 38)), none⟩
 (.op ⟨some 40, .l (.load 7 7 15 true), some (39, false)⟩
 (.op ⟨some 41, .call 44 [.tmp 40], some (39, false)⟩
 (.op ⟨some 42, .p (.un .not (.tmp 41)), some (39, false)⟩
 (.op ⟨some 43, .p (.pick (.tmp 39) (.const (.bool true)) (.tmp 42)), none⟩ .done))))))))
 (.cond (.tmp 43) (.seq (.reg (.op ⟨some 2, .p (.mov (.const (.slice none 0 0))), none⟩
 (.op ⟨some 3, .p (.mov (.const (.int .i64 2))), none⟩ .done)))
 (.ret))
 (.skip)))
 (.reg (.op ⟨some 44, .p (.mov (.tmp 6)), none⟩
 (.op ⟨some 45, .l (.load 7 7 15 true), none⟩
 (.op ⟨some 46, .h (.buildSlice 15 1 [.int .i64 0, .int .i64 0, .int .i64 0, .int .i64 0, .int .i64 0, .int .i64 0, .int .i64 0, .int .i64 0, .int .i64 0, .int .i64 0, .int .i64 0, .int .i64 0, .int .i64 0, .int .i64 0, .int .i64 0] [(0, 15, .tmp 45)]), none⟩
 (.op ⟨some 47, .h (.append 15 120 (.tmp 44) (.tmp 46)), none⟩
 (.op ⟨some 6, .p (.mov (.tmp 47)), none⟩ .done)))))))))))))
 (.reg (.op ⟨some 48, .p (.int2 .add (.tmp 13) (.const (.int .u32 1))), none⟩
 (.op ⟨some 13, .p (.mov (.tmp 48)), none⟩ .done)))))))))
 (.seq (.seq (.reg (.op ⟨some 49, .p (.mov (.tmp 4)), none⟩
 (.op ⟨some 50, .call 33 [.tmp 49], none⟩
 (.op ⟨some 51, .p (.un .not (.tmp 50)), none⟩ .done))))
 (.cond (.tmp 51) (.seq (.reg (.op ⟨some 2, .p (.mov (.const (.slice none 0 0))), none⟩
 (.op ⟨some 3, .p (.mov (.const (.int .i64 2))), none⟩ .done)))
 (.ret))
 (.skip)))
 (.seq (.reg (.op ⟨some 52, .p (.mov (.tmp 6)), none⟩
 (.op ⟨some 2, .p (.mov (.tmp 52)), none⟩
 (.op ⟨some 3, .p (.mov (.const (.int .i64 0))), none⟩ .done))))
 (.ret)))))))⟩

theorem cN46 : compF Try.prog aN46.cfg.pm aN46.cfg.lz Try.f46 = some aN46 := by kernel_rfl
theorem kN46 : aN46.ok = true := by kernel_rfl

end Go.Proofs.Ytbgnaeagdneikaa
namespace Go.Proofs.Ytbgnaeagdneikaa
open Go Go.Proofs.Ytbgnaeagdneikaa.Abs
set_option maxRecDepth 100000

-- decoupage/decoupagelaw30.awake
def aN42 : AFun := ⟨⟨18, [], true⟩, [.tmp 0],
 .seq (.reg (.op ⟨some 0, .p (.mov (.const (.bool false))), none⟩ .done))
 (.seq (.reg (.op ⟨some 4, .call 45 [.const (.slice none 0 0)], none⟩
 (.op ⟨some 3, .p (.mov (.tmp 4)), none⟩
 (.op ⟨some 5, .p (.extract (.tmp 3) 0), none⟩
 (.op ⟨some 6, .p (.extract (.tmp 3) 1), none⟩
 (.op ⟨some 1, .p (.mov (.tmp 5)), none⟩
 (.op ⟨some 2, .p (.mov (.tmp 6)), none⟩ .done)))))))
 (.seq (.reg (.op ⟨some 7, .p (.mov (.tmp 2)), none⟩
 (.op ⟨some 8, .p (.int2 .eql (.tmp 7) (.const (.int .i64 0))), none⟩
 (.op ⟨some 9, .p (.mov (.tmp 8)), none⟩
 (.op ⟨some 10, .p (.mov (.tmp 1)), some (9, true)⟩
 (.op ⟨some 11, .p (.lenS (.tmp 10)), some (9, true)⟩
 (.op ⟨some 12, .p (.int2 .eql (.tmp 11) (.const (.int .i64 4))), some (9, true)⟩
 (.op ⟨some 13, .p (.pick (.tmp 9) (.tmp 12) (.const (.bool false))), none⟩
 (.op ⟨some 14, .p (.mov (.tmp 13)), none⟩
 (.op ⟨some 15, .p (.build [.int .i64 0, .int .i64 0, .int .i64 0, .int .i64 0, .int .i64 0, .int .i64 0, .int .i64 0, .int .i64 0, .int .i64 0, .int .i64 0, .int .i64 0, .int .i64 0, .int .i64 0, .int .i64 0, .int .i64 0] [(14, 1, .const (.int .i64 1))]), some (14, true)⟩
 (.op ⟨some 16, .call 44 [.tmp 15], some (14, true)⟩
 (.op ⟨some 17, .p (.pick (.tmp 14) (.tmp 16) (.const (.bool false))), none⟩
 (.op ⟨some 0, .p (.mov (.tmp 17)), none⟩ .done)))))))))))))
 (.ret)))⟩

theorem cN42 : compF Try.prog aN42.cfg.pm aN42.cfg.lz Try.f42 = some aN42 := by kernel_rfl
theorem kN42 : aN42.ok = true := by kernel_rfl

-- decoupage/decoupageref30.Bytes
def aN47 : AFun := ⟨⟨55, [(5, true, [20, 25, 31, 35, 39, 44, 48])], true⟩, [.tmp 2],
 .seq (.reg (.op ⟨some 2, .p (.mov (.const (.slice none 0 0))), none⟩ .done))
 (.seq (.reg (.op ⟨some 6, .p (.mov (.tmp 0)), none⟩
 (.op ⟨some 7, .p (.lenS (.tmp 6)), none⟩
 (.op ⟨some 8, .p (.conv .u64 (.tmp 7)), none⟩
 (.op ⟨some 9, .call 49 [.tmp 8, .const (.int .i64 4)], none⟩
 (.op ⟨some 3, .p (.mov (.tmp 9)), none⟩ .done))))))
 (.seq (.seq (.reg (.op ⟨some 10, .p (.mov (.tmp 0)), none⟩
 (.op ⟨some 11, .p (.lenS (.tmp 10)), none⟩
 (.op ⟨some 12, .p (.mov (.const (.int .i64 0))), none⟩ .done))))
 (.block 0 (.loop (.seq (.reg (.op ⟨some 13, .p (.int2 .lss (.tmp 12) (.tmp 11)), none⟩ .done))
 (.seq (.cond (.tmp 13) (.skip)
 (.exit 0))
 (.seq (.block 1 (.seq (.reg (.op ⟨some 14, .p (.mov (.tmp 12)), none⟩
 (.op ⟨some 4, .p (.mov (.tmp 14)), none⟩ .done)))
 (.seq (.reg (.op ⟨some 15, .p (.mov (.tmp 0)), none⟩
 (.op ⟨some 16, .p (.mov (.tmp 4)), none⟩
 (.op ⟨some 17, .p (.idxS 15 (.tmp 15) (.tmp 16)), none⟩
 (.op ⟨some 18, .h (.load 15 true (.tmp 17)), none⟩
 (.op ⟨some 5, .l (.new 5 (some [20, 25, 31, 35, 39, 44, 48]) [.int .i64 0, .int .i64 0, .int .i64 0, .int .i64 0, .int .i64 0, .int .i64 0, .int .i64 0, .int .i64 0, .int .i64 0, .int .i64 0, .int .i64 0, .int .i64 0, .int .i64 0, .int .i64 0, .int .i64 0]), none⟩
 (.op ⟨none, .l (.store 5 5 15 (.tmp 18)), none⟩ .done)))))))
 (.seq (.reg (.op ⟨some 19, .p (.mov (.tmp 3)), none⟩
 (.op ⟨some 20, .l (.addr 5 5 0), none⟩
 (.op ⟨some 21, .l (.load 20 5 1 false), none⟩
 (.op ⟨some 22, .p (.conv .u64 (.tmp 21)), none⟩
 (.op ⟨some 25, .l (.addr 5 5 1), none⟩
 (.op ⟨some 26, .l (.load 25 5 1 false), none⟩
 (.op ⟨some 27, .p (.conv .u8 (.tmp 26)), none⟩
 (.both (.op ⟨some 23, .call 49 [.tmp 22, .const (.int .i64 4)], none⟩
 (.both (.op ⟨some 24, .h (.append 1 1 (.tmp 19) (.tmp 23)), none⟩
 (.op ⟨some 28, .h (.buildSlice 1 1 [.int .u8 0] [(0, 1, .tmp 27)]), none⟩
 (.op ⟨some 29, .h (.append 1 1 (.tmp 24) (.tmp 28)), none⟩
 (.op ⟨some 3, .p (.mov (.tmp 29)), none⟩
 (.done)))))
 (.op ⟨some 28, .h (.buildSlice 1 1 [.int .u8 0] [(0, 1, .tmp 27)]), none⟩
 (.op ⟨some 24, .h (.append 1 1 (.tmp 19) (.tmp 23)), none⟩
 (.op ⟨some 29, .h (.append 1 1 (.tmp 24) (.tmp 28)), none⟩
 (.op ⟨some 3, .p (.mov (.tmp 29)), none⟩
 (.done)))))))
 (.op ⟨some 28, .h (.buildSlice 1 1 [.int .u8 0] [(0, 1, .tmp 27)]), none⟩
 (.op ⟨some 23, .call 49 [.tmp 22, .const (.int .i64 4)], none⟩
 (.op ⟨some 24, .h (.append 1 1 (.tmp 19) (.tmp 23)), none⟩
 (.op ⟨some 29, .h (.append 1 1 (.tmp 24) (.tmp 28)), none⟩
 (.op ⟨some 3, .p (.mov (.tmp 29)), none⟩
 (.done)))))))))))))))
 (.seq (.reg (.op ⟨some 30, .p (.mov (.tmp 3)), none⟩
 (.op ⟨some 31, .l (.addr 5 5 2), none⟩
 (.op ⟨some 32, .l (.load 31 5 4 true), none⟩
 (.op ⟨some 33, .call 82 [.tmp 32], none⟩
 (.op ⟨some 34, .h (.append 1 1 (.tmp 30) (.tmp 33)), none⟩
 (.op ⟨some 3, .p (.mov (.tmp 34)), none⟩ .done)))))))
 (.seq (.seq (.reg (.op ⟨some 35, .l (.addr 5 5 1), none⟩
 (.op ⟨some 36, .l (.load 35 5 1 false), none⟩
 (.op ⟨some 37, .p (.int2 .eql (.tmp 36) (.const (.int .i64 1))), none⟩ .done))))
 (.cond (.tmp 37) (.reg (.op ⟨some 38, .p (.mov (.tmp 3)), none⟩
 (.op ⟨some 39, .l (.addr 5 5 6), none⟩
 (.op ⟨some 40, .l (.load 39 5 4 true), none⟩
 (.op ⟨some 41, .call 82 [.tmp 40], none⟩
 (.op ⟨some 42, .h (.append 1 1 (.tmp 38) (.tmp 41)), none⟩
 (.op ⟨some 3, .p (.mov (.tmp 42)), none⟩ .done)))))))
 (.skip)))
 (.reg (.op ⟨some 43, .p (.mov (.tmp 3)), none⟩
 (.op ⟨some 44, .l (.addr 5 5 10), none⟩
 (.op ⟨some 45, .l (.load 44 5 4 true), none⟩
 (.op ⟨some 48, .l (.addr 5 5 14), none⟩
 (.op ⟨some 49, .l (.load 48 5 1 false), none⟩
 (.op ⟨some 50, .p (.conv .u64 (.tmp 49)), none⟩
 (.op ⟨some 46, .call 82 [.tmp 45], none⟩
 (.op ⟨some 47, .h (.append 1 1 (.tmp 43) (.tmp 46)), none⟩
 (.op ⟨some 51, .call 49 [.tmp 50, .const (.int .i64 8)], none⟩
 (.op ⟨some 52, .h (.append 1 1 (.tmp 47) (.tmp 51)), none⟩
 (.op ⟨some 3, .p (.mov (.tmp 52)), none⟩
 (.done)))))))))))))))))))
 (.reg (.op ⟨some 53, .p (.int2 .add (.tmp 12) (.const (.int .i64 1))), none⟩
 (.op ⟨some 12, .p (.mov (.tmp 53)), none⟩ .done)))))))))
 (.seq (.reg (.op ⟨some 54, .p (.mov (.tmp 3)), none⟩
 (.op ⟨some 2, .p (.mov (.tmp 54)), none⟩ .done)))
 (.ret))))⟩

theorem cN47 : compF Try.prog aN47.cfg.pm aN47.cfg.lz Try.f47 = some aN47 := by kernel_rfl
theorem kN47 : aN47.ok = true := by kernel_rfl

-- decoupage/decoupageref25.Same
def aN48 : AFun := ⟨⟨26, [], true⟩, [.tmp 4],
 .seq (.reg (.op ⟨some 4, .p (.mov (.const (.bool false))), none⟩ .done))
 (.seq (.seq (.reg (.op ⟨some 6, .p (.mov (.tmp 0)), none⟩
 (.op ⟨some 7, .p (.lenS (.tmp 6)), none⟩
 (.op ⟨some 8, .p (.mov (.tmp 1)), none⟩
 (.op ⟨some 9, .p (.lenS (.tmp 8)), none⟩
 (.op ⟨some 10, .p (.int2 .neq (.tmp 7) (.tmp 9)), none⟩ .done))))))
 (.cond (.tmp 10) (.seq (.reg (.op ⟨some 4, .p (.mov (.const (.bool false))), none⟩ .done))
 (.ret))
 (.skip)))
 (.seq (.seq (.reg (.op ⟨some 11, .p (.mov (.tmp 0)), none⟩
 (.op ⟨some 12, .p (.lenS (.tmp 11)), none⟩
 (.op ⟨some 13, .p (.mov (.const (.int .i64 0))), none⟩ .done))))
 (.block 0 (.loop (.seq (.reg (.op ⟨some 14, .p (.int2 .lss (.tmp 13) (.tmp 12)), none⟩ .done))
 (.seq (.cond (.tmp 14) (.skip)
 (.exit 0))
 (.seq (.block 1 (.seq (.reg (.op ⟨some 15, .p (.mov (.tmp 13)), none⟩
 (.op ⟨some 5, .p (.mov (.tmp 15)), none⟩ .done)))
 (.seq (.reg (.op ⟨some 16, .p (.mov (.tmp 0)), none⟩
 (.op ⟨some 17, .p (.mov (.tmp 5)), none⟩
 (.op ⟨some 18, .p (.idxS 15 (.tmp 16) (.tmp 17)), none⟩
 (.op ⟨some 19, .h (.load 15 true (.tmp 18)), none⟩
 (.op ⟨some 20, .p (.mov (.tmp 1)), none⟩
 (.op ⟨some 21, .p (.mov (.tmp 5)), none⟩
 (.op ⟨some 22, .p (.idxS 15 (.tmp 20) (.tmp 21)), none⟩
 (.op ⟨some 23, .h (.load 15 true (.tmp 22)), none⟩
 (.op ⟨some 24, .p (.eqa [true, true, true, true, true, true, true, true, true, true, true, true, true, true, true] true (.tmp 19) (.tmp 23)), none⟩
 (.done)))))))))))
 (.cond (.tmp 24) (.seq (.reg (.op ⟨some 4, .p (.mov (.const (.bool false))), none⟩ .done))
 (.ret))
 (.skip)))))
 (.reg (.op ⟨some 25, .p (.int2 .add (.tmp 13) (.const (.int .i64 1))), none⟩
 (.op ⟨some 13, .p (.mov (.tmp 25)), none⟩ .done)))))))))
 (.seq (.reg (.op ⟨some 4, .p (.mov (.const (.bool true))), none⟩ .done))
 (.ret))))⟩

theorem cN48 : compF Try.prog aN48.cfg.pm aN48.cfg.lz Try.f48 = some aN48 := by kernel_rfl
theorem kN48 : aN48.ok = true := by kernel_rfl

end Go.Proofs.Ytbgnaeagdneikaa
namespace Go.Proofs.Ytbgnaeagdneikaa
open Go Go.Proofs.Ytbgnaeagdneikaa.Abs
set_option maxRecDepth 100000

-- decoupage/decoupagelaw30.PlateEncodes
def aN10 : AFun := ⟨⟨78, [], true⟩, [.tmp 2],
 .seq (.reg (.op ⟨some 2, .p (.mov (.const (.bool false))), none⟩ .done))
 (.seq (.seq (.reg (.op ⟨some 10, .call 42 [], none⟩
 (.op ⟨some 11, .p (.un .not (.tmp 10)), none⟩
 (.op ⟨some 12, .p (.mov (.tmp 11)), none⟩
 (.op ⟨some 13, .p (.mov (.tmp 0)), some (12, false)⟩
 (.op ⟨some 14, .p (.lenS (.tmp 13)), some (12, false)⟩
 (.op ⟨some 15, .p (.int2 .gtr (.tmp 14) (.const (.int .i64 60))), some (12, false)⟩
 (.op ⟨some 16, .p (.pick (.tmp 12) (.const (.bool true)) (.tmp 15)), none⟩ .done))))))))
 (.cond (.tmp 16) (.seq (.reg (.op ⟨some 17, .call 42 [], none⟩
 (.op ⟨some 2, .p (.mov (.tmp 17)), none⟩ .done)))
 (.ret))
 (.skip)))
 (.seq (.reg (.op ⟨some 3, .p (.mov (.const (.bool true))), none⟩ .done))
 (.seq (.seq (.reg (.op ⟨some 18, .p (.mov (.tmp 0)), none⟩
 (.op ⟨some 19, .p (.lenS (.tmp 18)), none⟩
 (.op ⟨some 20, .p (.mov (.const (.int .i64 0))), none⟩ .done))))
 (.block 0 (.loop (.seq (.reg (.op ⟨some 21, .p (.int2 .lss (.tmp 20) (.tmp 19)), none⟩ .done))
 (.seq (.cond (.tmp 21) (.skip)
 (.exit 0))
 (.seq (.block 1 (.seq (.reg (.op ⟨some 22, .p (.mov (.tmp 20)), none⟩
 (.op ⟨some 4, .p (.mov (.tmp 22)), none⟩ .done)))
 (.seq (.reg (.op ⟨some 23, .p (.mov (.tmp 0)), none⟩
 (.op ⟨some 24, .p (.mov (.tmp 4)), none⟩
 (.op ⟨some 25, .p (.idxS 15 (.tmp 23) (.tmp 24)), none⟩
 (.op ⟨some 26, .h (.load 15 true (.tmp 25)), none⟩
 (.op ⟨some 27, .call 43 [.tmp 26], none⟩
 (.op ⟨some 5, .p (.mov (.tmp 27)), none⟩ .done)))))))
 (.seq (.seq (.reg (.op ⟨some 28, .p (.mov (.tmp 0)), none⟩
 (.op ⟨some 29, .p (.mov (.tmp 4)), none⟩
 (.op ⟨some 30, .p (.idxS 15 (.tmp 28) (.tmp 29)), none⟩
 (.op ⟨some 31, .h (.load 15 true (.tmp 30)), none⟩
 (.op ⟨some 32, .call 44 [.tmp 31], none⟩
 (.op ⟨some 33, .p (.mov (.tmp 5)), none⟩
 (.op ⟨some 34, .p (.eqb true (.tmp 32) (.tmp 33)), none⟩ .done))))))))
 (.cond (.tmp 34) (.seq (.reg (.op ⟨some 2, .p (.mov (.const (.bool false))), none⟩ .done))
 (.ret))
 (.skip)))
 (.reg (.op ⟨some 35, .p (.mov (.tmp 3)), none⟩
 (.op ⟨some 36, .p (.mov (.tmp 35)), none⟩
 (.op ⟨some 37, .p (.mov (.tmp 5)), some (36, true)⟩
 (.op ⟨some 38, .p (.pick (.tmp 36) (.tmp 37) (.const (.bool false))), none⟩
 (.op ⟨some 3, .p (.mov (.tmp 38)), none⟩ .done))))))))))
 (.reg (.op ⟨some 39, .p (.int2 .add (.tmp 20) (.const (.int .i64 1))), none⟩
 (.op ⟨some 20, .p (.mov (.tmp 39)), none⟩ .done)))))))))
 (.seq (.reg (.op ⟨some 41, .p (.mov (.tmp 0)), none⟩
 (.op ⟨some 42, .call 45 [.tmp 41], none⟩
 (.op ⟨some 40, .p (.mov (.tmp 42)), none⟩
 (.op ⟨some 43, .p (.extract (.tmp 40) 0), none⟩
 (.op ⟨some 44, .p (.extract (.tmp 40) 1), none⟩
 (.op ⟨some 6, .p (.mov (.tmp 43)), none⟩
 (.op ⟨some 7, .p (.mov (.tmp 44)), none⟩ .done))))))))
 (.seq (.seq (.reg (.op ⟨some 45, .p (.mov (.tmp 3)), none⟩
 (.op ⟨some 46, .p (.un .not (.tmp 45)), none⟩ .done)))
 (.cond (.tmp 46) (.seq (.reg (.op ⟨some 47, .p (.mov (.tmp 7)), none⟩
 (.op ⟨some 48, .p (.int2 .eql (.tmp 47) (.const (.int .i64 1))), none⟩
 (.op ⟨some 49, .p (.mov (.tmp 48)), none⟩
 (.op ⟨some 50, .p (.mov (.tmp 6)), some (49, true)⟩
 (.op ⟨some 51, .p (.lenS (.tmp 50)), some (49, true)⟩
 (.op ⟨some 52, .p (.int2 .eql (.tmp 51) (.const (.int .i64 0))), some (49, true)⟩
 (.op ⟨some 53, .p (.pick (.tmp 49) (.tmp 52) (.const (.bool false))), none⟩
 (.op ⟨some 2, .p (.mov (.tmp 53)), none⟩ .done)))))))))
 (.ret))
 (.skip)))
 (.seq (.reg (.op ⟨some 55, .p (.mov (.tmp 6)), none⟩
 (.op ⟨some 56, .call 46 [.tmp 55], none⟩
 (.op ⟨some 54, .p (.mov (.tmp 56)), none⟩
 (.op ⟨some 57, .p (.extract (.tmp 54) 0), none⟩
 (.op ⟨some 58, .p (.extract (.tmp 54) 1), none⟩
 (.op ⟨some 8, .p (.mov (.tmp 57)), none⟩
 (.op ⟨some 9, .p (.mov (.tmp 58)), none⟩ .done))))))))
 (.seq (.reg (.op ⟨some 59, .p (.mov (.tmp 7)), none⟩
 (.op ⟨some 60, .p (.int2 .eql (.tmp 59) (.const (.int .i64 0))), none⟩
 (.op ⟨some 61, .p (.mov (.tmp 60)), none⟩
 (.op ⟨some 62, .p (.mov (.tmp 6)), some (61, true)⟩
 (.op ⟨some 63, .h (.b2s (.tmp 62)), some (61, true)⟩
 (.op ⟨some 64, .p (.mov (.tmp 0)), some (61, true)⟩
 (.op ⟨some 65, .call 47 [.tmp 64], some (61, true)⟩
 (.chk [⟨63, .b2s (.tmp 62), some (61, true)⟩]
 (.op ⟨some 66, .h (.b2s (.tmp 65)), some (61, true)⟩
 (.op ⟨some 67, .p (.eqs false (.tmp 63) (.tmp 66)), some (61, true)⟩
 (.op ⟨some 68, .p (.pick (.tmp 61) (.tmp 67) (.const (.bool false))), none⟩
 (.op ⟨some 69, .p (.mov (.tmp 68)), none⟩
 (.op ⟨some 70, .p (.mov (.tmp 9)), some (69, true)⟩
 (.op ⟨some 71, .p (.int2 .eql (.tmp 70) (.const (.int .i64 0))), some (69, true)⟩
 (.op ⟨some 72, .p (.pick (.tmp 69) (.tmp 71) (.const (.bool false))), none⟩
 (.op ⟨some 73, .p (.mov (.tmp 72)), none⟩
 (.op ⟨some 74, .p (.mov (.tmp 8)), some (73, true)⟩
 (.op ⟨some 75, .p (.mov (.tmp 0)), some (73, true)⟩
 (.op ⟨some 76, .call 48 [.tmp 74, .tmp 75], some (73, true)⟩
 (.op ⟨some 77, .p (.pick (.tmp 73) (.tmp 76) (.const (.bool false))), none⟩
 (.op ⟨some 2, .p (.mov (.tmp 77)), none⟩
 (.done)))))))))))))))))))))))
 (.ret))))))))⟩

theorem cN10 : compF Try.prog aN10.cfg.pm aN10.cfg.lz Try.f10 = some aN10 := by kernel_rfl
theorem kN10 : aN10.ok = true := by kernel_rfl

-- decoupage/decoupagelaw30.PlateDecodes
def aN11 : AFun := ⟨⟨46, [], true⟩, [.tmp 2],
 .seq (.reg (.op ⟨some 2, .p (.mov (.const (.bool false))), none⟩ .done))
 (.seq (.seq (.reg (.op ⟨some 6, .call 42 [], none⟩
 (.op ⟨some 7, .p (.un .not (.tmp 6)), none⟩
 (.op ⟨some 8, .p (.mov (.tmp 7)), none⟩
 (.op ⟨some 9, .p (.mov (.tmp 0)), some (8, false)⟩
 (.op ⟨some 10, .p (.lenS (.tmp 9)), some (8, false)⟩
 (.op ⟨some 11, .p (.int2 .gtr (.tmp 10) (.const (.int .i64 5000))), some (8, false)⟩
 (.op ⟨some 12, .p (.pick (.tmp 8) (.const (.bool true)) (.tmp 11)), none⟩ .done))))))))
 (.cond (.tmp 12) (.seq (.reg (.op ⟨some 13, .call 42 [], none⟩
 (.op ⟨some 2, .p (.mov (.tmp 13)), none⟩ .done)))
 (.ret))
 (.skip)))
 (.seq (.reg (.op ⟨some 15, .p (.mov (.tmp 0)), none⟩
 (.op ⟨some 16, .call 46 [.tmp 15], none⟩
 (.op ⟨some 14, .p (.mov (.tmp 16)), none⟩
 (.op ⟨some 17, .p (.extract (.tmp 14) 0), none⟩
 (.op ⟨some 18, .p (.extract (.tmp 14) 1), none⟩
 (.op ⟨some 3, .p (.mov (.tmp 17)), none⟩
 (.op ⟨some 4, .p (.mov (.tmp 18)), none⟩ .done))))))))
 (.seq (.seq (.reg (.op ⟨some 19, .p (.mov (.tmp 4)), none⟩
 (.op ⟨some 20, .p (.int2 .neq (.tmp 19) (.const (.int .i64 0))), none⟩ .done)))
 (.cond (.tmp 20) (.seq (.reg (.op ⟨some 21, .p (.mov (.tmp 4)), none⟩
 (.op ⟨some 22, .p (.int2 .eql (.tmp 21) (.const (.int .i64 2))), none⟩
 (.op ⟨some 23, .p (.mov (.tmp 22)), none⟩
 (.op ⟨some 24, .p (.mov (.tmp 3)), some (23, true)⟩
 (.op ⟨some 25, .p (.lenS (.tmp 24)), some (23, true)⟩
 (.op ⟨some 26, .p (.int2 .eql (.tmp 25) (.const (.int .i64 0))), some (23, true)⟩
 (.op ⟨some 27, .p (.pick (.tmp 23) (.tmp 26) (.const (.bool false))), none⟩
 (.op ⟨some 2, .p (.mov (.tmp 27)), none⟩ .done)))))))))
 (.ret))
 (.skip)))
 (.seq (.seq (.reg (.op ⟨some 28, .p (.mov (.tmp 3)), none⟩
 (.op ⟨some 29, .p (.lenS (.tmp 28)), none⟩
 (.op ⟨some 30, .p (.mov (.const (.int .i64 0))), none⟩ .done))))
 (.block 0 (.loop (.seq (.reg (.op ⟨some 31, .p (.int2 .lss (.tmp 30) (.tmp 29)), none⟩ .done))
 (.seq (.cond (.tmp 31) (.skip)
 (.exit 0))
 (.seq (.block 1 (.seq (.reg (.op ⟨some 32, .p (.mov (.tmp 30)), none⟩
 (.op ⟨some 5, .p (.mov (.tmp 32)), none⟩ .done)))
 (.seq (.reg (.op ⟨some 33, .p (.mov (.tmp 3)), none⟩
 (.op ⟨some 34, .p (.mov (.tmp 5)), none⟩
 (.op ⟨some 35, .p (.idxS 15 (.tmp 33) (.tmp 34)), none⟩
 (.op ⟨some 36, .h (.load 15 true (.tmp 35)), none⟩
 (.op ⟨some 37, .call 43 [.tmp 36], none⟩
 (.op ⟨some 38, .p (.un .not (.tmp 37)), none⟩ .done)))))))
 (.cond (.tmp 38) (.seq (.reg (.op ⟨some 2, .p (.mov (.const (.bool false))), none⟩ .done))
 (.ret))
 (.skip)))))
 (.reg (.op ⟨some 39, .p (.int2 .add (.tmp 30) (.const (.int .i64 1))), none⟩
 (.op ⟨some 30, .p (.mov (.tmp 39)), none⟩ .done)))))))))
 (.seq (.reg (.op ⟨some 40, .p (.mov (.tmp 3)), none⟩
 (.op ⟨some 43, .p (.mov (.tmp 0)), none⟩
 (.op ⟨some 44, .h (.b2s (.tmp 43)), none⟩
 (.op ⟨some 41, .call 47 [.tmp 40], none⟩
 (.chk [⟨44, .b2s (.tmp 43), none⟩]
 (.op ⟨some 42, .h (.b2s (.tmp 41)), none⟩
 (.op ⟨some 45, .p (.eqs false (.tmp 42) (.tmp 44)), none⟩
 (.op ⟨some 2, .p (.mov (.tmp 45)), none⟩
 (.done))))))))))
 (.ret))))))⟩

theorem cN11 : compF Try.prog aN11.cfg.pm aN11.cfg.lz Try.f11 = some aN11 := by kernel_rfl
theorem kN11 : aN11.ok = true := by kernel_rfl

-- decoupage/decoupagelaw30.PlateCuts
def aN12 : AFun := ⟨⟨83, [], true⟩, [.tmp 6],
 .seq (.reg (.op ⟨some 6, .p (.mov (.const (.bool false))), none⟩ .done))
 (.seq (.seq (.reg (.op ⟨some 15, .call 42 [], none⟩
 (.op ⟨some 16, .p (.un .not (.tmp 15)), none⟩
 (.op ⟨some 17, .p (.mov (.tmp 16)), none⟩
 (.op ⟨some 18, .p (.mov (.tmp 0)), some (17, false)⟩
 (.op ⟨some 19, .p (.lenS (.tmp 18)), some (17, false)⟩
 (.op ⟨some 20, .p (.int2 .gtr (.tmp 19) (.const (.int .i64 20))), some (17, false)⟩
 (.op ⟨some 21, .p (.pick (.tmp 17) (.const (.bool true)) (.tmp 20)), none⟩ .done))))))))
 (.cond (.tmp 21) (.seq (.reg (.op ⟨some 22, .call 42 [], none⟩
 (.op ⟨some 6, .p (.mov (.tmp 22)), none⟩ .done)))
 (.ret))
 (.skip)))
 (.seq (.seq (.reg (.op ⟨some 23, .p (.mov (.tmp 0)), none⟩
 (.op ⟨some 24, .p (.lenS (.tmp 23)), none⟩
 (.op ⟨some 25, .p (.mov (.const (.int .i64 0))), none⟩ .done))))
 (.block 0 (.loop (.seq (.reg (.op ⟨some 26, .p (.int2 .lss (.tmp 25) (.tmp 24)), none⟩ .done))
 (.seq (.cond (.tmp 26) (.skip)
 (.exit 0))
 (.seq (.block 1 (.seq (.reg (.op ⟨some 27, .p (.mov (.tmp 25)), none⟩
 (.op ⟨some 7, .p (.mov (.tmp 27)), none⟩ .done)))
 (.seq (.reg (.op ⟨some 28, .p (.mov (.tmp 0)), none⟩
 (.op ⟨some 29, .p (.mov (.tmp 7)), none⟩
 (.op ⟨some 30, .p (.idxS 15 (.tmp 28) (.tmp 29)), none⟩
 (.op ⟨some 31, .h (.load 15 true (.tmp 30)), none⟩
 (.op ⟨some 32, .call 43 [.tmp 31], none⟩
 (.op ⟨some 33, .p (.un .not (.tmp 32)), none⟩ .done)))))))
 (.cond (.tmp 33) (.seq (.reg (.op ⟨some 6, .p (.mov (.const (.bool true))), none⟩ .done))
 (.ret))
 (.skip)))))
 (.reg (.op ⟨some 34, .p (.int2 .add (.tmp 25) (.const (.int .i64 1))), none⟩
 (.op ⟨some 25, .p (.mov (.tmp 34)), none⟩ .done)))))))))
 (.seq (.reg (.op ⟨some 35, .p (.mov (.tmp 0)), none⟩
 (.op ⟨some 36, .call 47 [.tmp 35], none⟩
 (.op ⟨some 8, .p (.mov (.tmp 36)), none⟩ .done))))
 (.seq (.reg (.op ⟨some 38, .p (.mov (.tmp 8)), none⟩
 (.op ⟨some 39, .p (.mov (.tmp 1)), none⟩
 (.op ⟨some 40, .p (.conv .i64 (.tmp 39)), none⟩
 (.op ⟨some 41, .p (.mov (.tmp 8)), none⟩
 (.op ⟨some 42, .p (.lenS (.tmp 41)), none⟩
 (.op ⟨some 43, .p (.int2 .rem (.tmp 40) (.tmp 42)), none⟩
 (.op ⟨some 44, .p (.sliceS 1 (.tmp 38) none (some (.tmp 43))), none⟩
 (.op ⟨some 45, .call 46 [.tmp 44], none⟩
 (.op ⟨some 37, .p (.mov (.tmp 45)), none⟩
 (.op ⟨some 46, .p (.extract (.tmp 37) 0), none⟩
 (.op ⟨some 47, .p (.extract (.tmp 37) 1), none⟩
 (.op ⟨some 9, .p (.mov (.tmp 46)), none⟩
 (.op ⟨some 10, .p (.mov (.tmp 47)), none⟩ .done))))))))))))))
 (.seq (.reg (.op ⟨some 49, .h (.buildSlice 1 0 [] []), none⟩
 (.op ⟨some 50, .p (.mov (.tmp 8)), none⟩
 (.op ⟨some 51, .h (.append 1 1 (.tmp 49) (.tmp 50)), none⟩
 (.op ⟨some 52, .p (.mov (.tmp 2)), none⟩
 (.op ⟨some 53, .h (.buildSlice 1 1 [.int .u8 0] [(0, 1, .tmp 52)]), none⟩
 (.op ⟨some 54, .h (.append 1 1 (.tmp 51) (.tmp 53)), none⟩
 (.op ⟨some 55, .call 46 [.tmp 54], none⟩
 (.op ⟨some 48, .p (.mov (.tmp 55)), none⟩
 (.op ⟨some 56, .p (.extract (.tmp 48) 0), none⟩
 (.op ⟨some 57, .p (.extract (.tmp 48) 1), none⟩
 (.op ⟨some 11, .p (.mov (.tmp 56)), none⟩
 (.op ⟨some 12, .p (.mov (.tmp 57)), none⟩ .done)))))))))))))
 (.seq (.reg (.op ⟨some 59, .p (.mov (.tmp 0)), none⟩
 (.op ⟨some 60, .p (.lenS (.tmp 59)), none⟩
 (.op ⟨some 61, .p (.conv .u64 (.tmp 60)), none⟩
 (.op ⟨some 62, .p (.int2 .add (.tmp 61) (.const (.int .u64 1))), none⟩
 (.op ⟨some 63, .p (.mov (.tmp 1)), none⟩
 (.op ⟨some 64, .p (.conv .u64 (.tmp 63)), none⟩
 (.op ⟨some 65, .p (.int2 .add (.tmp 62) (.tmp 64)), none⟩
 (.op ⟨some 67, .p (.mov (.tmp 8)), none⟩
 (.op ⟨some 68, .p (.sliceS 1 (.tmp 67) (some (.const (.int .i64 4))) none), none⟩
 (.op ⟨some 66, .call 49 [.tmp 65, .const (.int .i64 4)], none⟩
 (.op ⟨some 69, .h (.append 1 1 (.tmp 66) (.tmp 68)), none⟩
 (.op ⟨some 70, .call 46 [.tmp 69], none⟩
 (.op ⟨some 58, .p (.mov (.tmp 70)), none⟩
 (.op ⟨some 71, .p (.extract (.tmp 58) 0), none⟩
 (.op ⟨some 72, .p (.extract (.tmp 58) 1), none⟩
 (.op ⟨some 13, .p (.mov (.tmp 71)), none⟩
 (.op ⟨some 14, .p (.mov (.tmp 72)), none⟩
 (.done)))))))))))))))))))
 (.seq (.reg (.op ⟨some 73, .p (.mov (.tmp 10)), none⟩
 (.op ⟨some 74, .p (.int2 .eql (.tmp 73) (.const (.int .i64 2))), none⟩
 (.op ⟨some 75, .p (.mov (.tmp 74)), none⟩
 (.op ⟨some 76, .p (.mov (.tmp 12)), some (75, true)⟩
 (.op ⟨some 77, .p (.int2 .eql (.tmp 76) (.const (.int .i64 2))), some (75, true)⟩
 (.op ⟨some 78, .p (.pick (.tmp 75) (.tmp 77) (.const (.bool false))), none⟩
 (.op ⟨some 79, .p (.mov (.tmp 78)), none⟩
 (.op ⟨some 80, .p (.mov (.tmp 14)), some (79, true)⟩
 (.op ⟨some 81, .p (.int2 .eql (.tmp 80) (.const (.int .i64 2))), some (79, true)⟩
 (.op ⟨some 82, .p (.pick (.tmp 79) (.tmp 81) (.const (.bool false))), none⟩
 (.op ⟨some 6, .p (.mov (.tmp 82)), none⟩ .done))))))))))))
 (.ret))))))))⟩

theorem cN12 : compF Try.prog aN12.cfg.pm aN12.cfg.lz Try.f12 = some aN12 := by kernel_rfl
theorem kN12 : aN12.ok = true := by kernel_rfl

end Go.Proofs.Ytbgnaeagdneikaa
