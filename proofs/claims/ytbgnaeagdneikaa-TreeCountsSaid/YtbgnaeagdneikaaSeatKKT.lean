/- The compiled code of functions of the seat, printed by a program of mine (gen.py), checked by the kernel. -/
import Derived.Test.YtbgnaeagdneikaaCoreAi
import Derived.Test.YtbgnaeagdneikaaProg
import Derived.KernelRfl
namespace Go.Proofs.Ytbgnaeagdneikaa
open Go Go.Proofs.Ytbgnaeagdneikaa.Abs
set_option maxRecDepth 100000

-- decoupage/decoupageref07.Deep
def aN61 : AFun := ⟨⟨16, [], true⟩, [.tmp 4],
 .seq (.reg (.op ⟨some 4, .p (.mov (.const (.int .i64 0))), none⟩ .done))
 (.seq (.reg (.op ⟨some 5, .p (.mov (.const (.int .i64 0))), none⟩ .done))
 (.seq (.block 0 (.loop (.seq (.seq (.reg (.op ⟨some 6, .p (.mov (.tmp 1)), none⟩
 (.op ⟨some 7, .p (.int2 .geq (.tmp 6) (.const (.int .i64 0))), none⟩ .done)))
 (.cond (.tmp 7) (.skip)
 (.exit 0)))
 (.block 1 (.seq (.reg (.op ⟨some 8, .p (.mov (.tmp 5)), none⟩
 (.op ⟨some 9, .p (.int2 .add (.tmp 8) (.const (.int .i64 1))), none⟩
 (.op ⟨some 5, .p (.mov (.tmp 9)), none⟩ .done))))
 (.reg (.op ⟨some 10, .p (.mov (.tmp 0)), none⟩
 (.op ⟨some 11, .p (.mov (.tmp 1)), none⟩
 (.op ⟨some 12, .p (.idxS 49 (.tmp 10) (.tmp 11)), none⟩
 (.op ⟨some 13, .p (.fieldAddr 48 (.tmp 12)), none⟩
 (.op ⟨some 14, .h (.load 1 false (.tmp 13)), none⟩
 (.op ⟨some 1, .p (.mov (.tmp 14)), none⟩ .done))))))))))))
 (.seq (.reg (.op ⟨some 15, .p (.mov (.tmp 5)), none⟩
 (.op ⟨some 4, .p (.mov (.tmp 15)), none⟩ .done)))
 (.ret))))⟩

theorem cN61 : compF Try.prog aN61.cfg.pm aN61.cfg.lz Try.f61 = some aN61 := by kernel_rfl
theorem kN61 : aN61.ok = true := by kernel_rfl

-- decoupage/tree.up
def aN83 : AFun := ⟨⟨27, [], true⟩, [.tmp 4, .tmp 5],
 .seq (.reg (.op ⟨some 4, .p (.mov (.const (.int .i64 0))), none⟩
 (.op ⟨some 5, .p (.mov (.const (.bool false))), none⟩ .done)))
 (.seq (.reg (.op ⟨some 6, .p (.mov (.const (.int .i64 0))), none⟩ .done))
 (.seq (.seq (.reg (.op ⟨some 8, .p (.mov (.tmp 1)), none⟩
 (.op ⟨some 9, .p (.int2 .sub (.tmp 8) (.const (.int .i64 1))), none⟩
 (.op ⟨some 7, .p (.mov (.tmp 9)), none⟩ .done))))
 (.block 0 (.loop (.seq (.seq (.reg (.op ⟨some 10, .p (.mov (.tmp 7)), none⟩
 (.op ⟨some 11, .p (.int2 .geq (.tmp 10) (.const (.int .i64 0))), none⟩ .done)))
 (.cond (.tmp 11) (.skip)
 (.exit 0)))
 (.seq (.block 1 (.seq (.seq (.reg (.op ⟨some 17, .p (.mov (.tmp 7)), none⟩
 (.op ⟨some 18, .p (.mov (.tmp 0)), none⟩
 (.op ⟨some 19, .p (.mov (.tmp 1)), none⟩
 (.op ⟨some 20, .p (.idxS 49 (.tmp 18) (.tmp 19)), none⟩
 (.op ⟨some 21, .p (.fieldAddr 48 (.tmp 20)), none⟩
 (.op ⟨some 22, .h (.load 1 false (.tmp 21)), none⟩
 (.op ⟨some 23, .p (.int2 .eql (.tmp 17) (.tmp 22)), none⟩ .done))))))))
 (.cond (.tmp 23) (.seq (.reg (.op ⟨some 24, .p (.mov (.tmp 6)), none⟩
 (.op ⟨some 4, .p (.mov (.tmp 24)), none⟩
 (.op ⟨some 5, .p (.mov (.const (.bool true))), none⟩ .done))))
 (.ret))
 (.skip)))
 (.reg (.op ⟨some 25, .p (.mov (.tmp 6)), none⟩
 (.op ⟨some 26, .p (.int2 .add (.tmp 25) (.const (.int .i64 1))), none⟩
 (.op ⟨some 6, .p (.mov (.tmp 26)), none⟩ .done))))))
 (.reg (.op ⟨some 12, .p (.mov (.tmp 0)), none⟩
 (.op ⟨some 13, .p (.mov (.tmp 7)), none⟩
 (.op ⟨some 14, .p (.idxS 49 (.tmp 12) (.tmp 13)), none⟩
 (.op ⟨some 15, .p (.fieldAddr 48 (.tmp 14)), none⟩
 (.op ⟨some 16, .h (.load 1 false (.tmp 15)), none⟩
 (.op ⟨some 7, .p (.mov (.tmp 16)), none⟩ .done))))))))))))
 (.seq (.reg (.op ⟨some 4, .p (.mov (.const (.int .i64 0))), none⟩
 (.op ⟨some 5, .p (.mov (.const (.bool false))), none⟩ .done)))
 (.ret))))⟩

theorem cN83 : compF Try.prog aN83.cfg.pm aN83.cfg.lz Try.f83 = some aN83 := by kernel_rfl
theorem kN83 : aN83.ok = true := by kernel_rfl

-- decoupage/decoupageref07.Above
def aN94 : AFun := ⟨⟨17, [], true⟩, [.tmp 6],
 .seq (.reg (.op ⟨some 6, .p (.mov (.const (.bool false))), none⟩ .done))
 (.seq (.block 0 (.loop (.seq (.seq (.reg (.op ⟨some 7, .p (.mov (.tmp 2)), none⟩
 (.op ⟨some 8, .p (.int2 .geq (.tmp 7) (.const (.int .i64 0))), none⟩ .done)))
 (.cond (.tmp 8) (.skip)
 (.exit 0)))
 (.block 1 (.seq (.seq (.reg (.op ⟨some 9, .p (.mov (.tmp 2)), none⟩
 (.op ⟨some 10, .p (.mov (.tmp 1)), none⟩
 (.op ⟨some 11, .p (.int2 .eql (.tmp 9) (.tmp 10)), none⟩ .done))))
 (.cond (.tmp 11) (.seq (.reg (.op ⟨some 6, .p (.mov (.const (.bool true))), none⟩ .done))
 (.ret))
 (.skip)))
 (.reg (.op ⟨some 12, .p (.mov (.tmp 0)), none⟩
 (.op ⟨some 13, .p (.mov (.tmp 2)), none⟩
 (.op ⟨some 14, .p (.idxS 49 (.tmp 12) (.tmp 13)), none⟩
 (.op ⟨some 15, .p (.fieldAddr 48 (.tmp 14)), none⟩
 (.op ⟨some 16, .h (.load 1 false (.tmp 15)), none⟩
 (.op ⟨some 2, .p (.mov (.tmp 16)), none⟩ .done))))))))))))
 (.seq (.reg (.op ⟨some 6, .p (.mov (.const (.bool false))), none⟩ .done))
 (.ret)))⟩

theorem cN94 : compF Try.prog aN94.cfg.pm aN94.cfg.lz Try.f94 = some aN94 := by kernel_rfl
theorem kN94 : aN94.ok = true := by kernel_rfl

-- decoupage/tree.parent
def aN97 : AFun := ⟨⟨21, [], true⟩, [.tmp 6],
 .seq (.reg (.op ⟨some 6, .p (.mov (.const (.int .i64 0))), none⟩ .done))
 (.seq (.block 0 (.loop (.seq (.seq (.reg (.op ⟨some 7, .p (.mov (.tmp 2)), none⟩
 (.op ⟨some 8, .p (.int2 .gtr (.tmp 7) (.const (.int .u32 0))), none⟩
 (.op ⟨some 9, .p (.mov (.tmp 8)), none⟩
 (.op ⟨some 10, .p (.mov (.tmp 1)), some (9, true)⟩
 (.op ⟨some 11, .p (.int2 .geq (.tmp 10) (.const (.int .i64 0))), some (9, true)⟩
 (.op ⟨some 12, .p (.pick (.tmp 9) (.tmp 11) (.const (.bool false))), none⟩ .done)))))))
 (.cond (.tmp 12) (.skip)
 (.exit 0)))
 (.seq (.block 1 (.reg (.op ⟨some 15, .p (.mov (.tmp 0)), none⟩
 (.op ⟨some 16, .p (.mov (.tmp 1)), none⟩
 (.op ⟨some 17, .p (.idxS 49 (.tmp 15) (.tmp 16)), none⟩
 (.op ⟨some 18, .p (.fieldAddr 48 (.tmp 17)), none⟩
 (.op ⟨some 19, .h (.load 1 false (.tmp 18)), none⟩
 (.op ⟨some 1, .p (.mov (.tmp 19)), none⟩ .done))))))))
 (.reg (.op ⟨some 13, .p (.mov (.tmp 2)), none⟩
 (.op ⟨some 14, .p (.int2 .sub (.tmp 13) (.const (.int .u32 1))), none⟩
 (.op ⟨some 2, .p (.mov (.tmp 14)), none⟩ .done))))))))
 (.seq (.reg (.op ⟨some 20, .p (.mov (.tmp 1)), none⟩
 (.op ⟨some 6, .p (.mov (.tmp 20)), none⟩ .done)))
 (.ret)))⟩

theorem cN97 : compF Try.prog aN97.cfg.pm aN97.cfg.lz Try.f97 = some aN97 := by kernel_rfl
theorem kN97 : aN97.ok = true := by kernel_rfl

end Go.Proofs.Ytbgnaeagdneikaa
namespace Go.Proofs.Ytbgnaeagdneikaa
open Go Go.Proofs.Ytbgnaeagdneikaa.Abs
set_option maxRecDepth 100000

-- decoupage/tree.Formed
def aN51 : AFun := ⟨⟨39, [], true⟩, [.tmp 2],
 .seq (.reg (.op ⟨some 2, .p (.mov (.const (.bool false))), none⟩ .done))
 (.seq (.seq (.reg (.op ⟨some 6, .p (.mov (.tmp 0)), none⟩
 (.op ⟨some 7, .p (.lenS (.tmp 6)), none⟩
 (.op ⟨some 8, .p (.int2 .eql (.tmp 7) (.const (.int .i64 0))), none⟩
 (.op ⟨some 9, .p (.mov (.tmp 8)), none⟩
 (.op ⟨some 10, .p (.mov (.tmp 0)), some (9, false)⟩
 (.op ⟨some 11, .p (.idxS 49 (.tmp 10) (.const (.int .i64 0))), some (9, false)⟩
 (.op ⟨some 12, .p (.fieldAddr 48 (.tmp 11)), some (9, false)⟩
 (.op ⟨some 13, .h (.load 1 false (.tmp 12)), some (9, false)⟩
 (.op ⟨some 14, .p (.int2 .neq (.tmp 13) (.const (.int .i64 (-1)))), some (9, false)⟩
 (.op ⟨some 15, .p (.pick (.tmp 9) (.const (.bool true)) (.tmp 14)), none⟩ .done)))))))))))
 (.cond (.tmp 15) (.seq (.reg (.op ⟨some 2, .p (.mov (.const (.bool false))), none⟩ .done))
 (.ret))
 (.skip)))
 (.seq (.seq (.reg (.op ⟨some 16, .p (.mov (.tmp 0)), none⟩
 (.op ⟨some 17, .p (.lenS (.tmp 16)), none⟩
 (.op ⟨some 18, .p (.mov (.const (.int .i64 0))), none⟩ .done))))
 (.block 0 (.loop (.seq (.reg (.op ⟨some 19, .p (.int2 .lss (.tmp 18) (.tmp 17)), none⟩ .done))
 (.seq (.cond (.tmp 19) (.skip)
 (.exit 0))
 (.seq (.block 1 (.seq (.reg (.op ⟨some 20, .p (.mov (.tmp 18)), none⟩
 (.op ⟨some 3, .p (.mov (.tmp 20)), none⟩ .done)))
 (.seq (.seq (.reg (.op ⟨some 21, .p (.mov (.tmp 3)), none⟩
 (.op ⟨some 22, .p (.int2 .gtr (.tmp 21) (.const (.int .i64 0))), none⟩ .done)))
 (.cond (.tmp 22) (.seq (.reg (.op ⟨some 24, .p (.mov (.tmp 0)), none⟩
 (.op ⟨some 25, .p (.mov (.tmp 3)), none⟩
 (.op ⟨some 26, .call 83 [.tmp 24, .tmp 25], none⟩
 (.op ⟨some 23, .p (.mov (.tmp 26)), none⟩
 (.op ⟨some 27, .p (.extract (.tmp 23) 0), none⟩
 (.op ⟨some 28, .p (.extract (.tmp 23) 1), none⟩
 (.op ⟨some 4, .p (.mov (.tmp 27)), none⟩
 (.op ⟨some 5, .p (.mov (.tmp 28)), none⟩ .done)))))))))
 (.seq (.reg (.op ⟨some 29, .p (.mov (.tmp 5)), none⟩
 (.op ⟨some 30, .p (.un .not (.tmp 29)), none⟩ .done)))
 (.cond (.tmp 30) (.seq (.reg (.op ⟨some 2, .p (.mov (.const (.bool false))), none⟩ .done))
 (.ret))
 (.skip))))
 (.skip)))
 (.seq (.reg (.op ⟨some 31, .p (.mov (.tmp 0)), none⟩
 (.op ⟨some 32, .p (.mov (.tmp 3)), none⟩
 (.op ⟨some 33, .p (.idxS 49 (.tmp 31) (.tmp 32)), none⟩
 (.op ⟨some 34, .p (.fieldAddr 0 (.tmp 33)), none⟩
 (.op ⟨some 35, .h (.load 48 true (.tmp 34)), none⟩
 (.op ⟨some 36, .call 20 [.tmp 35], none⟩
 (.op ⟨some 37, .p (.un .not (.tmp 36)), none⟩ .done))))))))
 (.cond (.tmp 37) (.seq (.reg (.op ⟨some 2, .p (.mov (.const (.bool false))), none⟩ .done))
 (.ret))
 (.skip))))))
 (.reg (.op ⟨some 38, .p (.int2 .add (.tmp 18) (.const (.int .i64 1))), none⟩
 (.op ⟨some 18, .p (.mov (.tmp 38)), none⟩ .done)))))))))
 (.seq (.reg (.op ⟨some 2, .p (.mov (.const (.bool true))), none⟩ .done))
 (.ret))))⟩

theorem cN51 : compF Try.prog aN51.cfg.pm aN51.cfg.lz Try.f51 = some aN51 := by kernel_rfl
theorem kN51 : aN51.ok = true := by kernel_rfl

-- decoupage/decoupageref07.Formed
def aN52 : AFun := ⟨⟨20, [], true⟩, [.tmp 2],
 .seq (.reg (.op ⟨some 2, .p (.mov (.const (.bool false))), none⟩ .done))
 (.seq (.seq (.reg (.op ⟨some 4, .p (.mov (.tmp 0)), none⟩
 (.op ⟨some 5, .call 84 [.tmp 4], none⟩
 (.op ⟨some 6, .p (.un .not (.tmp 5)), none⟩ .done))))
 (.cond (.tmp 6) (.seq (.reg (.op ⟨some 2, .p (.mov (.const (.bool false))), none⟩ .done))
 (.ret))
 (.skip)))
 (.seq (.seq (.reg (.op ⟨some 7, .p (.mov (.tmp 0)), none⟩
 (.op ⟨some 8, .p (.lenS (.tmp 7)), none⟩
 (.op ⟨some 9, .p (.mov (.const (.int .i64 0))), none⟩ .done))))
 (.block 0 (.loop (.seq (.reg (.op ⟨some 10, .p (.int2 .lss (.tmp 9) (.tmp 8)), none⟩ .done))
 (.seq (.cond (.tmp 10) (.skip)
 (.exit 0))
 (.seq (.block 1 (.seq (.reg (.op ⟨some 11, .p (.mov (.tmp 9)), none⟩
 (.op ⟨some 3, .p (.mov (.tmp 11)), none⟩ .done)))
 (.seq (.reg (.op ⟨some 12, .p (.mov (.tmp 0)), none⟩
 (.op ⟨some 13, .p (.mov (.tmp 3)), none⟩
 (.op ⟨some 14, .p (.idxS 49 (.tmp 12) (.tmp 13)), none⟩
 (.op ⟨some 15, .p (.fieldAddr 0 (.tmp 14)), none⟩
 (.op ⟨some 16, .h (.load 48 true (.tmp 15)), none⟩
 (.op ⟨some 17, .call 21 [.tmp 16], none⟩
 (.op ⟨some 18, .p (.un .not (.tmp 17)), none⟩ .done))))))))
 (.cond (.tmp 18) (.seq (.reg (.op ⟨some 2, .p (.mov (.const (.bool false))), none⟩ .done))
 (.ret))
 (.skip)))))
 (.reg (.op ⟨some 19, .p (.int2 .add (.tmp 9) (.const (.int .i64 1))), none⟩
 (.op ⟨some 9, .p (.mov (.tmp 19)), none⟩ .done)))))))))
 (.seq (.reg (.op ⟨some 2, .p (.mov (.const (.bool true))), none⟩ .done))
 (.ret))))⟩

theorem cN52 : compF Try.prog aN52.cfg.pm aN52.cfg.lz Try.f52 = some aN52 := by kernel_rfl
theorem kN52 : aN52.ok = true := by kernel_rfl

-- decoupage/decoupageref07.Shaped
def aN84 : AFun := ⟨⟨41, [], true⟩, [.tmp 2],
 .seq (.reg (.op ⟨some 2, .p (.mov (.const (.bool false))), none⟩ .done))
 (.seq (.seq (.reg (.op ⟨some 5, .p (.mov (.tmp 0)), none⟩
 (.op ⟨some 6, .p (.lenS (.tmp 5)), none⟩
 (.op ⟨some 7, .p (.int2 .eql (.tmp 6) (.const (.int .i64 0))), none⟩
 (.op ⟨some 8, .p (.mov (.tmp 7)), none⟩
 (.op ⟨some 9, .p (.mov (.tmp 0)), some (8, false)⟩
 (.op ⟨some 10, .p (.idxS 49 (.tmp 9) (.const (.int .i64 0))), some (8, false)⟩
 (.op ⟨some 11, .p (.fieldAddr 48 (.tmp 10)), some (8, false)⟩
 (.op ⟨some 12, .h (.load 1 false (.tmp 11)), some (8, false)⟩
 (.op ⟨some 13, .p (.int2 .neq (.tmp 12) (.const (.int .i64 (-1)))), some (8, false)⟩
 (.op ⟨some 14, .p (.pick (.tmp 8) (.const (.bool true)) (.tmp 13)), none⟩ .done)))))))))))
 (.cond (.tmp 14) (.seq (.reg (.op ⟨some 2, .p (.mov (.const (.bool false))), none⟩ .done))
 (.ret))
 (.skip)))
 (.seq (.seq (.reg (.op ⟨some 3, .p (.mov (.const (.int .i64 1))), none⟩ .done))
 (.block 0 (.loop (.seq (.seq (.reg (.op ⟨some 15, .p (.mov (.tmp 3)), none⟩
 (.op ⟨some 16, .p (.mov (.tmp 0)), none⟩
 (.op ⟨some 17, .p (.lenS (.tmp 16)), none⟩
 (.op ⟨some 18, .p (.int2 .lss (.tmp 15) (.tmp 17)), none⟩ .done)))))
 (.cond (.tmp 18) (.skip)
 (.exit 0)))
 (.seq (.block 1 (.seq (.reg (.op ⟨some 21, .p (.mov (.tmp 0)), none⟩
 (.op ⟨some 22, .p (.mov (.tmp 3)), none⟩
 (.op ⟨some 23, .p (.idxS 49 (.tmp 21) (.tmp 22)), none⟩
 (.op ⟨some 24, .p (.fieldAddr 48 (.tmp 23)), none⟩
 (.op ⟨some 25, .h (.load 1 false (.tmp 24)), none⟩
 (.op ⟨some 4, .p (.mov (.tmp 25)), none⟩ .done)))))))
 (.seq (.reg (.op ⟨some 26, .p (.mov (.tmp 4)), none⟩
 (.op ⟨some 27, .p (.int2 .lss (.tmp 26) (.const (.int .i64 0))), none⟩
 (.op ⟨some 28, .p (.mov (.tmp 27)), none⟩
 (.op ⟨some 29, .p (.mov (.tmp 4)), some (28, false)⟩
 (.op ⟨some 30, .p (.mov (.tmp 3)), some (28, false)⟩
 (.op ⟨some 31, .p (.int2 .geq (.tmp 29) (.tmp 30)), some (28, false)⟩
 (.op ⟨some 32, .p (.pick (.tmp 28) (.const (.bool true)) (.tmp 31)), none⟩
 (.op ⟨some 33, .p (.mov (.tmp 32)), none⟩
 (.op ⟨some 34, .p (.mov (.tmp 0)), some (33, false)⟩
 (.op ⟨some 35, .p (.mov (.tmp 4)), some (33, false)⟩
 (.op ⟨some 36, .p (.mov (.tmp 3)), some (33, false)⟩
 (.op ⟨some 37, .p (.int2 .sub (.tmp 36) (.const (.int .i64 1))), some (33, false)⟩
 (.op ⟨some 38, .call 94 [.tmp 34, .tmp 35, .tmp 37], some (33, false)⟩
 (.op ⟨some 39, .p (.un .not (.tmp 38)), some (33, false)⟩
 (.op ⟨some 40, .p (.pick (.tmp 33) (.const (.bool true)) (.tmp 39)), none⟩ .done))))))))))))))))
 (.cond (.tmp 40) (.seq (.reg (.op ⟨some 2, .p (.mov (.const (.bool false))), none⟩ .done))
 (.ret))
 (.skip)))))
 (.reg (.op ⟨some 19, .p (.mov (.tmp 3)), none⟩
 (.op ⟨some 20, .p (.int2 .add (.tmp 19) (.const (.int .i64 1))), none⟩
 (.op ⟨some 3, .p (.mov (.tmp 20)), none⟩ .done)))))))))
 (.seq (.reg (.op ⟨some 2, .p (.mov (.const (.bool true))), none⟩ .done))
 (.ret))))⟩

theorem cN84 : compF Try.prog aN84.cfg.pm aN84.cfg.lz Try.f84 = some aN84 := by kernel_rfl
theorem kN84 : aN84.ok = true := by kernel_rfl

end Go.Proofs.Ytbgnaeagdneikaa
namespace Go.Proofs.Ytbgnaeagdneikaa
open Go Go.Proofs.Ytbgnaeagdneikaa.Abs
set_option maxRecDepth 100000

-- decoupage/tree.deepest
def aN85 : AFun := ⟨⟨33, [(5, true, [24])], true⟩, [.tmp 2],
 .seq (.reg (.op ⟨some 2, .p (.mov (.const (.int .i64 0))), none⟩ .done))
 (.seq (.reg (.op ⟨some 6, .p (.mov (.tmp 0)), none⟩
 (.op ⟨some 7, .p (.lenS (.tmp 6)), none⟩
 (.op ⟨some 8, .h (.makeSlice 1 8 [.int .i64 0] (.tmp 7) (.tmp 7)), none⟩
 (.op ⟨some 3, .p (.mov (.tmp 8)), none⟩ .done)))))
 (.seq (.seq (.reg (.op ⟨some 9, .p (.mov (.tmp 0)), none⟩
 (.op ⟨some 10, .p (.lenS (.tmp 9)), none⟩
 (.op ⟨some 11, .p (.mov (.const (.int .i64 0))), none⟩ .done))))
 (.block 0 (.loop (.seq (.reg (.op ⟨some 12, .p (.int2 .lss (.tmp 11) (.tmp 10)), none⟩ .done))
 (.seq (.cond (.tmp 12) (.skip)
 (.exit 0))
 (.seq (.block 1 (.seq (.reg (.op ⟨some 13, .p (.mov (.tmp 11)), none⟩
 (.op ⟨some 14, .p (.idxS 49 (.tmp 9) (.tmp 11)), none⟩
 (.op ⟨some 15, .h (.load 49 true (.tmp 14)), none⟩
 (.op ⟨some 5, .l (.new 5 (some [24]) [.bool false, .int .i64 0, .int .i64 0, .int .i64 0, .int .i64 0, .int .i64 0, .int .i64 0, .int .i64 0, .int .i64 0, .int .i64 0, .int .i64 0, .int .i64 0, .int .i64 0, .int .i64 0, .int .i64 0, .int .i64 0, .int .i64 0, .int .i64 0, .int .i64 0, .int .i64 0, .int .i64 0, .int .i64 0, .int .i64 0, .int .i64 0, .int .i64 0, .int .i64 0, .int .i64 0, .int .i64 0, .int .i64 0, .int .i64 0, .int .i64 0, .int .i64 0, .int .i64 0, .int .i64 0, .int .i64 0, .int .i64 0, .int .i64 0, .int .i64 0, .int .i64 0, .int .i64 0, .int .i64 0, .int .i64 0, .bool false, .bool false, .int .i64 0, .bool false, .int .i64 0, .int .i64 0, .int .i64 0]), none⟩
 (.op ⟨some 4, .p (.mov (.tmp 13)), none⟩
 (.op ⟨none, .l (.store 5 5 49 (.tmp 15)), none⟩ .done)))))))
 (.seq (.reg (.op ⟨some 16, .p (.mov (.tmp 3)), none⟩
 (.op ⟨some 17, .p (.mov (.tmp 4)), none⟩
 (.op ⟨some 18, .p (.idxS 1 (.tmp 16) (.tmp 17)), none⟩
 (.op ⟨none, .h (.store 1 (.tmp 18) (.const (.int .i64 1))), none⟩ .done)))))
 (.seq (.reg (.op ⟨some 19, .p (.mov (.tmp 4)), none⟩
 (.op ⟨some 20, .p (.int2 .gtr (.tmp 19) (.const (.int .i64 0))), none⟩ .done)))
 (.cond (.tmp 20) (.reg (.op ⟨some 21, .p (.mov (.tmp 3)), none⟩
 (.op ⟨some 22, .p (.mov (.tmp 4)), none⟩
 (.op ⟨some 23, .p (.mov (.tmp 3)), none⟩
 (.op ⟨some 24, .l (.addr 5 5 48), none⟩
 (.op ⟨some 25, .l (.load 24 5 1 false), none⟩
 (.op ⟨some 26, .p (.idxS 1 (.tmp 23) (.tmp 25)), none⟩
 (.op ⟨some 27, .h (.load 1 false (.tmp 26)), none⟩
 (.op ⟨some 28, .p (.int2 .add (.tmp 27) (.const (.int .i64 1))), none⟩
 (.op ⟨some 29, .p (.idxS 1 (.tmp 21) (.tmp 22)), none⟩
 (.op ⟨none, .h (.store 1 (.tmp 29) (.tmp 28)), none⟩ .done)))))))))))
 (.skip))))))
 (.reg (.op ⟨some 30, .p (.int2 .add (.tmp 11) (.const (.int .i64 1))), none⟩
 (.op ⟨some 11, .p (.mov (.tmp 30)), none⟩ .done)))))))))
 (.seq (.reg (.op ⟨some 31, .p (.mov (.tmp 3)), none⟩
 (.op ⟨some 32, .call 95 [.tmp 31], none⟩
 (.op ⟨some 2, .p (.mov (.tmp 32)), none⟩ .done))))
 (.ret))))⟩

theorem cN85 : compF Try.prog aN85.cfg.pm aN85.cfg.lz Try.f85 = some aN85 := by kernel_rfl
theorem kN85 : aN85.ok = true := by kernel_rfl

-- slices.Max[[]int,int]
def aN95 : AFun := ⟨⟨25, [], true⟩, [.tmp 2],
 .seq (.reg (.op ⟨some 2, .p (.mov (.const (.int .i64 0))), none⟩ .done))
 (.seq (.seq (.reg (.op ⟨some 5, .p (.mov (.tmp 0)), none⟩
 (.op ⟨some 6, .p (.lenS (.tmp 5)), none⟩
 (.op ⟨some 7, .p (.int2 .lss (.tmp 6) (.const (.int .i64 1))), none⟩ .done))))
 (.cond (.tmp 7) (.reg (.op ⟨some 8, .bad, none⟩
 (.op ⟨none, .bad, none⟩ .done)))
 (.skip)))
 (.seq (.reg (.op ⟨some 9, .p (.mov (.tmp 0)), none⟩
 (.op ⟨some 10, .p (.idxS 1 (.tmp 9) (.const (.int .i64 0))), none⟩
 (.op ⟨some 11, .h (.load 1 false (.tmp 10)), none⟩
 (.op ⟨some 3, .p (.mov (.tmp 11)), none⟩ .done)))))
 (.seq (.seq (.reg (.op ⟨some 4, .p (.mov (.const (.int .i64 1))), none⟩ .done))
 (.block 0 (.loop (.seq (.seq (.reg (.op ⟨some 12, .p (.mov (.tmp 4)), none⟩
 (.op ⟨some 13, .p (.mov (.tmp 0)), none⟩
 (.op ⟨some 14, .p (.lenS (.tmp 13)), none⟩
 (.op ⟨some 15, .p (.int2 .lss (.tmp 12) (.tmp 14)), none⟩ .done)))))
 (.cond (.tmp 15) (.skip)
 (.exit 0)))
 (.seq (.block 1 (.reg (.op ⟨some 18, .p (.mov (.tmp 3)), none⟩
 (.op ⟨some 19, .p (.mov (.tmp 0)), none⟩
 (.op ⟨some 20, .p (.mov (.tmp 4)), none⟩
 (.op ⟨some 21, .p (.idxS 1 (.tmp 19) (.tmp 20)), none⟩
 (.op ⟨some 22, .h (.load 1 false (.tmp 21)), none⟩
 (.op ⟨some 23, .p (.minmax true (.tmp 18) (.tmp 22)), none⟩
 (.op ⟨some 3, .p (.mov (.tmp 23)), none⟩ .done)))))))))
 (.reg (.op ⟨some 16, .p (.mov (.tmp 4)), none⟩
 (.op ⟨some 17, .p (.int2 .add (.tmp 16) (.const (.int .i64 1))), none⟩
 (.op ⟨some 4, .p (.mov (.tmp 17)), none⟩ .done)))))))))
 (.seq (.reg (.op ⟨some 24, .p (.mov (.tmp 3)), none⟩
 (.op ⟨some 2, .p (.mov (.tmp 24)), none⟩ .done)))
 (.ret)))))⟩

theorem cN95 : compF Try.prog aN95.cfg.pm aN95.cfg.lz Try.f95 = some aN95 := by kernel_rfl
theorem kN95 : aN95.ok = true := by kernel_rfl

end Go.Proofs.Ytbgnaeagdneikaa
namespace Go.Proofs.Ytbgnaeagdneikaa
open Go Go.Proofs.Ytbgnaeagdneikaa.Abs
set_option maxRecDepth 100000

-- decoupage/tree.Check
def aN53 : AFun := ⟨⟨18, [], true⟩, [.tmp 2],
 .seq (.reg (.op ⟨some 2, .p (.mov (.const (.int .i64 0))), none⟩ .done))
 (.seq (.seq (.reg (.op ⟨some 3, .p (.mov (.tmp 0)), none⟩
 (.op ⟨some 4, .call 51 [.tmp 3], none⟩
 (.op ⟨some 5, .p (.un .not (.tmp 4)), none⟩ .done))))
 (.cond (.tmp 5) (.seq (.reg (.op ⟨some 2, .p (.mov (.const (.int .i64 2))), none⟩ .done))
 (.ret))
 (.skip)))
 (.seq (.seq (.reg (.op ⟨some 6, .p (.mov (.tmp 0)), none⟩
 (.op ⟨some 7, .p (.lenS (.tmp 6)), none⟩
 (.op ⟨some 8, .p (.int2 .gtr (.tmp 7) (.const (.int .i64 65535))), none⟩
 (.op ⟨some 9, .p (.mov (.tmp 8)), none⟩
 (.op ⟨some 10, .p (.mov (.tmp 0)), some (9, false)⟩
 (.op ⟨some 11, .call 85 [.tmp 10], some (9, false)⟩
 (.op ⟨some 12, .p (.int2 .gtr (.tmp 11) (.const (.int .i64 256))), some (9, false)⟩
 (.op ⟨some 13, .p (.pick (.tmp 9) (.const (.bool true)) (.tmp 12)), none⟩
 (.op ⟨some 14, .p (.mov (.tmp 13)), none⟩
 (.op ⟨some 15, .p (.mov (.tmp 0)), some (14, false)⟩
 (.op ⟨some 16, .call 86 [.tmp 15, .func 87], some (14, false)⟩
 (.op ⟨some 17, .p (.pick (.tmp 14) (.const (.bool true)) (.tmp 16)), none⟩ .done)))))))))))))
 (.cond (.tmp 17) (.seq (.reg (.op ⟨some 2, .p (.mov (.const (.int .i64 3))), none⟩ .done))
 (.ret))
 (.skip)))
 (.seq (.reg (.op ⟨some 2, .p (.mov (.const (.int .i64 0))), none⟩ .done))
 (.ret))))⟩

theorem cN53 : compF Try.prog aN53.cfg.pm aN53.cfg.lz Try.f53 = some aN53 := by kernel_rfl
theorem kN53 : aN53.ok = true := by kernel_rfl

-- decoupage/decoupageref07.Check
def aN54 : AFun := ⟨⟨29, [], true⟩, [.tmp 2],
 .seq (.reg (.op ⟨some 2, .p (.mov (.const (.int .i64 0))), none⟩ .done))
 (.seq (.seq (.reg (.op ⟨some 4, .p (.mov (.tmp 0)), none⟩
 (.op ⟨some 5, .call 52 [.tmp 4], none⟩
 (.op ⟨some 6, .p (.un .not (.tmp 5)), none⟩ .done))))
 (.cond (.tmp 6) (.seq (.reg (.op ⟨some 2, .p (.mov (.const (.int .i64 2))), none⟩ .done))
 (.ret))
 (.skip)))
 (.seq (.seq (.reg (.op ⟨some 7, .p (.mov (.tmp 0)), none⟩
 (.op ⟨some 8, .p (.lenS (.tmp 7)), none⟩
 (.op ⟨some 9, .p (.mov (.const (.int .i64 0))), none⟩ .done))))
 (.block 0 (.loop (.seq (.reg (.op ⟨some 10, .p (.int2 .lss (.tmp 9) (.tmp 8)), none⟩ .done))
 (.seq (.cond (.tmp 10) (.skip)
 (.exit 0))
 (.seq (.block 1 (.seq (.reg (.op ⟨some 11, .p (.mov (.tmp 9)), none⟩
 (.op ⟨some 3, .p (.mov (.tmp 11)), none⟩ .done)))
 (.seq (.reg (.op ⟨some 12, .p (.mov (.tmp 0)), none⟩
 (.op ⟨some 13, .p (.mov (.tmp 3)), none⟩
 (.op ⟨some 14, .p (.idxS 49 (.tmp 12) (.tmp 13)), none⟩
 (.op ⟨some 15, .p (.fieldAddr 0 (.tmp 14)), none⟩
 (.op ⟨some 16, .h (.load 48 true (.tmp 15)), none⟩
 (.op ⟨some 17, .call 23 [.tmp 16], none⟩
 (.op ⟨some 18, .p (.un .not (.tmp 17)), none⟩
 (.op ⟨some 19, .p (.mov (.tmp 18)), none⟩
 (.op ⟨some 20, .p (.mov (.tmp 0)), some (19, false)⟩
 (.op ⟨some 21, .p (.mov (.tmp 3)), some (19, false)⟩
 (.op ⟨some 22, .call 61 [.tmp 20, .tmp 21], some (19, false)⟩
 (.op ⟨some 23, .p (.int2 .gtr (.tmp 22) (.const (.int .i64 256))), some (19, false)⟩
 (.op ⟨some 24, .p (.pick (.tmp 19) (.const (.bool true)) (.tmp 23)), none⟩ .done))))))))))))))
 (.cond (.tmp 24) (.seq (.reg (.op ⟨some 2, .p (.mov (.const (.int .i64 3))), none⟩ .done))
 (.ret))
 (.skip)))))
 (.reg (.op ⟨some 25, .p (.int2 .add (.tmp 9) (.const (.int .i64 1))), none⟩
 (.op ⟨some 9, .p (.mov (.tmp 25)), none⟩ .done)))))))))
 (.seq (.seq (.reg (.op ⟨some 26, .p (.mov (.tmp 0)), none⟩
 (.op ⟨some 27, .p (.lenS (.tmp 26)), none⟩
 (.op ⟨some 28, .p (.int2 .gtr (.tmp 27) (.const (.int .i64 65535))), none⟩ .done))))
 (.cond (.tmp 28) (.seq (.reg (.op ⟨some 2, .p (.mov (.const (.int .i64 3))), none⟩ .done))
 (.ret))
 (.skip)))
 (.seq (.reg (.op ⟨some 2, .p (.mov (.const (.int .i64 0))), none⟩ .done))
 (.ret)))))⟩

theorem cN54 : compF Try.prog aN54.cfg.pm aN54.cfg.lz Try.f54 = some aN54 := by kernel_rfl
theorem kN54 : aN54.ok = true := by kernel_rfl

-- slices.ContainsFunc[[]decoupage/api.Node,decoupage/api.Node]
def aN86 : AFun := ⟨⟨9, [], true⟩, [.tmp 4],
 .seq (.reg (.op ⟨some 4, .p (.mov (.const (.bool false))), none⟩ .done))
 (.seq (.reg (.op ⟨some 5, .p (.mov (.tmp 0)), none⟩
 (.op ⟨some 6, .p (.mov (.tmp 1)), none⟩
 (.op ⟨some 7, .call 96 [.tmp 5, .tmp 6], none⟩
 (.op ⟨some 8, .p (.int2 .geq (.tmp 7) (.const (.int .i64 0))), none⟩
 (.op ⟨some 4, .p (.mov (.tmp 8)), none⟩ .done))))))
 (.ret))⟩

theorem cN86 : compF Try.prog aN86.cfg.pm aN86.cfg.lz Try.f86 = some aN86 := by kernel_rfl
theorem kN86 : aN86.ok = true := by kernel_rfl

-- decoupage/tree.Check$1
def aN87 : AFun := ⟨⟨7, [(1, false, [3])], true⟩, [.tmp 2],
 .seq (.reg (.op ⟨some 1, .l (.box 1 none (.tmp 0)), none⟩
 (.op ⟨some 2, .p (.mov (.const (.bool false))), none⟩ .done)))
 (.seq (.reg (.op ⟨some 3, .l (.addr 1 1 0), none⟩
 (.op ⟨some 4, .l (.load 3 1 48 true), none⟩
 (.op ⟨some 5, .call 22 [.tmp 4], none⟩
 (.op ⟨some 6, .p (.un .not (.tmp 5)), none⟩
 (.op ⟨some 2, .p (.mov (.tmp 6)), none⟩ .done))))))
 (.ret))⟩

theorem cN87 : compF Try.prog aN87.cfg.pm aN87.cfg.lz Try.f87 = some aN87 := by kernel_rfl
theorem kN87 : aN87.ok = true := by kernel_rfl

-- slices.IndexFunc[[]decoupage/api.Node,decoupage/api.Node]
def aN96 : AFun := ⟨⟨19, [], true⟩, [.tmp 4],
 .seq (.reg (.op ⟨some 4, .p (.mov (.const (.int .i64 0))), none⟩ .done))
 (.seq (.seq (.reg (.op ⟨some 6, .p (.mov (.tmp 0)), none⟩
 (.op ⟨some 7, .p (.lenS (.tmp 6)), none⟩
 (.op ⟨some 8, .p (.mov (.const (.int .i64 0))), none⟩ .done))))
 (.block 0 (.loop (.seq (.reg (.op ⟨some 9, .p (.int2 .lss (.tmp 8) (.tmp 7)), none⟩ .done))
 (.seq (.cond (.tmp 9) (.skip)
 (.exit 0))
 (.seq (.block 1 (.seq (.reg (.op ⟨some 10, .p (.mov (.tmp 8)), none⟩
 (.op ⟨some 5, .p (.mov (.tmp 10)), none⟩ .done)))
 (.seq (.reg (.op ⟨some 11, .p (.mov (.tmp 1)), none⟩
 (.op ⟨some 12, .p (.mov (.tmp 0)), none⟩
 (.op ⟨some 13, .p (.mov (.tmp 5)), none⟩
 (.op ⟨some 14, .p (.idxS 49 (.tmp 12) (.tmp 13)), none⟩
 (.op ⟨some 15, .h (.load 49 true (.tmp 14)), none⟩
 (.op ⟨some 16, .callv (.tmp 11) [.tmp 15], none⟩ .done)))))))
 (.cond (.tmp 16) (.seq (.reg (.op ⟨some 17, .p (.mov (.tmp 5)), none⟩
 (.op ⟨some 4, .p (.mov (.tmp 17)), none⟩ .done)))
 (.ret))
 (.skip)))))
 (.reg (.op ⟨some 18, .p (.int2 .add (.tmp 8) (.const (.int .i64 1))), none⟩
 (.op ⟨some 8, .p (.mov (.tmp 18)), none⟩ .done)))))))))
 (.seq (.reg (.op ⟨some 4, .p (.mov (.const (.int .i64 (-1)))), none⟩ .done))
 (.ret)))⟩

theorem cN96 : compF Try.prog aN96.cfg.pm aN96.cfg.lz Try.f96 = some aN96 := by kernel_rfl
theorem kN96 : aN96.ok = true := by kernel_rfl

end Go.Proofs.Ytbgnaeagdneikaa
namespace Go.Proofs.Ytbgnaeagdneikaa
open Go Go.Proofs.Ytbgnaeagdneikaa.Abs
set_option maxRecDepth 100000

-- decoupage/decoupagelaw07.awake
def aN50 : AFun := ⟨⟨16, [], true⟩, [.tmp 0],
 .seq (.reg (.op ⟨some 0, .p (.mov (.const (.bool false))), none⟩ .done))
 (.seq (.reg (.op ⟨some 2, .call 55 [], none⟩
 (.op ⟨some 3, .p (.build [.bool false, .int .i64 0, .int .i64 0, .int .i64 0, .int .i64 0, .int .i64 0, .int .i64 0, .int .i64 0, .int .i64 0, .int .i64 0, .int .i64 0, .int .i64 0, .int .i64 0, .int .i64 0, .int .i64 0, .int .i64 0, .int .i64 0, .int .i64 0, .int .i64 0, .int .i64 0, .int .i64 0, .int .i64 0, .int .i64 0, .int .i64 0, .int .i64 0, .int .i64 0, .int .i64 0, .int .i64 0, .int .i64 0, .int .i64 0, .int .i64 0, .int .i64 0, .int .i64 0, .int .i64 0, .int .i64 0, .int .i64 0, .int .i64 0, .int .i64 0, .int .i64 0, .int .i64 0, .int .i64 0, .int .i64 0, .bool false, .bool false, .int .i64 0, .bool false, .int .i64 0, .int .i64 0, .int .i64 0] [(0, 48, .tmp 2), (48, 1, .const (.int .i64 (-1)))]), none⟩
 (.op ⟨some 4, .h (.buildSlice 49 1 [.bool false, .int .i64 0, .int .i64 0, .int .i64 0, .int .i64 0, .int .i64 0, .int .i64 0, .int .i64 0, .int .i64 0, .int .i64 0, .int .i64 0, .int .i64 0, .int .i64 0, .int .i64 0, .int .i64 0, .int .i64 0, .int .i64 0, .int .i64 0, .int .i64 0, .int .i64 0, .int .i64 0, .int .i64 0, .int .i64 0, .int .i64 0, .int .i64 0, .int .i64 0, .int .i64 0, .int .i64 0, .int .i64 0, .int .i64 0, .int .i64 0, .int .i64 0, .int .i64 0, .int .i64 0, .int .i64 0, .int .i64 0, .int .i64 0, .int .i64 0, .int .i64 0, .int .i64 0, .int .i64 0, .int .i64 0, .bool false, .bool false, .int .i64 0, .bool false, .int .i64 0, .int .i64 0, .int .i64 0] [(0, 49, .tmp 3)]), none⟩
 (.op ⟨some 1, .p (.mov (.tmp 4)), none⟩ .done)))))
 (.seq (.reg (.op ⟨some 5, .p (.mov (.tmp 1)), none⟩
 (.op ⟨some 6, .call 51 [.tmp 5], none⟩
 (.op ⟨some 7, .p (.mov (.tmp 6)), none⟩
 (.op ⟨some 8, .call 53 [.const (.slice none 0 0)], some (7, true)⟩
 (.op ⟨some 9, .p (.int2 .eql (.tmp 8) (.const (.int .i64 2))), some (7, true)⟩
 (.op ⟨some 10, .p (.pick (.tmp 7) (.tmp 9) (.const (.bool false))), none⟩
 (.op ⟨some 11, .p (.mov (.tmp 10)), none⟩
 (.op ⟨some 12, .p (.mov (.tmp 1)), some (11, true)⟩
 (.op ⟨some 13, .p (.mov (.tmp 1)), some (11, true)⟩
 (.op ⟨some 14, .call 63 [.tmp 12, .tmp 13], some (11, true)⟩
 (.op ⟨some 15, .p (.pick (.tmp 11) (.tmp 14) (.const (.bool false))), none⟩
 (.op ⟨some 0, .p (.mov (.tmp 15)), none⟩ .done)))))))))))))
 (.ret)))⟩

theorem cN50 : compF Try.prog aN50.cfg.pm aN50.cfg.lz Try.f50 = some aN50 := by kernel_rfl
theorem kN50 : aN50.ok = true := by kernel_rfl

-- decoupage/decoupageref07.Same
def aN59 : AFun := ⟨⟨26, [], true⟩, [.tmp 4],
 .seq (.reg (.op ⟨some 4, .p (.mov (.const (.bool false))), none⟩ .done))
 (.seq (.seq (.reg (.op ⟨some 6, .p (.mov (.tmp 0)), none⟩
 (.op ⟨some 7, .p (.lenS (.tmp 6)), none⟩
 (.op ⟨some 8, .p (.mov (.tmp 1)), none⟩
 (.op ⟨some 9, .p (.lenS (.tmp 8)), none⟩
 (.op ⟨some 10, .p (.int2 .neq (.tmp 7) (.tmp 9)), none⟩ .done))))))
 (.cond (.tmp 10) (.seq (.reg (.op ⟨some 4, .p (.mov (.const (.bool false))), none⟩ .done))
 (.ret))
 (.skip)))
 (.seq (.seq (.reg (.op ⟨some 11, .p (.mov (.tmp 0)), none⟩
 (.op ⟨some 12, .p (.lenS (.tmp 11)), none⟩
 (.op ⟨some 13, .p (.mov (.const (.int .i64 0))), none⟩ .done))))
 (.block 0 (.loop (.seq (.reg (.op ⟨some 14, .p (.int2 .lss (.tmp 13) (.tmp 12)), none⟩ .done))
 (.seq (.cond (.tmp 14) (.skip)
 (.exit 0))
 (.seq (.block 1 (.seq (.reg (.op ⟨some 15, .p (.mov (.tmp 13)), none⟩
 (.op ⟨some 5, .p (.mov (.tmp 15)), none⟩ .done)))
 (.seq (.reg (.op ⟨some 16, .p (.mov (.tmp 0)), none⟩
 (.op ⟨some 17, .p (.mov (.tmp 5)), none⟩
 (.op ⟨some 18, .p (.idxS 49 (.tmp 16) (.tmp 17)), none⟩
 (.op ⟨some 19, .h (.load 49 true (.tmp 18)), none⟩
 (.op ⟨some 20, .p (.mov (.tmp 1)), none⟩
 (.op ⟨some 21, .p (.mov (.tmp 5)), none⟩
 (.op ⟨some 22, .p (.idxS 49 (.tmp 20) (.tmp 21)), none⟩
 (.op ⟨some 23, .h (.load 49 true (.tmp 22)), none⟩
 (.op ⟨some 24, .p (.eqa [false, true, true, true, true, true, true, true, true, true, true, true, true, true, true, true, true, true, true, true, true, true, true, true, true, true, true, true, true, true, true, true, true, true, true, true, true, true, true, true, true, true, false, false, true, false, true, true, true] true (.tmp 19) (.tmp 23)), none⟩
 (.done)))))))))))
 (.cond (.tmp 24) (.seq (.reg (.op ⟨some 4, .p (.mov (.const (.bool false))), none⟩ .done))
 (.ret))
 (.skip)))))
 (.reg (.op ⟨some 25, .p (.int2 .add (.tmp 13) (.const (.int .i64 1))), none⟩
 (.op ⟨some 13, .p (.mov (.tmp 25)), none⟩ .done)))))))))
 (.seq (.reg (.op ⟨some 4, .p (.mov (.const (.bool true))), none⟩ .done))
 (.ret))))⟩

theorem cN59 : compF Try.prog aN59.cfg.pm aN59.cfg.lz Try.f59 = some aN59 := by kernel_rfl
theorem kN59 : aN59.ok = true := by kernel_rfl

-- decoupage/tree.Same
def aN63 : AFun := ⟨⟨8, [], true⟩, [.tmp 4],
 .seq (.reg (.op ⟨some 4, .p (.mov (.const (.bool false))), none⟩ .done))
 (.seq (.reg (.op ⟨some 5, .p (.mov (.tmp 0)), none⟩
 (.op ⟨some 6, .p (.mov (.tmp 1)), none⟩
 (.op ⟨some 7, .call 90 [.tmp 5, .tmp 6], none⟩
 (.op ⟨some 4, .p (.mov (.tmp 7)), none⟩ .done)))))
 (.ret))⟩

theorem cN63 : compF Try.prog aN63.cfg.pm aN63.cfg.lz Try.f63 = some aN63 := by kernel_rfl
theorem kN63 : aN63.ok = true := by kernel_rfl

-- slices.Equal[[]decoupage/api.Node,decoupage/api.Node]
def aN90 : AFun := ⟨⟨26, [], true⟩, [.tmp 4],
 .seq (.reg (.op ⟨some 4, .p (.mov (.const (.bool false))), none⟩ .done))
 (.seq (.seq (.reg (.op ⟨some 6, .p (.mov (.tmp 0)), none⟩
 (.op ⟨some 7, .p (.lenS (.tmp 6)), none⟩
 (.op ⟨some 8, .p (.mov (.tmp 1)), none⟩
 (.op ⟨some 9, .p (.lenS (.tmp 8)), none⟩
 (.op ⟨some 10, .p (.int2 .neq (.tmp 7) (.tmp 9)), none⟩ .done))))))
 (.cond (.tmp 10) (.seq (.reg (.op ⟨some 4, .p (.mov (.const (.bool false))), none⟩ .done))
 (.ret))
 (.skip)))
 (.seq (.seq (.reg (.op ⟨some 11, .p (.mov (.tmp 0)), none⟩
 (.op ⟨some 12, .p (.lenS (.tmp 11)), none⟩
 (.op ⟨some 13, .p (.mov (.const (.int .i64 0))), none⟩ .done))))
 (.block 0 (.loop (.seq (.reg (.op ⟨some 14, .p (.int2 .lss (.tmp 13) (.tmp 12)), none⟩ .done))
 (.seq (.cond (.tmp 14) (.skip)
 (.exit 0))
 (.seq (.block 1 (.seq (.reg (.op ⟨some 15, .p (.mov (.tmp 13)), none⟩
 (.op ⟨some 5, .p (.mov (.tmp 15)), none⟩ .done)))
 (.seq (.reg (.op ⟨some 16, .p (.mov (.tmp 0)), none⟩
 (.op ⟨some 17, .p (.mov (.tmp 5)), none⟩
 (.op ⟨some 18, .p (.idxS 49 (.tmp 16) (.tmp 17)), none⟩
 (.op ⟨some 19, .h (.load 49 true (.tmp 18)), none⟩
 (.op ⟨some 20, .p (.mov (.tmp 1)), none⟩
 (.op ⟨some 21, .p (.mov (.tmp 5)), none⟩
 (.op ⟨some 22, .p (.idxS 49 (.tmp 20) (.tmp 21)), none⟩
 (.op ⟨some 23, .h (.load 49 true (.tmp 22)), none⟩
 (.op ⟨some 24, .p (.eqa [false, true, true, true, true, true, true, true, true, true, true, true, true, true, true, true, true, true, true, true, true, true, true, true, true, true, true, true, true, true, true, true, true, true, true, true, true, true, true, true, true, true, false, false, true, false, true, true, true] true (.tmp 19) (.tmp 23)), none⟩
 (.done)))))))))))
 (.cond (.tmp 24) (.seq (.reg (.op ⟨some 4, .p (.mov (.const (.bool false))), none⟩ .done))
 (.ret))
 (.skip)))))
 (.reg (.op ⟨some 25, .p (.int2 .add (.tmp 13) (.const (.int .i64 1))), none⟩
 (.op ⟨some 13, .p (.mov (.tmp 25)), none⟩ .done)))))))))
 (.seq (.reg (.op ⟨some 4, .p (.mov (.const (.bool true))), none⟩ .done))
 (.ret))))⟩

theorem cN90 : compF Try.prog aN90.cfg.pm aN90.cfg.lz Try.f90 = some aN90 := by kernel_rfl
theorem kN90 : aN90.ok = true := by kernel_rfl

end Go.Proofs.Ytbgnaeagdneikaa
namespace Go.Proofs.Ytbgnaeagdneikaa
open Go Go.Proofs.Ytbgnaeagdneikaa.Abs
set_option maxRecDepth 100000

-- decoupage/decoupagelaw07.TreeForms
def aN13 : AFun := ⟨⟨23, [], true⟩, [.tmp 2],
 .seq (.reg (.op ⟨some 2, .p (.mov (.const (.bool false))), none⟩ .done))
 (.seq (.seq (.reg (.op ⟨some 3, .call 50 [], none⟩
 (.op ⟨some 4, .p (.un .not (.tmp 3)), none⟩
 (.op ⟨some 5, .p (.mov (.tmp 4)), none⟩
 (.op ⟨some 6, .p (.mov (.tmp 0)), some (5, false)⟩
 (.op ⟨some 7, .p (.lenS (.tmp 6)), some (5, false)⟩
 (.op ⟨some 8, .p (.int2 .gtr (.tmp 7) (.const (.int .i64 300))), some (5, false)⟩
 (.op ⟨some 9, .p (.pick (.tmp 5) (.const (.bool true)) (.tmp 8)), none⟩ .done))))))))
 (.cond (.tmp 9) (.seq (.reg (.op ⟨some 10, .call 50 [], none⟩
 (.op ⟨some 2, .p (.mov (.tmp 10)), none⟩ .done)))
 (.ret))
 (.skip)))
 (.seq (.reg (.op ⟨some 11, .p (.mov (.tmp 0)), none⟩
 (.op ⟨some 12, .call 51 [.tmp 11], none⟩
 (.op ⟨some 13, .p (.mov (.tmp 0)), none⟩
 (.op ⟨some 14, .call 52 [.tmp 13], none⟩
 (.op ⟨some 15, .p (.eqb false (.tmp 12) (.tmp 14)), none⟩
 (.op ⟨some 16, .p (.mov (.tmp 15)), none⟩
 (.op ⟨some 17, .p (.mov (.tmp 0)), some (16, true)⟩
 (.op ⟨some 18, .call 53 [.tmp 17], some (16, true)⟩
 (.op ⟨some 19, .p (.mov (.tmp 0)), some (16, true)⟩
 (.op ⟨some 20, .call 54 [.tmp 19], some (16, true)⟩
 (.op ⟨some 21, .p (.int2 .eql (.tmp 18) (.tmp 20)), some (16, true)⟩
 (.op ⟨some 22, .p (.pick (.tmp 16) (.tmp 21) (.const (.bool false))), none⟩
 (.op ⟨some 2, .p (.mov (.tmp 22)), none⟩ .done))))))))))))))
 (.ret)))⟩

theorem cN13 : compF Try.prog aN13.cfg.pm aN13.cfg.lz Try.f13 = some aN13 := by kernel_rfl
theorem kN13 : aN13.ok = true := by kernel_rfl

-- decoupage/decoupagelaw07.TreeDeep
def aN14 : AFun := ⟨⟨41, [], true⟩, [.tmp 2],
 .seq (.reg (.op ⟨some 2, .p (.mov (.const (.bool false))), none⟩ .done))
 (.seq (.seq (.reg (.op ⟨some 6, .call 50 [], none⟩
 (.op ⟨some 7, .p (.un .not (.tmp 6)), none⟩ .done)))
 (.cond (.tmp 7) (.seq (.reg (.op ⟨some 2, .p (.mov (.const (.bool false))), none⟩ .done))
 (.ret))
 (.skip)))
 (.seq (.reg (.op ⟨some 3, .p (.mov (.const (.slice none 0 0))), none⟩ .done))
 (.seq (.seq (.reg (.op ⟨some 8, .p (.mov (.tmp 0)), none⟩
 (.op ⟨some 9, .p (.int2 .rem (.tmp 8) (.const (.int .u8 12))), none⟩
 (.op ⟨some 10, .p (.conv .i64 (.tmp 9)), none⟩
 (.op ⟨some 11, .p (.int2 .add (.const (.int .i64 250)) (.tmp 10)), none⟩
 (.op ⟨some 12, .p (.mov (.const (.int .i64 0))), none⟩ .done))))))
 (.block 0 (.loop (.seq (.reg (.op ⟨some 13, .p (.int2 .lss (.tmp 12) (.tmp 11)), none⟩ .done))
 (.seq (.cond (.tmp 13) (.skip)
 (.exit 0))
 (.seq (.block 1 (.seq (.reg (.op ⟨some 14, .p (.mov (.tmp 12)), none⟩
 (.op ⟨some 4, .p (.mov (.tmp 14)), none⟩ .done)))
 (.reg (.op ⟨some 15, .p (.mov (.tmp 3)), none⟩
 (.op ⟨some 16, .call 55 [], none⟩
 (.op ⟨some 17, .p (.mov (.tmp 4)), none⟩
 (.op ⟨some 18, .p (.int2 .sub (.tmp 17) (.const (.int .i64 1))), none⟩
 (.op ⟨some 19, .p (.build [.bool false, .int .i64 0, .int .i64 0, .int .i64 0, .int .i64 0, .int .i64 0, .int .i64 0, .int .i64 0, .int .i64 0, .int .i64 0, .int .i64 0, .int .i64 0, .int .i64 0, .int .i64 0, .int .i64 0, .int .i64 0, .int .i64 0, .int .i64 0, .int .i64 0, .int .i64 0, .int .i64 0, .int .i64 0, .int .i64 0, .int .i64 0, .int .i64 0, .int .i64 0, .int .i64 0, .int .i64 0, .int .i64 0, .int .i64 0, .int .i64 0, .int .i64 0, .int .i64 0, .int .i64 0, .int .i64 0, .int .i64 0, .int .i64 0, .int .i64 0, .int .i64 0, .int .i64 0, .int .i64 0, .int .i64 0, .bool false, .bool false, .int .i64 0, .bool false, .int .i64 0, .int .i64 0, .int .i64 0] [(0, 48, .tmp 16), (48, 1, .tmp 18)]), none⟩
 (.op ⟨some 20, .h (.buildSlice 49 1 [.bool false, .int .i64 0, .int .i64 0, .int .i64 0, .int .i64 0, .int .i64 0, .int .i64 0, .int .i64 0, .int .i64 0, .int .i64 0, .int .i64 0, .int .i64 0, .int .i64 0, .int .i64 0, .int .i64 0, .int .i64 0, .int .i64 0, .int .i64 0, .int .i64 0, .int .i64 0, .int .i64 0, .int .i64 0, .int .i64 0, .int .i64 0, .int .i64 0, .int .i64 0, .int .i64 0, .int .i64 0, .int .i64 0, .int .i64 0, .int .i64 0, .int .i64 0, .int .i64 0, .int .i64 0, .int .i64 0, .int .i64 0, .int .i64 0, .int .i64 0, .int .i64 0, .int .i64 0, .int .i64 0, .int .i64 0, .bool false, .bool false, .int .i64 0, .bool false, .int .i64 0, .int .i64 0, .int .i64 0] [(0, 49, .tmp 19)]), none⟩
 (.op ⟨some 21, .h (.append 49 384 (.tmp 15) (.tmp 20)), none⟩
 (.op ⟨some 3, .p (.mov (.tmp 21)), none⟩ .done)))))))))))
 (.reg (.op ⟨some 22, .p (.int2 .add (.tmp 12) (.const (.int .i64 1))), none⟩
 (.op ⟨some 12, .p (.mov (.tmp 22)), none⟩ .done)))))))))
 (.seq (.reg (.op ⟨some 23, .p (.mov (.tmp 3)), none⟩
 (.op ⟨some 24, .call 53 [.tmp 23], none⟩
 (.op ⟨some 5, .p (.mov (.tmp 24)), none⟩ .done))))
 (.seq (.reg (.op ⟨some 25, .p (.mov (.tmp 5)), none⟩
 (.op ⟨some 26, .p (.int2 .eql (.tmp 25) (.const (.int .i64 0))), none⟩
 (.op ⟨some 27, .p (.mov (.tmp 26)), none⟩
 (.op ⟨some 28, .p (.mov (.tmp 3)), some (27, true)⟩
 (.op ⟨some 29, .p (.lenS (.tmp 28)), some (27, true)⟩
 (.op ⟨some 30, .p (.int2 .leq (.tmp 29) (.const (.int .i64 256))), some (27, true)⟩
 (.op ⟨some 31, .p (.pick (.tmp 27) (.tmp 30) (.const (.bool false))), none⟩
 (.op ⟨some 32, .p (.mov (.tmp 31)), none⟩
 (.op ⟨some 33, .p (.mov (.tmp 5)), some (32, false)⟩
 (.op ⟨some 34, .p (.int2 .eql (.tmp 33) (.const (.int .i64 3))), some (32, false)⟩
 (.op ⟨some 35, .p (.mov (.tmp 34)), some (32, false)⟩
 (.op ⟨some 36, .p (.mov (.tmp 3)), some (35, true)⟩
 (.op ⟨some 37, .p (.lenS (.tmp 36)), some (35, true)⟩
 (.op ⟨some 38, .p (.int2 .gtr (.tmp 37) (.const (.int .i64 256))), some (35, true)⟩
 (.op ⟨some 39, .p (.pick (.tmp 35) (.tmp 38) (.const (.bool false))), some (32, false)⟩
 (.op ⟨some 40, .p (.pick (.tmp 32) (.const (.bool true)) (.tmp 39)), none⟩
 (.op ⟨some 2, .p (.mov (.tmp 40)), none⟩ .done))))))))))))))))))
 (.ret))))))⟩

theorem cN14 : compF Try.prog aN14.cfg.pm aN14.cfg.lz Try.f14 = some aN14 := by kernel_rfl
theorem kN14 : aN14.ok = true := by kernel_rfl

end Go.Proofs.Ytbgnaeagdneikaa
namespace Go.Proofs.Ytbgnaeagdneikaa
open Go Go.Proofs.Ytbgnaeagdneikaa.Abs
set_option maxRecDepth 100000

-- decoupage/tree.read
def aN89 : AFun := ⟨⟨41, [], true⟩, [.tmp 2, .tmp 3],
 .seq (.reg (.op ⟨some 2, .p (.mov (.const (.slice none 0 0))), none⟩
 (.op ⟨some 3, .p (.mov (.const (.bool false))), none⟩ .done)))
 (.seq (.reg (.op ⟨some 7, .p (.mov (.tmp 0)), none⟩
 (.op ⟨some 8, .call 36 [.tmp 7], none⟩
 (.op ⟨some 4, .p (.mov (.tmp 8)), none⟩ .done))))
 (.seq (.reg (.op ⟨some 5, .p (.mov (.const (.slice none 0 0))), none⟩ .done))
 (.seq (.seq (.reg (.op ⟨some 9, .p (.mov (.tmp 4)), none⟩
 (.op ⟨some 10, .p (.mov (.const (.int .u32 0))), none⟩ .done)))
 (.block 0 (.loop (.seq (.reg (.op ⟨some 11, .p (.int2 .lss (.tmp 10) (.tmp 9)), none⟩ .done))
 (.seq (.cond (.tmp 11) (.skip)
 (.exit 0))
 (.seq (.block 1 (.seq (.reg (.op ⟨some 6, .p (.mov (.const (.int .i64 (-1)))), none⟩ .done))
 (.seq (.seq (.reg (.op ⟨some 12, .p (.mov (.tmp 5)), none⟩
 (.op ⟨some 13, .p (.lenS (.tmp 12)), none⟩
 (.op ⟨some 14, .p (.int2 .gtr (.tmp 13) (.const (.int .i64 0))), none⟩ .done))))
 (.cond (.tmp 14) (.seq (.reg (.op ⟨some 15, .p (.mov (.tmp 5)), none⟩
 (.op ⟨some 16, .p (.mov (.tmp 5)), none⟩
 (.op ⟨some 17, .p (.lenS (.tmp 16)), none⟩
 (.op ⟨some 18, .p (.int2 .sub (.tmp 17) (.const (.int .i64 1))), none⟩
 (.op ⟨some 19, .p (.mov (.tmp 0)), none⟩
 (.op ⟨some 20, .call 36 [.tmp 19], none⟩
 (.op ⟨some 21, .call 97 [.tmp 15, .tmp 18, .tmp 20], none⟩
 (.op ⟨some 6, .p (.mov (.tmp 21)), none⟩ .done)))))))))
 (.seq (.reg (.op ⟨some 22, .p (.mov (.tmp 6)), none⟩
 (.op ⟨some 23, .p (.int2 .lss (.tmp 22) (.const (.int .i64 0))), none⟩ .done)))
 (.cond (.tmp 23) (.seq (.reg (.op ⟨some 2, .p (.mov (.const (.slice none 0 0))), none⟩
 (.op ⟨some 3, .p (.mov (.const (.bool false))), none⟩ .done)))
 (.ret))
 (.skip))))
 (.skip)))
 (.seq (.reg (.op ⟨some 24, .p (.mov (.tmp 5)), none⟩
 (.op ⟨some 25, .p (.mov (.tmp 0)), none⟩
 (.op ⟨some 26, .call 40 [.tmp 25], none⟩
 (.op ⟨some 27, .p (.mov (.tmp 6)), none⟩
 (.op ⟨some 28, .p (.build [.bool false, .int .i64 0, .int .i64 0, .int .i64 0, .int .i64 0, .int .i64 0, .int .i64 0, .int .i64 0, .int .i64 0, .int .i64 0, .int .i64 0, .int .i64 0, .int .i64 0, .int .i64 0, .int .i64 0, .int .i64 0, .int .i64 0, .int .i64 0, .int .i64 0, .int .i64 0, .int .i64 0, .int .i64 0, .int .i64 0, .int .i64 0, .int .i64 0, .int .i64 0, .int .i64 0, .int .i64 0, .int .i64 0, .int .i64 0, .int .i64 0, .int .i64 0, .int .i64 0, .int .i64 0, .int .i64 0, .int .i64 0, .int .i64 0, .int .i64 0, .int .i64 0, .int .i64 0, .int .i64 0, .int .i64 0, .bool false, .bool false, .int .i64 0, .bool false, .int .i64 0, .int .i64 0, .int .i64 0] [(0, 48, .tmp 26), (48, 1, .tmp 27)]), none⟩
 (.op ⟨some 29, .h (.buildSlice 49 1 [.bool false, .int .i64 0, .int .i64 0, .int .i64 0, .int .i64 0, .int .i64 0, .int .i64 0, .int .i64 0, .int .i64 0, .int .i64 0, .int .i64 0, .int .i64 0, .int .i64 0, .int .i64 0, .int .i64 0, .int .i64 0, .int .i64 0, .int .i64 0, .int .i64 0, .int .i64 0, .int .i64 0, .int .i64 0, .int .i64 0, .int .i64 0, .int .i64 0, .int .i64 0, .int .i64 0, .int .i64 0, .int .i64 0, .int .i64 0, .int .i64 0, .int .i64 0, .int .i64 0, .int .i64 0, .int .i64 0, .int .i64 0, .int .i64 0, .int .i64 0, .int .i64 0, .int .i64 0, .int .i64 0, .int .i64 0, .bool false, .bool false, .int .i64 0, .bool false, .int .i64 0, .int .i64 0, .int .i64 0] [(0, 49, .tmp 28)]), none⟩
 (.op ⟨some 30, .h (.append 49 384 (.tmp 24) (.tmp 29)), none⟩
 (.op ⟨some 5, .p (.mov (.tmp 30)), none⟩ .done)))))))))
 (.seq (.reg (.op ⟨some 31, .p (.mov (.tmp 0)), none⟩
 (.op ⟨some 32, .call 34 [.tmp 31], none⟩ .done)))
 (.cond (.tmp 32) (.seq (.reg (.op ⟨some 2, .p (.mov (.const (.slice none 0 0))), none⟩
 (.op ⟨some 3, .p (.mov (.const (.bool false))), none⟩ .done)))
 (.ret))
 (.skip)))))))
 (.reg (.op ⟨some 33, .p (.int2 .add (.tmp 10) (.const (.int .u32 1))), none⟩
 (.op ⟨some 10, .p (.mov (.tmp 33)), none⟩ .done)))))))))
 (.seq (.reg (.op ⟨some 34, .p (.mov (.tmp 5)), none⟩
 (.op ⟨some 35, .p (.mov (.tmp 0)), none⟩
 (.op ⟨some 36, .call 33 [.tmp 35], none⟩
 (.op ⟨some 37, .p (.mov (.tmp 36)), none⟩
 (.op ⟨some 38, .p (.mov (.tmp 4)), some (37, true)⟩
 (.op ⟨some 39, .p (.int2 .gtr (.tmp 38) (.const (.int .u32 0))), some (37, true)⟩
 (.op ⟨some 40, .p (.pick (.tmp 37) (.tmp 39) (.const (.bool false))), none⟩
 (.op ⟨some 2, .p (.mov (.tmp 34)), none⟩
 (.op ⟨some 3, .p (.mov (.tmp 40)), none⟩ .done))))))))))
 (.ret)))))⟩

theorem cN89 : compF Try.prog aN89.cfg.pm aN89.cfg.lz Try.f89 = some aN89 := by kernel_rfl
theorem kN89 : aN89.ok = true := by kernel_rfl

end Go.Proofs.Ytbgnaeagdneikaa
namespace Go.Proofs.Ytbgnaeagdneikaa
open Go Go.Proofs.Ytbgnaeagdneikaa.Abs
set_option maxRecDepth 100000

-- decoupage/tree.Decode
def aN57 : AFun := ⟨⟨21, [], true⟩, [.tmp 2, .tmp 3],
 .seq (.reg (.op ⟨some 2, .p (.mov (.const (.slice none 0 0))), none⟩
 (.op ⟨some 3, .p (.mov (.const (.int .i64 0))), none⟩ .done)))
 (.seq (.reg (.op ⟨some 8, .p (.mov (.tmp 0)), none⟩
 (.op ⟨some 9, .call 30 [.tmp 8], none⟩
 (.op ⟨some 10, .call 89 [.tmp 9], none⟩
 (.op ⟨some 7, .p (.mov (.tmp 10)), none⟩
 (.op ⟨some 11, .p (.extract (.tmp 7) 0), none⟩
 (.op ⟨some 12, .p (.extract (.tmp 7) 1), none⟩
 (.op ⟨some 4, .p (.mov (.tmp 11)), none⟩
 (.op ⟨some 5, .p (.mov (.tmp 12)), none⟩ .done)))))))))
 (.seq (.seq (.reg (.op ⟨some 13, .p (.mov (.tmp 5)), none⟩
 (.op ⟨some 14, .p (.un .not (.tmp 13)), none⟩ .done)))
 (.cond (.tmp 14) (.seq (.reg (.op ⟨some 2, .p (.mov (.const (.slice none 0 0))), none⟩
 (.op ⟨some 3, .p (.mov (.const (.int .i64 2))), none⟩ .done)))
 (.ret))
 (.skip)))
 (.seq (.seq (.reg (.op ⟨some 15, .p (.mov (.tmp 4)), none⟩
 (.op ⟨some 16, .call 53 [.tmp 15], none⟩
 (.op ⟨some 6, .p (.mov (.tmp 16)), none⟩ .done))))
 (.seq (.reg (.op ⟨some 17, .p (.mov (.tmp 6)), none⟩
 (.op ⟨some 18, .p (.int2 .neq (.tmp 17) (.const (.int .i64 0))), none⟩ .done)))
 (.cond (.tmp 18) (.seq (.reg (.op ⟨some 19, .p (.mov (.tmp 6)), none⟩
 (.op ⟨some 2, .p (.mov (.const (.slice none 0 0))), none⟩
 (.op ⟨some 3, .p (.mov (.tmp 19)), none⟩ .done))))
 (.ret))
 (.skip))))
 (.seq (.reg (.op ⟨some 20, .p (.mov (.tmp 4)), none⟩
 (.op ⟨some 2, .p (.mov (.tmp 20)), none⟩
 (.op ⟨some 3, .p (.mov (.const (.int .i64 0))), none⟩ .done))))
 (.ret)))))⟩

theorem cN57 : compF Try.prog aN57.cfg.pm aN57.cfg.lz Try.f57 = some aN57 := by kernel_rfl
theorem kN57 : aN57.ok = true := by kernel_rfl

end Go.Proofs.Ytbgnaeagdneikaa
namespace Go.Proofs.Ytbgnaeagdneikaa
open Go Go.Proofs.Ytbgnaeagdneikaa.Abs
set_option maxRecDepth 100000

-- decoupage/decoupageref07.From
def aN58 : AFun := ⟨⟨75, [(5, false, [54, 62, 66]), (10, true, [53])], true⟩, [.tmp 2, .tmp 3],
 .seq (.reg (.op ⟨some 2, .p (.mov (.const (.slice none 0 0))), none⟩
 (.op ⟨some 3, .p (.mov (.const (.bool false))), none⟩ .done)))
 (.seq (.reg (.op ⟨some 12, .p (.mov (.tmp 0)), none⟩
 (.op ⟨some 13, .p (.build [.slice none 0 0, .bool false] [(0, 1, .tmp 12)]), none⟩
 (.op ⟨some 14, .call 35 [.tmp 13, .const (.int .i64 4)], none⟩
 (.op ⟨some 11, .p (.mov (.tmp 14)), none⟩
 (.op ⟨some 15, .p (.extract (.tmp 11) 0), none⟩
 (.op ⟨some 16, .p (.extract (.tmp 11) 1), none⟩
 (.op ⟨some 5, .l (.new 5 none [.slice none 0 0, .bool false]), none⟩
 (.op ⟨some 4, .p (.mov (.tmp 15)), none⟩
 (.op ⟨none, .l (.store 5 5 2 (.tmp 16)), none⟩ .done))))))))))
 (.seq (.reg (.op ⟨some 6, .p (.mov (.const (.slice none 0 0))), none⟩ .done))
 (.seq (.seq (.reg (.op ⟨some 17, .p (.mov (.tmp 4)), none⟩
 (.op ⟨some 18, .p (.mov (.const (.int .u64 0))), none⟩ .done)))
 (.block 0 (.loop (.seq (.reg (.op ⟨some 19, .p (.int2 .lss (.tmp 18) (.tmp 17)), none⟩ .done))
 (.seq (.cond (.tmp 19) (.skip)
 (.exit 0))
 (.seq (.block 1 (.seq (.reg (.op ⟨some 20, .p (.mov (.tmp 18)), none⟩
 (.op ⟨some 7, .p (.mov (.tmp 20)), none⟩ .done)))
 (.seq (.reg (.op ⟨some 8, .p (.mov (.const (.int .i64 (-1)))), none⟩ .done))
 (.seq (.seq (.reg (.op ⟨some 21, .p (.mov (.tmp 7)), none⟩
 (.op ⟨some 22, .p (.int2 .gtr (.tmp 21) (.const (.int .u64 0))), none⟩ .done)))
 (.cond (.tmp 22) (.seq (.reg (.op ⟨some 9, .p (.mov (.const (.int .u64 0))), none⟩ .done))
 (.seq (.reg (.op ⟨some 24, .l (.load 5 5 2 true), none⟩
 (.op ⟨some 25, .call 35 [.tmp 24, .const (.int .i64 4)], none⟩
 (.op ⟨some 23, .p (.mov (.tmp 25)), none⟩
 (.op ⟨some 26, .p (.extract (.tmp 23) 0), none⟩
 (.op ⟨some 27, .p (.extract (.tmp 23) 1), none⟩
 (.op ⟨some 9, .p (.mov (.tmp 26)), none⟩
 (.op ⟨none, .l (.store 5 5 2 (.tmp 27)), none⟩ .done))))))))
 (.seq (.reg (.op ⟨some 28, .p (.mov (.tmp 7)), none⟩
 (.op ⟨some 29, .p (.conv .i64 (.tmp 28)), none⟩
 (.op ⟨some 30, .p (.int2 .sub (.tmp 29) (.const (.int .i64 1))), none⟩
 (.op ⟨some 8, .p (.mov (.tmp 30)), none⟩ .done)))))
 (.seq (.block 2 (.loop (.seq (.seq (.reg (.op ⟨some 31, .p (.mov (.tmp 9)), none⟩
 (.op ⟨some 32, .p (.int2 .gtr (.tmp 31) (.const (.int .u64 0))), none⟩
 (.op ⟨some 33, .p (.mov (.tmp 32)), none⟩
 (.op ⟨some 34, .p (.mov (.tmp 8)), some (33, true)⟩
 (.op ⟨some 35, .p (.int2 .geq (.tmp 34) (.const (.int .i64 0))), some (33, true)⟩
 (.op ⟨some 36, .p (.pick (.tmp 33) (.tmp 35) (.const (.bool false))), none⟩ .done)))))))
 (.cond (.tmp 36) (.skip)
 (.exit 2)))
 (.block 3 (.seq (.reg (.op ⟨some 37, .p (.mov (.tmp 6)), none⟩
 (.op ⟨some 38, .p (.mov (.tmp 8)), none⟩
 (.op ⟨some 39, .p (.idxS 49 (.tmp 37) (.tmp 38)), none⟩
 (.op ⟨some 40, .p (.fieldAddr 48 (.tmp 39)), none⟩
 (.op ⟨some 41, .h (.load 1 false (.tmp 40)), none⟩
 (.op ⟨some 8, .p (.mov (.tmp 41)), none⟩ .done)))))))
 (.reg (.op ⟨some 42, .p (.mov (.tmp 9)), none⟩
 (.op ⟨some 43, .p (.int2 .sub (.tmp 42) (.const (.int .u64 1))), none⟩
 (.op ⟨some 9, .p (.mov (.tmp 43)), none⟩ .done)))))))))
 (.seq (.reg (.op ⟨some 44, .p (.mov (.tmp 8)), none⟩
 (.op ⟨some 45, .p (.int2 .lss (.tmp 44) (.const (.int .i64 0))), none⟩ .done)))
 (.cond (.tmp 45) (.seq (.reg (.op ⟨some 2, .p (.mov (.const (.slice none 0 0))), none⟩
 (.op ⟨some 3, .p (.mov (.const (.bool false))), none⟩ .done)))
 (.ret))
 (.skip)))))))
 (.skip)))
 (.seq (.reg (.op ⟨some 46, .p (.mov (.tmp 8)), none⟩
 (.op ⟨some 47, .p (.build [.bool false, .int .i64 0, .int .i64 0, .int .i64 0, .int .i64 0, .int .i64 0, .int .i64 0, .int .i64 0, .int .i64 0, .int .i64 0, .int .i64 0, .int .i64 0, .int .i64 0, .int .i64 0, .int .i64 0, .int .i64 0, .int .i64 0, .int .i64 0, .int .i64 0, .int .i64 0, .int .i64 0, .int .i64 0, .int .i64 0, .int .i64 0, .int .i64 0, .int .i64 0, .int .i64 0, .int .i64 0, .int .i64 0, .int .i64 0, .int .i64 0, .int .i64 0, .int .i64 0, .int .i64 0, .int .i64 0, .int .i64 0, .int .i64 0, .int .i64 0, .int .i64 0, .int .i64 0, .int .i64 0, .int .i64 0, .bool false, .bool false, .int .i64 0, .bool false, .int .i64 0, .int .i64 0, .int .i64 0] [(48, 1, .tmp 46)]), none⟩
 (.op ⟨some 10, .l (.new 10 (some [53]) [.bool false, .int .i64 0, .int .i64 0, .int .i64 0, .int .i64 0, .int .i64 0, .int .i64 0, .int .i64 0, .int .i64 0, .int .i64 0, .int .i64 0, .int .i64 0, .int .i64 0, .int .i64 0, .int .i64 0, .int .i64 0, .int .i64 0, .int .i64 0, .int .i64 0, .int .i64 0, .int .i64 0, .int .i64 0, .int .i64 0, .int .i64 0, .int .i64 0, .int .i64 0, .int .i64 0, .int .i64 0, .int .i64 0, .int .i64 0, .int .i64 0, .int .i64 0, .int .i64 0, .int .i64 0, .int .i64 0, .int .i64 0, .int .i64 0, .int .i64 0, .int .i64 0, .int .i64 0, .int .i64 0, .int .i64 0, .bool false, .bool false, .int .i64 0, .bool false, .int .i64 0, .int .i64 0, .int .i64 0]), none⟩
 (.op ⟨none, .l (.store 10 10 49 (.tmp 47)), none⟩ .done)))))
 (.seq (.reg (.op ⟨some 49, .l (.load 5 5 2 true), none⟩
 (.op ⟨some 50, .call 41 [.tmp 49], none⟩
 (.op ⟨some 48, .p (.mov (.tmp 50)), none⟩
 (.op ⟨some 51, .p (.extract (.tmp 48) 0), none⟩
 (.op ⟨some 52, .p (.extract (.tmp 48) 1), none⟩
 (.op ⟨some 53, .l (.addr 10 10 0), none⟩
 (.op ⟨none, .l (.store 53 10 48 (.tmp 51)), none⟩
 (.op ⟨none, .l (.store 5 5 2 (.tmp 52)), none⟩ .done)))))))))
 (.seq (.seq (.reg (.op ⟨some 54, .l (.addr 5 5 1), none⟩
 (.op ⟨some 55, .l (.load 54 5 1 false), none⟩ .done)))
 (.cond (.tmp 55) (.seq (.reg (.op ⟨some 2, .p (.mov (.const (.slice none 0 0))), none⟩
 (.op ⟨some 3, .p (.mov (.const (.bool false))), none⟩ .done)))
 (.ret))
 (.skip)))
 (.reg (.op ⟨some 56, .p (.mov (.tmp 6)), none⟩
 (.op ⟨some 57, .l (.load 10 10 49 true), none⟩
 (.op ⟨some 58, .h (.buildSlice 49 1 [.bool false, .int .i64 0, .int .i64 0, .int .i64 0, .int .i64 0, .int .i64 0, .int .i64 0, .int .i64 0, .int .i64 0, .int .i64 0, .int .i64 0, .int .i64 0, .int .i64 0, .int .i64 0, .int .i64 0, .int .i64 0, .int .i64 0, .int .i64 0, .int .i64 0, .int .i64 0, .int .i64 0, .int .i64 0, .int .i64 0, .int .i64 0, .int .i64 0, .int .i64 0, .int .i64 0, .int .i64 0, .int .i64 0, .int .i64 0, .int .i64 0, .int .i64 0, .int .i64 0, .int .i64 0, .int .i64 0, .int .i64 0, .int .i64 0, .int .i64 0, .int .i64 0, .int .i64 0, .int .i64 0, .int .i64 0, .bool false, .bool false, .int .i64 0, .bool false, .int .i64 0, .int .i64 0, .int .i64 0] [(0, 49, .tmp 57)]), none⟩
 (.op ⟨some 59, .h (.append 49 384 (.tmp 56) (.tmp 58)), none⟩
 (.op ⟨some 6, .p (.mov (.tmp 59)), none⟩ .done)))))))))))))
 (.reg (.op ⟨some 60, .p (.int2 .add (.tmp 18) (.const (.int .u64 1))), none⟩
 (.op ⟨some 18, .p (.mov (.tmp 60)), none⟩ .done)))))))))
 (.seq (.reg (.op ⟨some 61, .p (.mov (.tmp 6)), none⟩
 (.op ⟨some 62, .l (.addr 5 5 1), none⟩
 (.op ⟨some 63, .l (.load 62 5 1 false), none⟩
 (.op ⟨some 64, .p (.un .not (.tmp 63)), none⟩
 (.op ⟨some 65, .p (.mov (.tmp 64)), none⟩
 (.op ⟨some 66, .l (.addr 5 5 0), some (65, true)⟩
 (.op ⟨some 67, .l (.load 66 5 1 false), some (65, true)⟩
 (.op ⟨some 68, .p (.lenS (.tmp 67)), some (65, true)⟩
 (.op ⟨some 69, .p (.int2 .eql (.tmp 68) (.const (.int .i64 0))), some (65, true)⟩
 (.op ⟨some 70, .p (.pick (.tmp 65) (.tmp 69) (.const (.bool false))), none⟩
 (.op ⟨some 71, .p (.mov (.tmp 70)), none⟩
 (.op ⟨some 72, .p (.mov (.tmp 4)), some (71, true)⟩
 (.op ⟨some 73, .p (.int2 .gtr (.tmp 72) (.const (.int .u64 0))), some (71, true)⟩
 (.op ⟨some 74, .p (.pick (.tmp 71) (.tmp 73) (.const (.bool false))), none⟩
 (.op ⟨some 2, .p (.mov (.tmp 61)), none⟩
 (.op ⟨some 3, .p (.mov (.tmp 74)), none⟩ .done)))))))))))))))))
 (.ret)))))⟩

theorem cN58 : compF Try.prog aN58.cfg.pm aN58.cfg.lz Try.f58 = some aN58 := by kernel_rfl
theorem kN58 : aN58.ok = true := by kernel_rfl

end Go.Proofs.Ytbgnaeagdneikaa
namespace Go.Proofs.Ytbgnaeagdneikaa
open Go Go.Proofs.Ytbgnaeagdneikaa.Abs
set_option maxRecDepth 100000

-- decoupage/decoupagelaw07.TreeDecodes
def aN16 : AFun := ⟨⟨48, [], true⟩, [.tmp 2],
 .seq (.reg (.op ⟨some 2, .p (.mov (.const (.bool false))), none⟩ .done))
 (.seq (.seq (.reg (.op ⟨some 8, .call 50 [], none⟩
 (.op ⟨some 9, .p (.un .not (.tmp 8)), none⟩
 (.op ⟨some 10, .p (.mov (.tmp 9)), none⟩
 (.op ⟨some 11, .p (.mov (.tmp 0)), some (10, false)⟩
 (.op ⟨some 12, .p (.lenS (.tmp 11)), some (10, false)⟩
 (.op ⟨some 13, .p (.int2 .gtr (.tmp 12) (.const (.int .i64 20000))), some (10, false)⟩
 (.op ⟨some 14, .p (.pick (.tmp 10) (.const (.bool true)) (.tmp 13)), none⟩ .done))))))))
 (.cond (.tmp 14) (.seq (.reg (.op ⟨some 15, .call 50 [], none⟩
 (.op ⟨some 2, .p (.mov (.tmp 15)), none⟩ .done)))
 (.ret))
 (.skip)))
 (.seq (.reg (.op ⟨some 17, .p (.mov (.tmp 0)), none⟩
 (.op ⟨some 18, .call 57 [.tmp 17], none⟩
 (.op ⟨some 16, .p (.mov (.tmp 18)), none⟩
 (.op ⟨some 19, .p (.extract (.tmp 16) 0), none⟩
 (.op ⟨some 20, .p (.extract (.tmp 16) 1), none⟩
 (.op ⟨some 3, .p (.mov (.tmp 19)), none⟩
 (.op ⟨some 4, .p (.mov (.tmp 20)), none⟩ .done))))))))
 (.seq (.reg (.op ⟨some 22, .p (.mov (.tmp 0)), none⟩
 (.op ⟨some 23, .call 58 [.tmp 22], none⟩
 (.op ⟨some 21, .p (.mov (.tmp 23)), none⟩
 (.op ⟨some 24, .p (.extract (.tmp 21) 0), none⟩
 (.op ⟨some 25, .p (.extract (.tmp 21) 1), none⟩
 (.op ⟨some 5, .p (.mov (.tmp 24)), none⟩
 (.op ⟨some 6, .p (.mov (.tmp 25)), none⟩ .done))))))))
 (.seq (.reg (.op ⟨some 7, .p (.mov (.const (.int .i64 2))), none⟩ .done))
 (.seq (.seq (.reg (.op ⟨some 26, .p (.mov (.tmp 6)), none⟩ .done))
 (.cond (.tmp 26) (.reg (.op ⟨some 27, .p (.mov (.tmp 5)), none⟩
 (.op ⟨some 28, .call 54 [.tmp 27], none⟩
 (.op ⟨some 7, .p (.mov (.tmp 28)), none⟩ .done))))
 (.skip)))
 (.seq (.seq (.reg (.op ⟨some 29, .p (.mov (.tmp 4)), none⟩
 (.op ⟨some 30, .p (.mov (.tmp 7)), none⟩
 (.op ⟨some 31, .p (.int2 .neq (.tmp 29) (.tmp 30)), none⟩ .done))))
 (.cond (.tmp 31) (.seq (.reg (.op ⟨some 2, .p (.mov (.const (.bool false))), none⟩ .done))
 (.ret))
 (.skip)))
 (.seq (.reg (.op ⟨some 32, .p (.mov (.tmp 4)), none⟩
 (.op ⟨some 33, .p (.int2 .neq (.tmp 32) (.const (.int .i64 0))), none⟩
 (.op ⟨some 34, .p (.mov (.tmp 33)), none⟩
 (.op ⟨some 35, .p (.mov (.tmp 3)), some (34, true)⟩
 (.op ⟨some 36, .p (.lenS (.tmp 35)), some (34, true)⟩
 (.op ⟨some 37, .p (.int2 .eql (.tmp 36) (.const (.int .i64 0))), some (34, true)⟩
 (.op ⟨some 38, .p (.pick (.tmp 34) (.tmp 37) (.const (.bool false))), none⟩
 (.op ⟨some 39, .p (.mov (.tmp 38)), none⟩
 (.op ⟨some 40, .p (.mov (.tmp 4)), some (39, false)⟩
 (.op ⟨some 41, .p (.int2 .eql (.tmp 40) (.const (.int .i64 0))), some (39, false)⟩
 (.op ⟨some 42, .p (.mov (.tmp 41)), some (39, false)⟩
 (.op ⟨some 43, .p (.mov (.tmp 3)), some (42, true)⟩
 (.op ⟨some 44, .p (.mov (.tmp 5)), some (42, true)⟩
 (.op ⟨some 45, .call 59 [.tmp 43, .tmp 44], some (42, true)⟩
 (.op ⟨some 46, .p (.pick (.tmp 42) (.tmp 45) (.const (.bool false))), some (39, false)⟩
 (.op ⟨some 47, .p (.pick (.tmp 39) (.const (.bool true)) (.tmp 46)), none⟩
 (.op ⟨some 2, .p (.mov (.tmp 47)), none⟩ .done))))))))))))))))))
 (.ret))))))))⟩

theorem cN16 : compF Try.prog aN16.cfg.pm aN16.cfg.lz Try.f16 = some aN16 := by kernel_rfl
theorem kN16 : aN16.ok = true := by kernel_rfl

end Go.Proofs.Ytbgnaeagdneikaa
namespace Go.Proofs.Ytbgnaeagdneikaa
open Go Go.Proofs.Ytbgnaeagdneikaa.Abs
set_option maxRecDepth 100000

-- decoupage/decoupageref07.Bytes
def aN60 : AFun := ⟨⟨41, [], true⟩, [.tmp 2],
 .seq (.reg (.op ⟨some 2, .p (.mov (.const (.slice none 0 0))), none⟩ .done))
 (.seq (.reg (.op ⟨some 6, .p (.mov (.tmp 0)), none⟩
 (.op ⟨some 7, .p (.lenS (.tmp 6)), none⟩
 (.op ⟨some 8, .p (.conv .u64 (.tmp 7)), none⟩
 (.op ⟨some 9, .call 49 [.tmp 8, .const (.int .i64 4)], none⟩
 (.op ⟨some 3, .p (.mov (.tmp 9)), none⟩ .done))))))
 (.seq (.seq (.reg (.op ⟨some 10, .p (.mov (.tmp 0)), none⟩
 (.op ⟨some 11, .p (.lenS (.tmp 10)), none⟩
 (.op ⟨some 12, .p (.mov (.const (.int .i64 0))), none⟩ .done))))
 (.block 0 (.loop (.seq (.reg (.op ⟨some 13, .p (.int2 .lss (.tmp 12) (.tmp 11)), none⟩ .done))
 (.seq (.cond (.tmp 13) (.skip)
 (.exit 0))
 (.seq (.block 1 (.seq (.reg (.op ⟨some 14, .p (.mov (.tmp 12)), none⟩
 (.op ⟨some 4, .p (.mov (.tmp 14)), none⟩ .done)))
 (.seq (.seq (.reg (.op ⟨some 15, .p (.mov (.tmp 4)), none⟩
 (.op ⟨some 16, .p (.int2 .gtr (.tmp 15) (.const (.int .i64 0))), none⟩ .done)))
 (.cond (.tmp 16) (.seq (.reg (.op ⟨some 17, .p (.mov (.tmp 0)), none⟩
 (.op ⟨some 18, .p (.mov (.tmp 4)), none⟩
 (.op ⟨some 19, .p (.int2 .sub (.tmp 18) (.const (.int .i64 1))), none⟩
 (.op ⟨some 20, .call 61 [.tmp 17, .tmp 19], none⟩
 (.op ⟨some 21, .p (.mov (.tmp 0)), none⟩
 (.op ⟨some 22, .p (.mov (.tmp 4)), none⟩
 (.op ⟨some 23, .call 61 [.tmp 21, .tmp 22], none⟩
 (.op ⟨some 24, .p (.int2 .sub (.tmp 20) (.tmp 23)), none⟩
 (.op ⟨some 25, .p (.int2 .add (.tmp 24) (.const (.int .i64 1))), none⟩
 (.op ⟨some 5, .p (.mov (.tmp 25)), none⟩ .done)))))))))))
 (.reg (.op ⟨some 26, .p (.mov (.tmp 3)), none⟩
 (.op ⟨some 27, .p (.mov (.tmp 5)), none⟩
 (.op ⟨some 28, .p (.conv .u64 (.tmp 27)), none⟩
 (.op ⟨some 29, .call 49 [.tmp 28, .const (.int .i64 4)], none⟩
 (.op ⟨some 30, .h (.append 1 1 (.tmp 26) (.tmp 29)), none⟩
 (.op ⟨some 3, .p (.mov (.tmp 30)), none⟩ .done))))))))
 (.skip)))
 (.reg (.op ⟨some 31, .p (.mov (.tmp 3)), none⟩
 (.op ⟨some 32, .p (.mov (.tmp 0)), none⟩
 (.op ⟨some 33, .p (.mov (.tmp 4)), none⟩
 (.op ⟨some 34, .p (.idxS 49 (.tmp 32) (.tmp 33)), none⟩
 (.op ⟨some 35, .p (.fieldAddr 0 (.tmp 34)), none⟩
 (.op ⟨some 36, .h (.load 48 true (.tmp 35)), none⟩
 (.op ⟨some 37, .call 39 [.tmp 36], none⟩
 (.op ⟨some 38, .h (.append 1 1 (.tmp 31) (.tmp 37)), none⟩
 (.op ⟨some 3, .p (.mov (.tmp 38)), none⟩ .done)))))))))))))
 (.reg (.op ⟨some 39, .p (.int2 .add (.tmp 12) (.const (.int .i64 1))), none⟩
 (.op ⟨some 12, .p (.mov (.tmp 39)), none⟩ .done)))))))))
 (.seq (.reg (.op ⟨some 40, .p (.mov (.tmp 3)), none⟩
 (.op ⟨some 2, .p (.mov (.tmp 40)), none⟩ .done)))
 (.ret))))⟩

theorem cN60 : compF Try.prog aN60.cfg.pm aN60.cfg.lz Try.f60 = some aN60 := by kernel_rfl
theorem kN60 : aN60.ok = true := by kernel_rfl

end Go.Proofs.Ytbgnaeagdneikaa
namespace Go.Proofs.Ytbgnaeagdneikaa
open Go Go.Proofs.Ytbgnaeagdneikaa.Abs
set_option maxRecDepth 100000

-- decoupage/tree.Encode
def aN62 : AFun := ⟨⟨39, [(6, true, [34])], true⟩, [.tmp 2, .tmp 3],
 .seq (.reg (.op ⟨some 2, .p (.mov (.const (.slice none 0 0))), none⟩
 (.op ⟨some 3, .p (.mov (.const (.int .i64 0))), none⟩ .done)))
 (.seq (.seq (.reg (.op ⟨some 9, .p (.mov (.tmp 0)), none⟩
 (.op ⟨some 10, .call 51 [.tmp 9], none⟩
 (.op ⟨some 11, .p (.un .not (.tmp 10)), none⟩ .done))))
 (.cond (.tmp 11) (.seq (.reg (.op ⟨some 2, .p (.mov (.const (.slice none 0 0))), none⟩
 (.op ⟨some 3, .p (.mov (.const (.int .i64 2))), none⟩ .done)))
 (.ret))
 (.skip)))
 (.seq (.reg (.op ⟨some 4, .h (.alloc [.slice none 0 0]), none⟩ .done))
 (.seq (.reg (.op ⟨some 12, .p (.mov (.tmp 0)), none⟩
 (.op ⟨some 13, .p (.lenS (.tmp 12)), none⟩
 (.op ⟨some 14, .p (.conv .u32 (.tmp 13)), none⟩
 (.op ⟨some 15, .call 26 [.tmp 4, .tmp 14], none⟩ .done)))))
 (.seq (.seq (.reg (.op ⟨some 16, .p (.mov (.tmp 0)), none⟩
 (.op ⟨some 17, .p (.lenS (.tmp 16)), none⟩
 (.op ⟨some 18, .p (.mov (.const (.int .i64 0))), none⟩ .done))))
 (.block 0 (.loop (.seq (.reg (.op ⟨some 19, .p (.int2 .lss (.tmp 18) (.tmp 17)), none⟩ .done))
 (.seq (.cond (.tmp 19) (.skip)
 (.exit 0))
 (.seq (.block 1 (.seq (.reg (.op ⟨some 20, .p (.mov (.tmp 18)), none⟩
 (.op ⟨some 21, .p (.idxS 49 (.tmp 16) (.tmp 18)), none⟩
 (.op ⟨some 22, .h (.load 49 true (.tmp 21)), none⟩
 (.op ⟨some 6, .l (.new 6 (some [34]) [.bool false, .int .i64 0, .int .i64 0, .int .i64 0, .int .i64 0, .int .i64 0, .int .i64 0, .int .i64 0, .int .i64 0, .int .i64 0, .int .i64 0, .int .i64 0, .int .i64 0, .int .i64 0, .int .i64 0, .int .i64 0, .int .i64 0, .int .i64 0, .int .i64 0, .int .i64 0, .int .i64 0, .int .i64 0, .int .i64 0, .int .i64 0, .int .i64 0, .int .i64 0, .int .i64 0, .int .i64 0, .int .i64 0, .int .i64 0, .int .i64 0, .int .i64 0, .int .i64 0, .int .i64 0, .int .i64 0, .int .i64 0, .int .i64 0, .int .i64 0, .int .i64 0, .int .i64 0, .int .i64 0, .int .i64 0, .bool false, .bool false, .int .i64 0, .bool false, .int .i64 0, .int .i64 0, .int .i64 0]), none⟩
 (.op ⟨some 5, .p (.mov (.tmp 20)), none⟩
 (.op ⟨none, .l (.store 6 6 49 (.tmp 22)), none⟩ .done)))))))
 (.seq (.seq (.reg (.op ⟨some 23, .p (.mov (.tmp 5)), none⟩
 (.op ⟨some 24, .p (.int2 .gtr (.tmp 23) (.const (.int .i64 0))), none⟩ .done)))
 (.cond (.tmp 24) (.seq (.reg (.op ⟨some 26, .p (.mov (.tmp 0)), none⟩
 (.op ⟨some 27, .p (.mov (.tmp 5)), none⟩
 (.op ⟨some 28, .call 83 [.tmp 26, .tmp 27], none⟩
 (.op ⟨some 25, .p (.mov (.tmp 28)), none⟩
 (.op ⟨some 29, .p (.extract (.tmp 25) 0), none⟩
 (.op ⟨some 30, .p (.extract (.tmp 25) 1), none⟩
 (.op ⟨some 7, .p (.mov (.tmp 29)), none⟩
 (.op ⟨some 8, .p (.mov (.tmp 30)), none⟩ .done)))))))))
 (.reg (.op ⟨some 31, .p (.mov (.tmp 7)), none⟩
 (.op ⟨some 32, .p (.conv .u32 (.tmp 31)), none⟩
 (.op ⟨some 33, .call 26 [.tmp 4, .tmp 32], none⟩ .done)))))
 (.skip)))
 (.reg (.op ⟨some 34, .l (.addr 6 6 0), none⟩
 (.op ⟨some 35, .l (.load 34 6 48 true), none⟩
 (.op ⟨some 36, .call 56 [.tmp 4, .tmp 35], none⟩ .done)))))))
 (.reg (.op ⟨some 37, .p (.int2 .add (.tmp 18) (.const (.int .i64 1))), none⟩
 (.op ⟨some 18, .p (.mov (.tmp 37)), none⟩ .done)))))))))
 (.seq (.reg (.op ⟨some 38, .call 29 [.tmp 4], none⟩
 (.op ⟨some 2, .p (.mov (.tmp 38)), none⟩
 (.op ⟨some 3, .p (.mov (.const (.int .i64 0))), none⟩ .done))))
 (.ret))))))⟩

theorem cN62 : compF Try.prog aN62.cfg.pm aN62.cfg.lz Try.f62 = some aN62 := by kernel_rfl
theorem kN62 : aN62.ok = true := by kernel_rfl

end Go.Proofs.Ytbgnaeagdneikaa
namespace Go.Proofs.Ytbgnaeagdneikaa
open Go Go.Proofs.Ytbgnaeagdneikaa.Abs
set_option maxRecDepth 100000

-- decoupage/decoupagelaw07.TreeEncodes
def aN18 : AFun := ⟨⟨72, [], true⟩, [.tmp 2],
 .seq (.reg (.op ⟨some 2, .p (.mov (.const (.bool false))), none⟩ .done))
 (.seq (.seq (.reg (.op ⟨some 7, .call 50 [], none⟩
 (.op ⟨some 8, .p (.un .not (.tmp 7)), none⟩
 (.op ⟨some 9, .p (.mov (.tmp 8)), none⟩
 (.op ⟨some 10, .p (.mov (.tmp 0)), some (9, false)⟩
 (.op ⟨some 11, .p (.lenS (.tmp 10)), some (9, false)⟩
 (.op ⟨some 12, .p (.int2 .gtr (.tmp 11) (.const (.int .i64 100))), some (9, false)⟩
 (.op ⟨some 13, .p (.pick (.tmp 9) (.const (.bool true)) (.tmp 12)), none⟩ .done))))))))
 (.cond (.tmp 13) (.seq (.reg (.op ⟨some 14, .call 50 [], none⟩
 (.op ⟨some 2, .p (.mov (.tmp 14)), none⟩ .done)))
 (.ret))
 (.skip)))
 (.seq (.reg (.op ⟨some 16, .p (.mov (.tmp 0)), none⟩
 (.op ⟨some 17, .call 62 [.tmp 16], none⟩
 (.op ⟨some 15, .p (.mov (.tmp 17)), none⟩
 (.op ⟨some 18, .p (.extract (.tmp 15) 0), none⟩
 (.op ⟨some 19, .p (.extract (.tmp 15) 1), none⟩
 (.op ⟨some 3, .p (.mov (.tmp 18)), none⟩
 (.op ⟨some 4, .p (.mov (.tmp 19)), none⟩ .done))))))))
 (.seq (.seq (.reg (.op ⟨some 20, .p (.mov (.tmp 0)), none⟩
 (.op ⟨some 21, .call 52 [.tmp 20], none⟩
 (.op ⟨some 22, .p (.un .not (.tmp 21)), none⟩ .done))))
 (.cond (.tmp 22) (.seq (.reg (.op ⟨some 23, .p (.mov (.tmp 4)), none⟩
 (.op ⟨some 24, .p (.int2 .eql (.tmp 23) (.const (.int .i64 2))), none⟩
 (.op ⟨some 25, .p (.mov (.tmp 24)), none⟩
 (.op ⟨some 26, .p (.mov (.tmp 3)), some (25, true)⟩
 (.op ⟨some 27, .p (.lenS (.tmp 26)), some (25, true)⟩
 (.op ⟨some 28, .p (.int2 .eql (.tmp 27) (.const (.int .i64 0))), some (25, true)⟩
 (.op ⟨some 29, .p (.pick (.tmp 25) (.tmp 28) (.const (.bool false))), none⟩
 (.op ⟨some 2, .p (.mov (.tmp 29)), none⟩ .done)))))))))
 (.ret))
 (.skip)))
 (.seq (.reg (.op ⟨some 31, .p (.mov (.tmp 3)), none⟩
 (.op ⟨some 32, .call 57 [.tmp 31], none⟩
 (.op ⟨some 30, .p (.mov (.tmp 32)), none⟩
 (.op ⟨some 33, .p (.extract (.tmp 30) 0), none⟩
 (.op ⟨some 34, .p (.extract (.tmp 30) 1), none⟩
 (.op ⟨some 5, .p (.mov (.tmp 33)), none⟩
 (.op ⟨some 6, .p (.mov (.tmp 34)), none⟩ .done))))))))
 (.seq (.seq (.reg (.op ⟨some 35, .p (.mov (.tmp 4)), none⟩
 (.op ⟨some 36, .p (.int2 .neq (.tmp 35) (.const (.int .i64 0))), none⟩
 (.op ⟨some 37, .p (.mov (.tmp 36)), none⟩
 (.op ⟨some 38, .p (.mov (.tmp 3)), some (37, false)⟩
 (.op ⟨some 39, .h (.b2s (.tmp 38)), some (37, false)⟩
 (.op ⟨some 40, .p (.mov (.tmp 0)), some (37, false)⟩
 (.op ⟨some 41, .call 60 [.tmp 40], some (37, false)⟩
 (.chk [⟨39, .b2s (.tmp 38), some (37, false)⟩]
 (.op ⟨some 42, .h (.b2s (.tmp 41)), some (37, false)⟩
 (.op ⟨some 43, .p (.eqs true (.tmp 39) (.tmp 42)), some (37, false)⟩
 (.op ⟨some 44, .p (.pick (.tmp 37) (.const (.bool true)) (.tmp 43)), none⟩
 (.op ⟨some 45, .p (.mov (.tmp 44)), none⟩
 (.op ⟨some 46, .p (.mov (.tmp 6)), some (45, false)⟩
 (.op ⟨some 47, .p (.mov (.tmp 0)), some (45, false)⟩
 (.op ⟨some 48, .call 54 [.tmp 47], some (45, false)⟩
 (.op ⟨some 49, .p (.int2 .neq (.tmp 46) (.tmp 48)), some (45, false)⟩
 (.op ⟨some 50, .p (.pick (.tmp 45) (.const (.bool true)) (.tmp 49)), none⟩
 (.done)))))))))))))))))))
 (.cond (.tmp 50) (.seq (.reg (.op ⟨some 2, .p (.mov (.const (.bool false))), none⟩ .done))
 (.ret))
 (.skip)))
 (.seq (.reg (.op ⟨some 51, .p (.mov (.tmp 6)), none⟩
 (.op ⟨some 52, .p (.int2 .neq (.tmp 51) (.const (.int .i64 0))), none⟩
 (.op ⟨some 53, .p (.mov (.tmp 52)), none⟩
 (.op ⟨some 54, .p (.mov (.tmp 5)), some (53, true)⟩
 (.op ⟨some 55, .p (.lenS (.tmp 54)), some (53, true)⟩
 (.op ⟨some 56, .p (.int2 .eql (.tmp 55) (.const (.int .i64 0))), some (53, true)⟩
 (.op ⟨some 57, .p (.pick (.tmp 53) (.tmp 56) (.const (.bool false))), none⟩
 (.op ⟨some 58, .p (.mov (.tmp 57)), none⟩
 (.op ⟨some 59, .p (.mov (.tmp 6)), some (58, false)⟩
 (.op ⟨some 60, .p (.int2 .eql (.tmp 59) (.const (.int .i64 0))), some (58, false)⟩
 (.op ⟨some 61, .p (.mov (.tmp 60)), some (58, false)⟩
 (.op ⟨some 62, .p (.mov (.tmp 5)), some (61, true)⟩
 (.op ⟨some 63, .p (.mov (.tmp 0)), some (61, true)⟩
 (.op ⟨some 64, .call 59 [.tmp 62, .tmp 63], some (61, true)⟩
 (.op ⟨some 65, .p (.pick (.tmp 61) (.tmp 64) (.const (.bool false))), some (58, false)⟩
 (.op ⟨some 66, .p (.mov (.tmp 65)), some (58, false)⟩
 (.op ⟨some 67, .p (.mov (.tmp 5)), some (66, true)⟩
 (.op ⟨some 68, .p (.mov (.tmp 0)), some (66, true)⟩
 (.op ⟨some 69, .call 63 [.tmp 67, .tmp 68], some (66, true)⟩
 (.op ⟨some 70, .p (.pick (.tmp 66) (.tmp 69) (.const (.bool false))), some (58, false)⟩
 (.op ⟨some 71, .p (.pick (.tmp 58) (.const (.bool true)) (.tmp 70)), none⟩
 (.op ⟨some 2, .p (.mov (.tmp 71)), none⟩ .done)))))))))))))))))))))))
 (.ret)))))))⟩

theorem cN18 : compF Try.prog aN18.cfg.pm aN18.cfg.lz Try.f18 = some aN18 := by kernel_rfl
theorem kN18 : aN18.ok = true := by kernel_rfl

end Go.Proofs.Ytbgnaeagdneikaa
namespace Go.Proofs.Ytbgnaeagdneikaa
open Go Go.Proofs.Ytbgnaeagdneikaa.Abs
set_option maxRecDepth 100000

-- decoupage/decoupagelaw07.TreeCounts
def aN17 : AFun := ⟨⟨94, [], true⟩, [.tmp 6],
 .seq (.reg (.op ⟨some 6, .p (.mov (.const (.bool false))), none⟩ .done))
 (.seq (.seq (.reg (.op ⟨some 16, .call 50 [], none⟩
 (.op ⟨some 17, .p (.un .not (.tmp 16)), none⟩
 (.op ⟨some 18, .p (.mov (.tmp 17)), none⟩
 (.op ⟨some 19, .p (.mov (.tmp 0)), some (18, false)⟩
 (.op ⟨some 20, .p (.lenS (.tmp 19)), some (18, false)⟩
 (.op ⟨some 21, .p (.int2 .gtr (.tmp 20) (.const (.int .i64 40))), some (18, false)⟩
 (.op ⟨some 22, .p (.pick (.tmp 18) (.const (.bool true)) (.tmp 21)), none⟩
 (.op ⟨some 23, .p (.mov (.tmp 22)), none⟩
 (.op ⟨some 24, .p (.mov (.tmp 0)), some (23, false)⟩
 (.op ⟨some 25, .call 52 [.tmp 24], some (23, false)⟩
 (.op ⟨some 26, .p (.un .not (.tmp 25)), some (23, false)⟩
 (.op ⟨some 27, .p (.pick (.tmp 23) (.const (.bool true)) (.tmp 26)), none⟩ .done)))))))))))))
 (.cond (.tmp 27) (.seq (.reg (.op ⟨some 28, .call 50 [], none⟩
 (.op ⟨some 6, .p (.mov (.tmp 28)), none⟩ .done)))
 (.ret))
 (.skip)))
 (.seq (.reg (.op ⟨some 29, .p (.mov (.tmp 0)), none⟩
 (.op ⟨some 30, .call 60 [.tmp 29], none⟩
 (.op ⟨some 7, .p (.mov (.tmp 30)), none⟩ .done))))
 (.seq (.reg (.op ⟨some 31, .p (.mov (.tmp 0)), none⟩
 (.op ⟨some 32, .p (.lenS (.tmp 31)), none⟩
 (.op ⟨some 33, .p (.conv .u64 (.tmp 32)), none⟩
 (.op ⟨some 34, .p (.int2 .add (.tmp 33) (.const (.int .u64 1))), none⟩
 (.op ⟨some 35, .p (.mov (.tmp 1)), none⟩
 (.op ⟨some 36, .p (.conv .u64 (.tmp 35)), none⟩
 (.op ⟨some 37, .p (.int2 .add (.tmp 34) (.tmp 36)), none⟩
 (.op ⟨some 39, .p (.mov (.tmp 7)), none⟩
 (.op ⟨some 40, .p (.sliceS 1 (.tmp 39) (some (.const (.int .i64 4))) none), none⟩
 (.op ⟨some 38, .call 49 [.tmp 37, .const (.int .i64 4)], none⟩
 (.op ⟨some 41, .h (.append 1 1 (.tmp 38) (.tmp 40)), none⟩
 (.op ⟨some 8, .p (.mov (.tmp 41)), none⟩
 (.done))))))))))))))
 (.seq (.reg (.op ⟨some 43, .p (.mov (.tmp 8)), none⟩
 (.op ⟨some 44, .call 57 [.tmp 43], none⟩
 (.op ⟨some 42, .p (.mov (.tmp 44)), none⟩
 (.op ⟨some 45, .p (.extract (.tmp 42) 0), none⟩
 (.op ⟨some 46, .p (.extract (.tmp 42) 1), none⟩
 (.op ⟨some 9, .p (.mov (.tmp 45)), none⟩
 (.op ⟨some 10, .p (.mov (.tmp 46)), none⟩ .done))))))))
 (.seq (.reg (.op ⟨some 48, .h (.buildSlice 1 0 [] []), none⟩
 (.op ⟨some 49, .p (.mov (.tmp 7)), none⟩
 (.op ⟨some 50, .h (.append 1 1 (.tmp 48) (.tmp 49)), none⟩
 (.op ⟨some 51, .p (.mov (.tmp 2)), none⟩
 (.op ⟨some 52, .h (.buildSlice 1 1 [.int .u8 0] [(0, 1, .tmp 51)]), none⟩
 (.op ⟨some 53, .h (.append 1 1 (.tmp 50) (.tmp 52)), none⟩
 (.op ⟨some 54, .call 57 [.tmp 53], none⟩
 (.op ⟨some 47, .p (.mov (.tmp 54)), none⟩
 (.op ⟨some 55, .p (.extract (.tmp 47) 0), none⟩
 (.op ⟨some 56, .p (.extract (.tmp 47) 1), none⟩
 (.op ⟨some 11, .p (.mov (.tmp 55)), none⟩
 (.op ⟨some 12, .p (.mov (.tmp 56)), none⟩ .done)))))))))))))
 (.seq (.reg (.op ⟨some 57, .p (.mov (.tmp 0)), none⟩
 (.op ⟨some 58, .p (.lenS (.tmp 57)), none⟩
 (.op ⟨some 59, .p (.conv .u64 (.tmp 58)), none⟩
 (.op ⟨some 60, .p (.int2 .add (.tmp 59) (.const (.int .u64 1))), none⟩
 (.op ⟨some 62, .p (.mov (.tmp 7)), none⟩
 (.op ⟨some 63, .p (.sliceS 1 (.tmp 62) (some (.const (.int .i64 4))) none), none⟩
 (.op ⟨some 65, .p (.mov (.tmp 0)), none⟩
 (.op ⟨some 66, .p (.mov (.tmp 0)), none⟩
 (.op ⟨some 67, .p (.lenS (.tmp 66)), none⟩
 (.op ⟨some 68, .p (.int2 .sub (.tmp 67) (.const (.int .i64 1))), none⟩
 (.op ⟨some 71, .p (.mov (.tmp 1)), none⟩
 (.op ⟨some 72, .p (.conv .u64 (.tmp 71)), none⟩
 (.op ⟨some 61, .call 49 [.tmp 60, .const (.int .i64 4)], none⟩
 (.op ⟨some 64, .h (.append 1 1 (.tmp 61) (.tmp 63)), none⟩
 (.op ⟨some 69, .call 61 [.tmp 65, .tmp 68], none⟩
 (.op ⟨some 70, .p (.conv .u64 (.tmp 69)), none⟩
 (.op ⟨some 73, .p (.int2 .add (.tmp 70) (.tmp 72)), none⟩
 (.op ⟨some 74, .call 49 [.tmp 73, .const (.int .i64 4)], none⟩
 (.op ⟨some 75, .h (.append 1 1 (.tmp 64) (.tmp 74)), none⟩
 (.op ⟨some 13, .p (.mov (.tmp 75)), none⟩
 (.done))))))))))))))))))))))
 (.seq (.reg (.op ⟨some 77, .p (.mov (.tmp 13)), none⟩
 (.op ⟨some 78, .call 55 [], none⟩
 (.op ⟨some 79, .call 39 [.tmp 78], none⟩
 (.op ⟨some 80, .h (.append 1 1 (.tmp 77) (.tmp 79)), none⟩
 (.op ⟨some 81, .call 57 [.tmp 80], none⟩
 (.op ⟨some 76, .p (.mov (.tmp 81)), none⟩
 (.op ⟨some 82, .p (.extract (.tmp 76) 0), none⟩
 (.op ⟨some 83, .p (.extract (.tmp 76) 1), none⟩
 (.op ⟨some 14, .p (.mov (.tmp 82)), none⟩
 (.op ⟨some 15, .p (.mov (.tmp 83)), none⟩ .done)))))))))))
 (.seq (.reg (.op ⟨some 84, .p (.mov (.tmp 10)), none⟩
 (.op ⟨some 85, .p (.int2 .eql (.tmp 84) (.const (.int .i64 2))), none⟩
 (.op ⟨some 86, .p (.mov (.tmp 85)), none⟩
 (.op ⟨some 87, .p (.mov (.tmp 12)), some (86, true)⟩
 (.op ⟨some 88, .p (.int2 .eql (.tmp 87) (.const (.int .i64 2))), some (86, true)⟩
 (.op ⟨some 89, .p (.pick (.tmp 86) (.tmp 88) (.const (.bool false))), none⟩
 (.op ⟨some 90, .p (.mov (.tmp 89)), none⟩
 (.op ⟨some 91, .p (.mov (.tmp 15)), some (90, true)⟩
 (.op ⟨some 92, .p (.int2 .eql (.tmp 91) (.const (.int .i64 2))), some (90, true)⟩
 (.op ⟨some 93, .p (.pick (.tmp 90) (.tmp 92) (.const (.bool false))), none⟩
 (.op ⟨some 6, .p (.mov (.tmp 93)), none⟩ .done))))))))))))
 (.ret)))))))))⟩

theorem cN17 : compF Try.prog aN17.cfg.pm aN17.cfg.lz Try.f17 = some aN17 := by kernel_rfl
theorem kN17 : aN17.ok = true := by kernel_rfl

end Go.Proofs.Ytbgnaeagdneikaa
