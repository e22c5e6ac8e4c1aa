/- The compiled code of functions of the seat, printed by a program of mine (gen.py), checked by the kernel. -/
import Derived.Test.YtbgnaeagdneikaaCoreAi
import Derived.Test.YtbgnaeagdneikaaProg
import Derived.KernelRfl
namespace Go.Proofs.Ytbgnaeagdneikaa
open Go Go.Proofs.Ytbgnaeagdneikaa.Abs
set_option maxRecDepth 100000

-- decoupage/plate.get
def aF81 : AFun := ⟨⟨12, [], false⟩, [.cell 2 4 true],
 .seq (.reg (.op ⟨some 2, .h (.alloc [.int .i64 0, .int .i64 0, .int .i64 0, .int .i64 0]), none⟩ .done))
 (.seq (.reg (.op ⟨some 3, .p (.mov (.tmp 0)), none⟩
 (.op ⟨some 4, .call 31 [.tmp 3], none⟩
 (.op ⟨some 5, .p (.mov (.tmp 0)), none⟩
 (.op ⟨some 6, .call 31 [.tmp 5], none⟩
 (.op ⟨some 7, .p (.mov (.tmp 0)), none⟩
 (.op ⟨some 8, .call 31 [.tmp 7], none⟩
 (.op ⟨some 9, .p (.mov (.tmp 0)), none⟩
 (.op ⟨some 10, .call 31 [.tmp 9], none⟩
 (.op ⟨some 11, .p (.build [.int .i64 0, .int .i64 0, .int .i64 0, .int .i64 0] [(0, 1, .tmp 4), (1, 1, .tmp 6), (2, 1, .tmp 8), (3, 1, .tmp 10)]), none⟩
 (.op ⟨none, .h (.store 4 (.tmp 2) (.tmp 11)), none⟩ .done)))))))))))
 (.ret))⟩

theorem cF81 : compF Try.prog aF81.cfg.pm aF81.cfg.lz Try.f81 = some aF81 := by kernel_rfl
theorem kF81 : aF81.ok = true := by kernel_rfl

-- decoupage/decoupageref30.rect
def aF82 : AFun := ⟨⟨20, [], false⟩, [.tmp 2],
 .seq (.reg (.op ⟨some 1, .h (.box (.tmp 0)), none⟩
 (.op ⟨some 2, .p (.mov (.const (.slice none 0 0))), none⟩ .done)))
 (.seq (.reg (.op ⟨some 3, .p (.mov (.const (.slice none 0 0))), none⟩ .done))
 (.seq (.reg (.op ⟨some 6, .h (.load 4 true (.tmp 1)), none⟩
 (.op ⟨some 7, .call 75 [.tmp 6], none⟩
 (.op ⟨some 4, .h (.alloc [.int .i64 0, .int .i64 0, .int .i64 0, .int .i64 0]), none⟩
 (.op ⟨none, .h (.store 4 (.tmp 4) (.tmp 7)), none⟩ .done)))))
 (.seq (.seq (.reg (.op ⟨some 8, .p (.mov (.const (.int .i64 0))), none⟩ .done))
 (.block 0 (.loop (.seq (.reg (.op ⟨some 9, .p (.int2 .lss (.tmp 8) (.const (.int .i64 4))), none⟩ .done))
 (.seq (.cond (.tmp 9) (.skip)
 (.exit 0))
 (.seq (.block 1 (.seq (.reg (.op ⟨some 10, .p (.mov (.tmp 8)), none⟩
 (.op ⟨some 5, .p (.mov (.tmp 10)), none⟩ .done)))
 (.reg (.op ⟨some 11, .p (.mov (.tmp 3)), none⟩
 (.op ⟨some 12, .p (.mov (.tmp 5)), none⟩
 (.op ⟨some 13, .p (.idxA 4 1 (.tmp 4) (.tmp 12)), none⟩
 (.op ⟨some 14, .h (.load 1 false (.tmp 13)), none⟩
 (.op ⟨some 15, .p (.conv .u64 (.tmp 14)), none⟩
 (.op ⟨some 16, .call 49 [.tmp 15, .const (.int .i64 8)], none⟩
 (.op ⟨some 17, .h (.append 1 1 (.tmp 11) (.tmp 16)), none⟩
 (.op ⟨some 3, .p (.mov (.tmp 17)), none⟩ .done)))))))))))
 (.reg (.op ⟨some 18, .p (.int2 .add (.tmp 8) (.const (.int .i64 1))), none⟩
 (.op ⟨some 8, .p (.mov (.tmp 18)), none⟩ .done)))))))))
 (.seq (.reg (.op ⟨some 19, .p (.mov (.tmp 3)), none⟩
 (.op ⟨some 2, .p (.mov (.tmp 19)), none⟩ .done)))
 (.ret)))))⟩

theorem cF82 : compF Try.prog aF82.cfg.pm aF82.cfg.lz Try.f82 = some aF82 := by kernel_rfl
theorem kF82 : aF82.ok = true := by kernel_rfl

-- decoupage/tree.up
def aF83 : AFun := ⟨⟨27, [], false⟩, [.tmp 4, .tmp 5],
 .seq (.reg (.op ⟨some 4, .p (.mov (.const (.int .i64 0))), none⟩
 (.op ⟨some 5, .p (.mov (.const (.bool false))), none⟩ .done)))
 (.seq (.reg (.op ⟨some 6, .p (.mov (.const (.int .i64 0))), none⟩ .done))
 (.seq (.seq (.reg (.op ⟨some 8, .p (.mov (.tmp 1)), none⟩
 (.op ⟨some 9, .p (.int2 .sub (.tmp 8) (.const (.int .i64 1))), none⟩
 (.op ⟨some 7, .p (.mov (.tmp 9)), none⟩ .done))))
 (.block 0 (.loop (.seq (.seq (.reg (.op ⟨some 10, .p (.mov (.tmp 7)), none⟩
 (.op ⟨some 11, .p (.int2 .geq (.tmp 10) (.const (.int .i64 0))), none⟩ .done)))
 (.cond (.tmp 11) (.skip)
 (.exit 0)))
 (.seq (.block 1 (.seq (.seq (.reg (.op ⟨some 17, .p (.mov (.tmp 7)), none⟩
 (.op ⟨some 18, .p (.mov (.tmp 0)), none⟩
 (.op ⟨some 19, .p (.mov (.tmp 1)), none⟩
 (.op ⟨some 20, .p (.idxS 49 (.tmp 18) (.tmp 19)), none⟩
 (.op ⟨some 21, .p (.fieldAddr 48 (.tmp 20)), none⟩
 (.op ⟨some 22, .h (.load 1 false (.tmp 21)), none⟩
 (.op ⟨some 23, .p (.int2 .eql (.tmp 17) (.tmp 22)), none⟩ .done))))))))
 (.cond (.tmp 23) (.seq (.reg (.op ⟨some 24, .p (.mov (.tmp 6)), none⟩
 (.op ⟨some 4, .p (.mov (.tmp 24)), none⟩
 (.op ⟨some 5, .p (.mov (.const (.bool true))), none⟩ .done))))
 (.ret))
 (.skip)))
 (.reg (.op ⟨some 25, .p (.mov (.tmp 6)), none⟩
 (.op ⟨some 26, .p (.int2 .add (.tmp 25) (.const (.int .i64 1))), none⟩
 (.op ⟨some 6, .p (.mov (.tmp 26)), none⟩ .done))))))
 (.reg (.op ⟨some 12, .p (.mov (.tmp 0)), none⟩
 (.op ⟨some 13, .p (.mov (.tmp 7)), none⟩
 (.op ⟨some 14, .p (.idxS 49 (.tmp 12) (.tmp 13)), none⟩
 (.op ⟨some 15, .p (.fieldAddr 48 (.tmp 14)), none⟩
 (.op ⟨some 16, .h (.load 1 false (.tmp 15)), none⟩
 (.op ⟨some 7, .p (.mov (.tmp 16)), none⟩ .done))))))))))))
 (.seq (.reg (.op ⟨some 4, .p (.mov (.const (.int .i64 0))), none⟩
 (.op ⟨some 5, .p (.mov (.const (.bool false))), none⟩ .done)))
 (.ret))))⟩

theorem cF83 : compF Try.prog aF83.cfg.pm aF83.cfg.lz Try.f83 = some aF83 := by kernel_rfl
theorem kF83 : aF83.ok = true := by kernel_rfl

-- decoupage/decoupageref07.Shaped
def aF84 : AFun := ⟨⟨41, [], false⟩, [.tmp 2],
 .seq (.reg (.op ⟨some 2, .p (.mov (.const (.bool false))), none⟩ .done))
 (.seq (.seq (.reg (.op ⟨some 5, .p (.mov (.tmp 0)), none⟩
 (.op ⟨some 6, .p (.lenS (.tmp 5)), none⟩
 (.op ⟨some 7, .p (.int2 .eql (.tmp 6) (.const (.int .i64 0))), none⟩
 (.op ⟨some 8, .p (.mov (.tmp 7)), none⟩
 (.op ⟨some 9, .p (.mov (.tmp 0)), some (8, false)⟩
 (.op ⟨some 10, .p (.idxS 49 (.tmp 9) (.const (.int .i64 0))), some (8, false)⟩
 (.op ⟨some 11, .p (.fieldAddr 48 (.tmp 10)), some (8, false)⟩
 (.op ⟨some 12, .h (.load 1 false (.tmp 11)), some (8, false)⟩
 (.op ⟨some 13, .p (.int2 .neq (.tmp 12) (.const (.int .i64 (-1)))), some (8, false)⟩
 (.op ⟨some 14, .p (.pick (.tmp 8) (.const (.bool true)) (.tmp 13)), none⟩ .done)))))))))))
 (.cond (.tmp 14) (.seq (.reg (.op ⟨some 2, .p (.mov (.const (.bool false))), none⟩ .done))
 (.ret))
 (.skip)))
 (.seq (.seq (.reg (.op ⟨some 3, .p (.mov (.const (.int .i64 1))), none⟩ .done))
 (.block 0 (.loop (.seq (.seq (.reg (.op ⟨some 15, .p (.mov (.tmp 3)), none⟩
 (.op ⟨some 16, .p (.mov (.tmp 0)), none⟩
 (.op ⟨some 17, .p (.lenS (.tmp 16)), none⟩
 (.op ⟨some 18, .p (.int2 .lss (.tmp 15) (.tmp 17)), none⟩ .done)))))
 (.cond (.tmp 18) (.skip)
 (.exit 0)))
 (.seq (.block 1 (.seq (.reg (.op ⟨some 21, .p (.mov (.tmp 0)), none⟩
 (.op ⟨some 22, .p (.mov (.tmp 3)), none⟩
 (.op ⟨some 23, .p (.idxS 49 (.tmp 21) (.tmp 22)), none⟩
 (.op ⟨some 24, .p (.fieldAddr 48 (.tmp 23)), none⟩
 (.op ⟨some 25, .h (.load 1 false (.tmp 24)), none⟩
 (.op ⟨some 4, .p (.mov (.tmp 25)), none⟩ .done)))))))
 (.seq (.reg (.op ⟨some 26, .p (.mov (.tmp 4)), none⟩
 (.op ⟨some 27, .p (.int2 .lss (.tmp 26) (.const (.int .i64 0))), none⟩
 (.op ⟨some 28, .p (.mov (.tmp 27)), none⟩
 (.op ⟨some 29, .p (.mov (.tmp 4)), some (28, false)⟩
 (.op ⟨some 30, .p (.mov (.tmp 3)), some (28, false)⟩
 (.op ⟨some 31, .p (.int2 .geq (.tmp 29) (.tmp 30)), some (28, false)⟩
 (.op ⟨some 32, .p (.pick (.tmp 28) (.const (.bool true)) (.tmp 31)), none⟩
 (.op ⟨some 33, .p (.mov (.tmp 32)), none⟩
 (.op ⟨some 34, .p (.mov (.tmp 0)), some (33, false)⟩
 (.op ⟨some 35, .p (.mov (.tmp 4)), some (33, false)⟩
 (.op ⟨some 36, .p (.mov (.tmp 3)), some (33, false)⟩
 (.op ⟨some 37, .p (.int2 .sub (.tmp 36) (.const (.int .i64 1))), some (33, false)⟩
 (.op ⟨some 38, .call 94 [.tmp 34, .tmp 35, .tmp 37], some (33, false)⟩
 (.op ⟨some 39, .p (.un .not (.tmp 38)), some (33, false)⟩
 (.op ⟨some 40, .p (.pick (.tmp 33) (.const (.bool true)) (.tmp 39)), none⟩ .done))))))))))))))))
 (.cond (.tmp 40) (.seq (.reg (.op ⟨some 2, .p (.mov (.const (.bool false))), none⟩ .done))
 (.ret))
 (.skip)))))
 (.reg (.op ⟨some 19, .p (.mov (.tmp 3)), none⟩
 (.op ⟨some 20, .p (.int2 .add (.tmp 19) (.const (.int .i64 1))), none⟩
 (.op ⟨some 3, .p (.mov (.tmp 20)), none⟩ .done)))))))))
 (.seq (.reg (.op ⟨some 2, .p (.mov (.const (.bool true))), none⟩ .done))
 (.ret))))⟩

theorem cF84 : compF Try.prog aF84.cfg.pm aF84.cfg.lz Try.f84 = some aF84 := by kernel_rfl
theorem kF84 : aF84.ok = true := by kernel_rfl

-- decoupage/tree.deepest
def aF85 : AFun := ⟨⟨33, [], false⟩, [.tmp 2],
 .seq (.reg (.op ⟨some 2, .p (.mov (.const (.int .i64 0))), none⟩ .done))
 (.seq (.reg (.op ⟨some 6, .p (.mov (.tmp 0)), none⟩
 (.op ⟨some 7, .p (.lenS (.tmp 6)), none⟩
 (.op ⟨some 8, .h (.makeSlice 1 8 [.int .i64 0] (.tmp 7) (.tmp 7)), none⟩
 (.op ⟨some 3, .p (.mov (.tmp 8)), none⟩ .done)))))
 (.seq (.seq (.reg (.op ⟨some 9, .p (.mov (.tmp 0)), none⟩
 (.op ⟨some 10, .p (.lenS (.tmp 9)), none⟩
 (.op ⟨some 11, .p (.mov (.const (.int .i64 0))), none⟩ .done))))
 (.block 0 (.loop (.seq (.reg (.op ⟨some 12, .p (.int2 .lss (.tmp 11) (.tmp 10)), none⟩ .done))
 (.seq (.cond (.tmp 12) (.skip)
 (.exit 0))
 (.seq (.block 1 (.seq (.reg (.op ⟨some 13, .p (.mov (.tmp 11)), none⟩
 (.op ⟨some 14, .p (.idxS 49 (.tmp 9) (.tmp 11)), none⟩
 (.op ⟨some 15, .h (.load 49 true (.tmp 14)), none⟩
 (.op ⟨some 5, .h (.alloc [.bool false, .int .i64 0, .int .i64 0, .int .i64 0, .int .i64 0, .int .i64 0, .int .i64 0, .int .i64 0, .int .i64 0, .int .i64 0, .int .i64 0, .int .i64 0, .int .i64 0, .int .i64 0, .int .i64 0, .int .i64 0, .int .i64 0, .int .i64 0, .int .i64 0, .int .i64 0, .int .i64 0, .int .i64 0, .int .i64 0, .int .i64 0, .int .i64 0, .int .i64 0, .int .i64 0, .int .i64 0, .int .i64 0, .int .i64 0, .int .i64 0, .int .i64 0, .int .i64 0, .int .i64 0, .int .i64 0, .int .i64 0, .int .i64 0, .int .i64 0, .int .i64 0, .int .i64 0, .int .i64 0, .int .i64 0, .bool false, .bool false, .int .i64 0, .bool false, .int .i64 0, .int .i64 0, .int .i64 0]), none⟩
 (.op ⟨some 4, .p (.mov (.tmp 13)), none⟩
 (.op ⟨none, .h (.store 49 (.tmp 5) (.tmp 15)), none⟩ .done)))))))
 (.seq (.reg (.op ⟨some 16, .p (.mov (.tmp 3)), none⟩
 (.op ⟨some 17, .p (.mov (.tmp 4)), none⟩
 (.op ⟨some 18, .p (.idxS 1 (.tmp 16) (.tmp 17)), none⟩
 (.op ⟨none, .h (.store 1 (.tmp 18) (.const (.int .i64 1))), none⟩ .done)))))
 (.seq (.reg (.op ⟨some 19, .p (.mov (.tmp 4)), none⟩
 (.op ⟨some 20, .p (.int2 .gtr (.tmp 19) (.const (.int .i64 0))), none⟩ .done)))
 (.cond (.tmp 20) (.reg (.op ⟨some 21, .p (.mov (.tmp 3)), none⟩
 (.op ⟨some 22, .p (.mov (.tmp 4)), none⟩
 (.op ⟨some 23, .p (.mov (.tmp 3)), none⟩
 (.op ⟨some 24, .p (.fieldAddr 48 (.tmp 5)), none⟩
 (.op ⟨some 25, .h (.load 1 false (.tmp 24)), none⟩
 (.op ⟨some 26, .p (.idxS 1 (.tmp 23) (.tmp 25)), none⟩
 (.op ⟨some 27, .h (.load 1 false (.tmp 26)), none⟩
 (.op ⟨some 28, .p (.int2 .add (.tmp 27) (.const (.int .i64 1))), none⟩
 (.op ⟨some 29, .p (.idxS 1 (.tmp 21) (.tmp 22)), none⟩
 (.op ⟨none, .h (.store 1 (.tmp 29) (.tmp 28)), none⟩ .done)))))))))))
 (.skip))))))
 (.reg (.op ⟨some 30, .p (.int2 .add (.tmp 11) (.const (.int .i64 1))), none⟩
 (.op ⟨some 11, .p (.mov (.tmp 30)), none⟩ .done)))))))))
 (.seq (.reg (.op ⟨some 31, .p (.mov (.tmp 3)), none⟩
 (.op ⟨some 32, .call 95 [.tmp 31], none⟩
 (.op ⟨some 2, .p (.mov (.tmp 32)), none⟩ .done))))
 (.ret))))⟩

theorem cF85 : compF Try.prog aF85.cfg.pm aF85.cfg.lz Try.f85 = some aF85 := by kernel_rfl
theorem kF85 : aF85.ok = true := by kernel_rfl

-- slices.ContainsFunc[[]decoupage/api.Node,decoupage/api.Node]
def aF86 : AFun := ⟨⟨9, [], false⟩, [.tmp 4],
 .seq (.reg (.op ⟨some 4, .p (.mov (.const (.bool false))), none⟩ .done))
 (.seq (.reg (.op ⟨some 5, .p (.mov (.tmp 0)), none⟩
 (.op ⟨some 6, .p (.mov (.tmp 1)), none⟩
 (.op ⟨some 7, .call 96 [.tmp 5, .tmp 6], none⟩
 (.op ⟨some 8, .p (.int2 .geq (.tmp 7) (.const (.int .i64 0))), none⟩
 (.op ⟨some 4, .p (.mov (.tmp 8)), none⟩ .done))))))
 (.ret))⟩

theorem cF86 : compF Try.prog aF86.cfg.pm aF86.cfg.lz Try.f86 = some aF86 := by kernel_rfl
theorem kF86 : aF86.ok = true := by kernel_rfl

-- decoupage/tree.Check$1
def aF87 : AFun := ⟨⟨7, [], false⟩, [.tmp 2],
 .seq (.reg (.op ⟨some 1, .h (.box (.tmp 0)), none⟩
 (.op ⟨some 2, .p (.mov (.const (.bool false))), none⟩ .done)))
 (.seq (.reg (.op ⟨some 3, .p (.fieldAddr 0 (.tmp 1)), none⟩
 (.op ⟨some 4, .h (.load 48 true (.tmp 3)), none⟩
 (.op ⟨some 5, .call 22 [.tmp 4], none⟩
 (.op ⟨some 6, .p (.un .not (.tmp 5)), none⟩
 (.op ⟨some 2, .p (.mov (.tmp 6)), none⟩ .done))))))
 (.ret))⟩

theorem cF87 : compF Try.prog aF87.cfg.pm aF87.cfg.lz Try.f87 = some aF87 := by kernel_rfl
theorem kF87 : aF87.ok = true := by kernel_rfl

-- decoupage/style.flags
def aF88 : AFun := ⟨⟨36, [], false⟩, [.tmp 2],
 .seq (.reg (.op ⟨some 1, .h (.box (.tmp 0)), none⟩
 (.op ⟨some 2, .p (.mov (.const (.int .u8 0))), none⟩ .done)))
 (.seq (.reg (.op ⟨some 6, .p (.fieldAddr 1 (.tmp 1)), none⟩
 (.op ⟨some 7, .h (.load 1 false (.tmp 6)), none⟩
 (.op ⟨some 8, .p (.int2 .mul (.const (.int .i64 2)) (.tmp 7)), none⟩
 (.op ⟨some 3, .p (.mov (.tmp 8)), none⟩ .done)))))
 (.seq (.seq (.reg (.op ⟨some 9, .p (.fieldAddr 0 (.tmp 1)), none⟩
 (.op ⟨some 10, .h (.load 1 false (.tmp 9)), none⟩
 (.op ⟨some 11, .p (.build [.bool false, .int .i64 0] [(0, 1, .tmp 10), (1, 1, .const (.int .i64 1))]), none⟩
 (.op ⟨some 12, .p (.fieldAddr 42 (.tmp 1)), none⟩
 (.op ⟨some 13, .h (.load 1 false (.tmp 12)), none⟩
 (.op ⟨some 14, .p (.build [.bool false, .int .i64 0] [(0, 1, .tmp 13), (1, 1, .const (.int .i64 8))]), none⟩
 (.op ⟨some 15, .p (.fieldAddr 43 (.tmp 1)), none⟩
 (.op ⟨some 16, .h (.load 1 false (.tmp 15)), none⟩
 (.op ⟨some 17, .p (.build [.bool false, .int .i64 0] [(0, 1, .tmp 16), (1, 1, .const (.int .i64 16))]), none⟩
 (.op ⟨some 18, .p (.fieldAddr 45 (.tmp 1)), none⟩
 (.op ⟨some 19, .h (.load 1 false (.tmp 18)), none⟩
 (.op ⟨some 20, .p (.build [.bool false, .int .i64 0] [(0, 1, .tmp 19), (1, 1, .const (.int .i64 32))]), none⟩
 (.op ⟨some 21, .h (.buildSlice 2 4 [.bool false, .int .i64 0, .bool false, .int .i64 0, .bool false, .int .i64 0, .bool false, .int .i64 0] [(0, 2, .tmp 11), (2, 2, .tmp 14), (4, 2, .tmp 17), (6, 2, .tmp 20)]), none⟩
 (.op ⟨some 22, .p (.lenS (.tmp 21)), none⟩
 (.op ⟨some 23, .p (.mov (.const (.int .i64 0))), none⟩ .done))))))))))))))))
 (.block 0 (.loop (.seq (.reg (.op ⟨some 24, .p (.int2 .lss (.tmp 23) (.tmp 22)), none⟩ .done))
 (.seq (.cond (.tmp 24) (.skip)
 (.exit 0))
 (.seq (.block 1 (.seq (.reg (.op ⟨some 25, .p (.idxS 2 (.tmp 21) (.tmp 23)), none⟩
 (.op ⟨some 26, .h (.load 2 true (.tmp 25)), none⟩
 (.op ⟨some 5, .h (.alloc [.bool false, .int .i64 0]), none⟩
 (.op ⟨none, .h (.store 2 (.tmp 5) (.tmp 26)), none⟩ .done)))))
 (.seq (.reg (.op ⟨some 27, .p (.fieldAddr 0 (.tmp 5)), none⟩
 (.op ⟨some 28, .h (.load 1 false (.tmp 27)), none⟩ .done)))
 (.cond (.tmp 28) (.reg (.op ⟨some 29, .p (.mov (.tmp 3)), none⟩
 (.op ⟨some 30, .p (.fieldAddr 1 (.tmp 5)), none⟩
 (.op ⟨some 31, .h (.load 1 false (.tmp 30)), none⟩
 (.op ⟨some 32, .p (.int2 .add (.tmp 29) (.tmp 31)), none⟩
 (.op ⟨some 3, .p (.mov (.tmp 32)), none⟩ .done))))))
 (.skip)))))
 (.reg (.op ⟨some 33, .p (.int2 .add (.tmp 23) (.const (.int .i64 1))), none⟩
 (.op ⟨some 23, .p (.mov (.tmp 33)), none⟩ .done)))))))))
 (.seq (.reg (.op ⟨some 34, .p (.mov (.tmp 3)), none⟩
 (.op ⟨some 35, .p (.conv .u8 (.tmp 34)), none⟩
 (.op ⟨some 2, .p (.mov (.tmp 35)), none⟩ .done))))
 (.ret))))⟩

theorem cF88 : compF Try.prog aF88.cfg.pm aF88.cfg.lz Try.f88 = some aF88 := by kernel_rfl
theorem kF88 : aF88.ok = true := by kernel_rfl

-- decoupage/tree.read
def aF89 : AFun := ⟨⟨41, [], false⟩, [.tmp 2, .tmp 3],
 .seq (.reg (.op ⟨some 2, .p (.mov (.const (.slice none 0 0))), none⟩
 (.op ⟨some 3, .p (.mov (.const (.bool false))), none⟩ .done)))
 (.seq (.reg (.op ⟨some 7, .p (.mov (.tmp 0)), none⟩
 (.op ⟨some 8, .call 36 [.tmp 7], none⟩
 (.op ⟨some 4, .p (.mov (.tmp 8)), none⟩ .done))))
 (.seq (.reg (.op ⟨some 5, .p (.mov (.const (.slice none 0 0))), none⟩ .done))
 (.seq (.seq (.reg (.op ⟨some 9, .p (.mov (.tmp 4)), none⟩
 (.op ⟨some 10, .p (.mov (.const (.int .u32 0))), none⟩ .done)))
 (.block 0 (.loop (.seq (.reg (.op ⟨some 11, .p (.int2 .lss (.tmp 10) (.tmp 9)), none⟩ .done))
 (.seq (.cond (.tmp 11) (.skip)
 (.exit 0))
 (.seq (.block 1 (.seq (.reg (.op ⟨some 6, .p (.mov (.const (.int .i64 (-1)))), none⟩ .done))
 (.seq (.seq (.reg (.op ⟨some 12, .p (.mov (.tmp 5)), none⟩
 (.op ⟨some 13, .p (.lenS (.tmp 12)), none⟩
 (.op ⟨some 14, .p (.int2 .gtr (.tmp 13) (.const (.int .i64 0))), none⟩ .done))))
 (.cond (.tmp 14) (.seq (.reg (.op ⟨some 15, .p (.mov (.tmp 5)), none⟩
 (.op ⟨some 16, .p (.mov (.tmp 5)), none⟩
 (.op ⟨some 17, .p (.lenS (.tmp 16)), none⟩
 (.op ⟨some 18, .p (.int2 .sub (.tmp 17) (.const (.int .i64 1))), none⟩
 (.op ⟨some 19, .p (.mov (.tmp 0)), none⟩
 (.op ⟨some 20, .call 36 [.tmp 19], none⟩
 (.op ⟨some 21, .call 97 [.tmp 15, .tmp 18, .tmp 20], none⟩
 (.op ⟨some 6, .p (.mov (.tmp 21)), none⟩ .done)))))))))
 (.seq (.reg (.op ⟨some 22, .p (.mov (.tmp 6)), none⟩
 (.op ⟨some 23, .p (.int2 .lss (.tmp 22) (.const (.int .i64 0))), none⟩ .done)))
 (.cond (.tmp 23) (.seq (.reg (.op ⟨some 2, .p (.mov (.const (.slice none 0 0))), none⟩
 (.op ⟨some 3, .p (.mov (.const (.bool false))), none⟩ .done)))
 (.ret))
 (.skip))))
 (.skip)))
 (.seq (.reg (.op ⟨some 24, .p (.mov (.tmp 5)), none⟩
 (.op ⟨some 25, .p (.mov (.tmp 0)), none⟩
 (.op ⟨some 26, .call 40 [.tmp 25], none⟩
 (.op ⟨some 27, .p (.mov (.tmp 6)), none⟩
 (.op ⟨some 28, .p (.build [.bool false, .int .i64 0, .int .i64 0, .int .i64 0, .int .i64 0, .int .i64 0, .int .i64 0, .int .i64 0, .int .i64 0, .int .i64 0, .int .i64 0, .int .i64 0, .int .i64 0, .int .i64 0, .int .i64 0, .int .i64 0, .int .i64 0, .int .i64 0, .int .i64 0, .int .i64 0, .int .i64 0, .int .i64 0, .int .i64 0, .int .i64 0, .int .i64 0, .int .i64 0, .int .i64 0, .int .i64 0, .int .i64 0, .int .i64 0, .int .i64 0, .int .i64 0, .int .i64 0, .int .i64 0, .int .i64 0, .int .i64 0, .int .i64 0, .int .i64 0, .int .i64 0, .int .i64 0, .int .i64 0, .int .i64 0, .bool false, .bool false, .int .i64 0, .bool false, .int .i64 0, .int .i64 0, .int .i64 0] [(0, 48, .tmp 26), (48, 1, .tmp 27)]), none⟩
 (.op ⟨some 29, .h (.buildSlice 49 1 [.bool false, .int .i64 0, .int .i64 0, .int .i64 0, .int .i64 0, .int .i64 0, .int .i64 0, .int .i64 0, .int .i64 0, .int .i64 0, .int .i64 0, .int .i64 0, .int .i64 0, .int .i64 0, .int .i64 0, .int .i64 0, .int .i64 0, .int .i64 0, .int .i64 0, .int .i64 0, .int .i64 0, .int .i64 0, .int .i64 0, .int .i64 0, .int .i64 0, .int .i64 0, .int .i64 0, .int .i64 0, .int .i64 0, .int .i64 0, .int .i64 0, .int .i64 0, .int .i64 0, .int .i64 0, .int .i64 0, .int .i64 0, .int .i64 0, .int .i64 0, .int .i64 0, .int .i64 0, .int .i64 0, .int .i64 0, .bool false, .bool false, .int .i64 0, .bool false, .int .i64 0, .int .i64 0, .int .i64 0] [(0, 49, .tmp 28)]), none⟩
 (.op ⟨some 30, .h (.append 49 384 (.tmp 24) (.tmp 29)), none⟩
 (.op ⟨some 5, .p (.mov (.tmp 30)), none⟩ .done)))))))))
 (.seq (.reg (.op ⟨some 31, .p (.mov (.tmp 0)), none⟩
 (.op ⟨some 32, .call 34 [.tmp 31], none⟩ .done)))
 (.cond (.tmp 32) (.seq (.reg (.op ⟨some 2, .p (.mov (.const (.slice none 0 0))), none⟩
 (.op ⟨some 3, .p (.mov (.const (.bool false))), none⟩ .done)))
 (.ret))
 (.skip)))))))
 (.reg (.op ⟨some 33, .p (.int2 .add (.tmp 10) (.const (.int .u32 1))), none⟩
 (.op ⟨some 10, .p (.mov (.tmp 33)), none⟩ .done)))))))))
 (.seq (.reg (.op ⟨some 34, .p (.mov (.tmp 5)), none⟩
 (.op ⟨some 35, .p (.mov (.tmp 0)), none⟩
 (.op ⟨some 36, .call 33 [.tmp 35], none⟩
 (.op ⟨some 37, .p (.mov (.tmp 36)), none⟩
 (.op ⟨some 38, .p (.mov (.tmp 4)), some (37, true)⟩
 (.op ⟨some 39, .p (.int2 .gtr (.tmp 38) (.const (.int .u32 0))), some (37, true)⟩
 (.op ⟨some 40, .p (.pick (.tmp 37) (.tmp 39) (.const (.bool false))), none⟩
 (.op ⟨some 2, .p (.mov (.tmp 34)), none⟩
 (.op ⟨some 3, .p (.mov (.tmp 40)), none⟩ .done))))))))))
 (.ret)))))⟩

theorem cF89 : compF Try.prog aF89.cfg.pm aF89.cfg.lz Try.f89 = some aF89 := by kernel_rfl
theorem kF89 : aF89.ok = true := by kernel_rfl

-- slices.Equal[[]decoupage/api.Node,decoupage/api.Node]
def aF90 : AFun := ⟨⟨26, [], false⟩, [.tmp 4],
 .seq (.reg (.op ⟨some 4, .p (.mov (.const (.bool false))), none⟩ .done))
 (.seq (.seq (.reg (.op ⟨some 6, .p (.mov (.tmp 0)), none⟩
 (.op ⟨some 7, .p (.lenS (.tmp 6)), none⟩
 (.op ⟨some 8, .p (.mov (.tmp 1)), none⟩
 (.op ⟨some 9, .p (.lenS (.tmp 8)), none⟩
 (.op ⟨some 10, .p (.int2 .neq (.tmp 7) (.tmp 9)), none⟩ .done))))))
 (.cond (.tmp 10) (.seq (.reg (.op ⟨some 4, .p (.mov (.const (.bool false))), none⟩ .done))
 (.ret))
 (.skip)))
 (.seq (.seq (.reg (.op ⟨some 11, .p (.mov (.tmp 0)), none⟩
 (.op ⟨some 12, .p (.lenS (.tmp 11)), none⟩
 (.op ⟨some 13, .p (.mov (.const (.int .i64 0))), none⟩ .done))))
 (.block 0 (.loop (.seq (.reg (.op ⟨some 14, .p (.int2 .lss (.tmp 13) (.tmp 12)), none⟩ .done))
 (.seq (.cond (.tmp 14) (.skip)
 (.exit 0))
 (.seq (.block 1 (.seq (.reg (.op ⟨some 15, .p (.mov (.tmp 13)), none⟩
 (.op ⟨some 5, .p (.mov (.tmp 15)), none⟩ .done)))
 (.seq (.reg (.op ⟨some 16, .p (.mov (.tmp 0)), none⟩
 (.op ⟨some 17, .p (.mov (.tmp 5)), none⟩
 (.op ⟨some 18, .p (.idxS 49 (.tmp 16) (.tmp 17)), none⟩
 (.op ⟨some 20, .p (.mov (.tmp 1)), none⟩
 (.op ⟨some 21, .p (.mov (.tmp 5)), none⟩
 (.op ⟨some 22, .p (.idxS 49 (.tmp 20) (.tmp 21)), none⟩
 (.both (.op ⟨some 19, .h (.load 49 true (.tmp 18)), none⟩
 (.op ⟨some 23, .h (.load 49 true (.tmp 22)), none⟩
 (.op ⟨some 24, .p (.eqa [false, true, true, true, true, true, true, true, true, true, true, true, true, true, true, true, true, true, true, true, true, true, true, true, true, true, true, true, true, true, true, true, true, true, true, true, true, true, true, true, true, true, false, false, true, false, true, true, true] true (.tmp 19) (.tmp 23)), none⟩
 (.done))))
 (.op ⟨some 23, .h (.load 49 true (.tmp 22)), none⟩
 (.op ⟨some 19, .h (.load 49 true (.tmp 18)), none⟩
 (.op ⟨some 24, .p (.eqa [false, true, true, true, true, true, true, true, true, true, true, true, true, true, true, true, true, true, true, true, true, true, true, true, true, true, true, true, true, true, true, true, true, true, true, true, true, true, true, true, true, true, false, false, true, false, true, true, true] true (.tmp 19) (.tmp 23)), none⟩
 (.done))))))))))))
 (.cond (.tmp 24) (.seq (.reg (.op ⟨some 4, .p (.mov (.const (.bool false))), none⟩ .done))
 (.ret))
 (.skip)))))
 (.reg (.op ⟨some 25, .p (.int2 .add (.tmp 13) (.const (.int .i64 1))), none⟩
 (.op ⟨some 13, .p (.mov (.tmp 25)), none⟩ .done)))))))))
 (.seq (.reg (.op ⟨some 4, .p (.mov (.const (.bool true))), none⟩ .done))
 (.ret))))⟩

theorem cF90 : compF Try.prog aF90.cfg.pm aF90.cfg.lz Try.f90 = some aF90 := by kernel_rfl
theorem kF90 : aF90.ok = true := by kernel_rfl

-- decoupage/style.lengths$1
def aF91 : AFun := ⟨⟨15, [], false⟩, [],
 .seq (.reg (.op ⟨some 4, .p (.mov (.const (.int .i64 0))), none⟩ .done))
 (.block 0 (.loop (.seq (.reg (.op ⟨some 5, .p (.int2 .lss (.tmp 4) (.const (.int .i64 4))), none⟩ .done))
 (.seq (.cond (.tmp 5) (.skip)
 (.exit 0))
 (.seq (.block 1 (.seq (.reg (.op ⟨some 6, .p (.mov (.tmp 4)), none⟩
 (.op ⟨some 3, .p (.mov (.tmp 6)), none⟩ .done)))
 (.reg (.op ⟨some 8, .p (.mov (.tmp 0)), none⟩
 (.op ⟨some 9, .p (.mov (.tmp 3)), none⟩
 (.op ⟨some 10, .p (.nilchk (.tmp 8)), none⟩
 (.op ⟨some 11, .p (.idxA 4 2 (.tmp 10) (.tmp 9)), none⟩
 (.both (.op ⟨some 7, .h (.load 1 false (.tmp 1)), none⟩
 (.op ⟨some 12, .h (.buildSlice 1 1 [.pointer none] [(0, 1, .tmp 11)]), none⟩
 (.op ⟨some 13, .h (.append 1 8 (.tmp 7) (.tmp 12)), none⟩
 (.op ⟨none, .h (.store 1 (.tmp 1) (.tmp 13)), none⟩
 (.done)))))
 (.op ⟨some 12, .h (.buildSlice 1 1 [.pointer none] [(0, 1, .tmp 11)]), none⟩
 (.op ⟨some 7, .h (.load 1 false (.tmp 1)), none⟩
 (.op ⟨some 13, .h (.append 1 8 (.tmp 7) (.tmp 12)), none⟩
 (.op ⟨none, .h (.store 1 (.tmp 1) (.tmp 13)), none⟩
 (.done)))))))))))))
 (.reg (.op ⟨some 14, .p (.int2 .add (.tmp 4) (.const (.int .i64 1))), none⟩
 (.op ⟨some 4, .p (.mov (.tmp 14)), none⟩ .done))))))))⟩

theorem cF91 : compF Try.prog aF91.cfg.pm aF91.cfg.lz Try.f91 = some aF91 := by kernel_rfl
theorem kF91 : aF91.ok = true := by kernel_rfl

-- decoupage/fix.Fits
def aF92 : AFun := ⟨⟨9, [], false⟩, [.tmp 2],
 .seq (.reg (.op ⟨some 2, .p (.mov (.const (.bool false))), none⟩ .done))
 (.seq (.reg (.op ⟨some 3, .p (.mov (.tmp 0)), none⟩
 (.op ⟨some 4, .p (.int2 .geq (.tmp 3) (.const (.int .i64 (-1125899906842624)))), none⟩
 (.op ⟨some 5, .p (.mov (.tmp 4)), none⟩
 (.op ⟨some 6, .p (.mov (.tmp 0)), some (5, true)⟩
 (.op ⟨some 7, .p (.int2 .leq (.tmp 6) (.const (.int .i64 1125899906842624))), some (5, true)⟩
 (.op ⟨some 8, .p (.pick (.tmp 5) (.tmp 7) (.const (.bool false))), none⟩
 (.op ⟨some 2, .p (.mov (.tmp 8)), none⟩ .done))))))))
 (.ret))⟩

theorem cF92 : compF Try.prog aF92.cfg.pm aF92.cfg.lz Try.f92 = some aF92 := by kernel_rfl
theorem kF92 : aF92.ok = true := by kernel_rfl

-- slices.IndexFunc[[]decoupage/api.Item,decoupage/api.Item]
def aF93 : AFun := ⟨⟨19, [], false⟩, [.tmp 4],
 .seq (.reg (.op ⟨some 4, .p (.mov (.const (.int .i64 0))), none⟩ .done))
 (.seq (.seq (.reg (.op ⟨some 6, .p (.mov (.tmp 0)), none⟩
 (.op ⟨some 7, .p (.lenS (.tmp 6)), none⟩
 (.op ⟨some 8, .p (.mov (.const (.int .i64 0))), none⟩ .done))))
 (.block 0 (.loop (.seq (.reg (.op ⟨some 9, .p (.int2 .lss (.tmp 8) (.tmp 7)), none⟩ .done))
 (.seq (.cond (.tmp 9) (.skip)
 (.exit 0))
 (.seq (.block 1 (.seq (.reg (.op ⟨some 10, .p (.mov (.tmp 8)), none⟩
 (.op ⟨some 5, .p (.mov (.tmp 10)), none⟩ .done)))
 (.seq (.reg (.op ⟨some 11, .p (.mov (.tmp 1)), none⟩
 (.op ⟨some 12, .p (.mov (.tmp 0)), none⟩
 (.op ⟨some 13, .p (.mov (.tmp 5)), none⟩
 (.op ⟨some 14, .p (.idxS 15 (.tmp 12) (.tmp 13)), none⟩
 (.op ⟨some 15, .h (.load 15 true (.tmp 14)), none⟩
 (.op ⟨some 16, .callv (.tmp 11) [.tmp 15], none⟩ .done)))))))
 (.cond (.tmp 16) (.seq (.reg (.op ⟨some 17, .p (.mov (.tmp 5)), none⟩
 (.op ⟨some 4, .p (.mov (.tmp 17)), none⟩ .done)))
 (.ret))
 (.skip)))))
 (.reg (.op ⟨some 18, .p (.int2 .add (.tmp 8) (.const (.int .i64 1))), none⟩
 (.op ⟨some 8, .p (.mov (.tmp 18)), none⟩ .done)))))))))
 (.seq (.reg (.op ⟨some 4, .p (.mov (.const (.int .i64 (-1)))), none⟩ .done))
 (.ret)))⟩

theorem cF93 : compF Try.prog aF93.cfg.pm aF93.cfg.lz Try.f93 = some aF93 := by kernel_rfl
theorem kF93 : aF93.ok = true := by kernel_rfl

-- decoupage/decoupageref07.Above
def aF94 : AFun := ⟨⟨17, [], false⟩, [.tmp 6],
 .seq (.reg (.op ⟨some 6, .p (.mov (.const (.bool false))), none⟩ .done))
 (.seq (.block 0 (.loop (.seq (.seq (.reg (.op ⟨some 7, .p (.mov (.tmp 2)), none⟩
 (.op ⟨some 8, .p (.int2 .geq (.tmp 7) (.const (.int .i64 0))), none⟩ .done)))
 (.cond (.tmp 8) (.skip)
 (.exit 0)))
 (.block 1 (.seq (.seq (.reg (.op ⟨some 9, .p (.mov (.tmp 2)), none⟩
 (.op ⟨some 10, .p (.mov (.tmp 1)), none⟩
 (.op ⟨some 11, .p (.int2 .eql (.tmp 9) (.tmp 10)), none⟩ .done))))
 (.cond (.tmp 11) (.seq (.reg (.op ⟨some 6, .p (.mov (.const (.bool true))), none⟩ .done))
 (.ret))
 (.skip)))
 (.reg (.op ⟨some 12, .p (.mov (.tmp 0)), none⟩
 (.op ⟨some 13, .p (.mov (.tmp 2)), none⟩
 (.op ⟨some 14, .p (.idxS 49 (.tmp 12) (.tmp 13)), none⟩
 (.op ⟨some 15, .p (.fieldAddr 48 (.tmp 14)), none⟩
 (.op ⟨some 16, .h (.load 1 false (.tmp 15)), none⟩
 (.op ⟨some 2, .p (.mov (.tmp 16)), none⟩ .done))))))))))))
 (.seq (.reg (.op ⟨some 6, .p (.mov (.const (.bool false))), none⟩ .done))
 (.ret)))⟩

theorem cF94 : compF Try.prog aF94.cfg.pm aF94.cfg.lz Try.f94 = some aF94 := by kernel_rfl
theorem kF94 : aF94.ok = true := by kernel_rfl

-- slices.Max[[]int,int]
def aF95 : AFun := ⟨⟨25, [], false⟩, [.tmp 2],
 .seq (.reg (.op ⟨some 2, .p (.mov (.const (.int .i64 0))), none⟩ .done))
 (.seq (.seq (.reg (.op ⟨some 5, .p (.mov (.tmp 0)), none⟩
 (.op ⟨some 6, .p (.lenS (.tmp 5)), none⟩
 (.op ⟨some 7, .p (.int2 .lss (.tmp 6) (.const (.int .i64 1))), none⟩ .done))))
 (.cond (.tmp 7) (.reg (.op ⟨some 8, .bad, none⟩
 (.op ⟨none, .bad, none⟩ .done)))
 (.skip)))
 (.seq (.reg (.op ⟨some 9, .p (.mov (.tmp 0)), none⟩
 (.op ⟨some 10, .p (.idxS 1 (.tmp 9) (.const (.int .i64 0))), none⟩
 (.op ⟨some 11, .h (.load 1 false (.tmp 10)), none⟩
 (.op ⟨some 3, .p (.mov (.tmp 11)), none⟩ .done)))))
 (.seq (.seq (.reg (.op ⟨some 4, .p (.mov (.const (.int .i64 1))), none⟩ .done))
 (.block 0 (.loop (.seq (.seq (.reg (.op ⟨some 12, .p (.mov (.tmp 4)), none⟩
 (.op ⟨some 13, .p (.mov (.tmp 0)), none⟩
 (.op ⟨some 14, .p (.lenS (.tmp 13)), none⟩
 (.op ⟨some 15, .p (.int2 .lss (.tmp 12) (.tmp 14)), none⟩ .done)))))
 (.cond (.tmp 15) (.skip)
 (.exit 0)))
 (.seq (.block 1 (.reg (.op ⟨some 18, .p (.mov (.tmp 3)), none⟩
 (.op ⟨some 19, .p (.mov (.tmp 0)), none⟩
 (.op ⟨some 20, .p (.mov (.tmp 4)), none⟩
 (.op ⟨some 21, .p (.idxS 1 (.tmp 19) (.tmp 20)), none⟩
 (.op ⟨some 22, .h (.load 1 false (.tmp 21)), none⟩
 (.op ⟨some 23, .p (.minmax true (.tmp 18) (.tmp 22)), none⟩
 (.op ⟨some 3, .p (.mov (.tmp 23)), none⟩ .done)))))))))
 (.reg (.op ⟨some 16, .p (.mov (.tmp 4)), none⟩
 (.op ⟨some 17, .p (.int2 .add (.tmp 16) (.const (.int .i64 1))), none⟩
 (.op ⟨some 4, .p (.mov (.tmp 17)), none⟩ .done)))))))))
 (.seq (.reg (.op ⟨some 24, .p (.mov (.tmp 3)), none⟩
 (.op ⟨some 2, .p (.mov (.tmp 24)), none⟩ .done)))
 (.ret)))))⟩

theorem cF95 : compF Try.prog aF95.cfg.pm aF95.cfg.lz Try.f95 = some aF95 := by kernel_rfl
theorem kF95 : aF95.ok = true := by kernel_rfl

-- slices.IndexFunc[[]decoupage/api.Node,decoupage/api.Node]
def aF96 : AFun := ⟨⟨19, [], false⟩, [.tmp 4],
 .seq (.reg (.op ⟨some 4, .p (.mov (.const (.int .i64 0))), none⟩ .done))
 (.seq (.seq (.reg (.op ⟨some 6, .p (.mov (.tmp 0)), none⟩
 (.op ⟨some 7, .p (.lenS (.tmp 6)), none⟩
 (.op ⟨some 8, .p (.mov (.const (.int .i64 0))), none⟩ .done))))
 (.block 0 (.loop (.seq (.reg (.op ⟨some 9, .p (.int2 .lss (.tmp 8) (.tmp 7)), none⟩ .done))
 (.seq (.cond (.tmp 9) (.skip)
 (.exit 0))
 (.seq (.block 1 (.seq (.reg (.op ⟨some 10, .p (.mov (.tmp 8)), none⟩
 (.op ⟨some 5, .p (.mov (.tmp 10)), none⟩ .done)))
 (.seq (.reg (.op ⟨some 11, .p (.mov (.tmp 1)), none⟩
 (.op ⟨some 12, .p (.mov (.tmp 0)), none⟩
 (.op ⟨some 13, .p (.mov (.tmp 5)), none⟩
 (.op ⟨some 14, .p (.idxS 49 (.tmp 12) (.tmp 13)), none⟩
 (.op ⟨some 15, .h (.load 49 true (.tmp 14)), none⟩
 (.op ⟨some 16, .callv (.tmp 11) [.tmp 15], none⟩ .done)))))))
 (.cond (.tmp 16) (.seq (.reg (.op ⟨some 17, .p (.mov (.tmp 5)), none⟩
 (.op ⟨some 4, .p (.mov (.tmp 17)), none⟩ .done)))
 (.ret))
 (.skip)))))
 (.reg (.op ⟨some 18, .p (.int2 .add (.tmp 8) (.const (.int .i64 1))), none⟩
 (.op ⟨some 8, .p (.mov (.tmp 18)), none⟩ .done)))))))))
 (.seq (.reg (.op ⟨some 4, .p (.mov (.const (.int .i64 (-1)))), none⟩ .done))
 (.ret)))⟩

theorem cF96 : compF Try.prog aF96.cfg.pm aF96.cfg.lz Try.f96 = some aF96 := by kernel_rfl
theorem kF96 : aF96.ok = true := by kernel_rfl

-- decoupage/tree.parent
def aF97 : AFun := ⟨⟨21, [], false⟩, [.tmp 6],
 .seq (.reg (.op ⟨some 6, .p (.mov (.const (.int .i64 0))), none⟩ .done))
 (.seq (.block 0 (.loop (.seq (.seq (.reg (.op ⟨some 7, .p (.mov (.tmp 2)), none⟩
 (.op ⟨some 8, .p (.int2 .gtr (.tmp 7) (.const (.int .u32 0))), none⟩
 (.op ⟨some 9, .p (.mov (.tmp 8)), none⟩
 (.op ⟨some 10, .p (.mov (.tmp 1)), some (9, true)⟩
 (.op ⟨some 11, .p (.int2 .geq (.tmp 10) (.const (.int .i64 0))), some (9, true)⟩
 (.op ⟨some 12, .p (.pick (.tmp 9) (.tmp 11) (.const (.bool false))), none⟩ .done)))))))
 (.cond (.tmp 12) (.skip)
 (.exit 0)))
 (.seq (.block 1 (.reg (.op ⟨some 15, .p (.mov (.tmp 0)), none⟩
 (.op ⟨some 16, .p (.mov (.tmp 1)), none⟩
 (.op ⟨some 17, .p (.idxS 49 (.tmp 15) (.tmp 16)), none⟩
 (.op ⟨some 18, .p (.fieldAddr 48 (.tmp 17)), none⟩
 (.op ⟨some 19, .h (.load 1 false (.tmp 18)), none⟩
 (.op ⟨some 1, .p (.mov (.tmp 19)), none⟩ .done))))))))
 (.reg (.op ⟨some 13, .p (.mov (.tmp 2)), none⟩
 (.op ⟨some 14, .p (.int2 .sub (.tmp 13) (.const (.int .u32 1))), none⟩
 (.op ⟨some 2, .p (.mov (.tmp 14)), none⟩ .done))))))))
 (.seq (.reg (.op ⟨some 20, .p (.mov (.tmp 1)), none⟩
 (.op ⟨some 6, .p (.mov (.tmp 20)), none⟩ .done)))
 (.ret)))⟩

theorem cF97 : compF Try.prog aF97.cfg.pm aF97.cfg.lz Try.f97 = some aF97 := by kernel_rfl
theorem kF97 : aF97.ok = true := by kernel_rfl

end Go.Proofs.Ytbgnaeagdneikaa
