/- The compiled code of functions of the seat, printed by a program of mine (gen.py), checked by the kernel. -/
import Derived.Test.YtbgnaeagdneikaaCoreAi
import Derived.Test.YtbgnaeagdneikaaProg
import Derived.KernelRfl
namespace Go.Proofs.Ytbgnaeagdneikaa
open Go Go.Proofs.Ytbgnaeagdneikaa.Abs
set_option maxRecDepth 100000

-- decoupage/decoupageref25.Same
def aF48 : AFun := ⟨⟨26, [], false⟩, [.tmp 4],
 .seq (.reg (.op ⟨some 4, .p (.mov (.const (.bool false))), none⟩ .done))
 (.seq (.seq (.reg (.op ⟨some 6, .p (.mov (.tmp 0)), none⟩
 (.op ⟨some 7, .p (.lenS (.tmp 6)), none⟩
 (.op ⟨some 8, .p (.mov (.tmp 1)), none⟩
 (.op ⟨some 9, .p (.lenS (.tmp 8)), none⟩
 (.op ⟨some 10, .p (.int2 .neq (.tmp 7) (.tmp 9)), none⟩ .done))))))
 (.cond (.tmp 10) (.seq (.reg (.op ⟨some 4, .p (.mov (.const (.bool false))), none⟩ .done))
 (.ret))
 (.skip)))
 (.seq (.seq (.reg (.op ⟨some 11, .p (.mov (.tmp 0)), none⟩
 (.op ⟨some 12, .p (.lenS (.tmp 11)), none⟩
 (.op ⟨some 13, .p (.mov (.const (.int .i64 0))), none⟩ .done))))
 (.block 0 (.loop (.seq (.reg (.op ⟨some 14, .p (.int2 .lss (.tmp 13) (.tmp 12)), none⟩ .done))
 (.seq (.cond (.tmp 14) (.skip)
 (.exit 0))
 (.seq (.block 1 (.seq (.reg (.op ⟨some 15, .p (.mov (.tmp 13)), none⟩
 (.op ⟨some 5, .p (.mov (.tmp 15)), none⟩ .done)))
 (.seq (.reg (.op ⟨some 16, .p (.mov (.tmp 0)), none⟩
 (.op ⟨some 17, .p (.mov (.tmp 5)), none⟩
 (.op ⟨some 18, .p (.idxS 15 (.tmp 16) (.tmp 17)), none⟩
 (.op ⟨some 20, .p (.mov (.tmp 1)), none⟩
 (.op ⟨some 21, .p (.mov (.tmp 5)), none⟩
 (.op ⟨some 22, .p (.idxS 15 (.tmp 20) (.tmp 21)), none⟩
 (.both (.op ⟨some 19, .h (.load 15 true (.tmp 18)), none⟩
 (.op ⟨some 23, .h (.load 15 true (.tmp 22)), none⟩
 (.op ⟨some 24, .p (.eqa [true, true, true, true, true, true, true, true, true, true, true, true, true, true, true] true (.tmp 19) (.tmp 23)), none⟩
 (.done))))
 (.op ⟨some 23, .h (.load 15 true (.tmp 22)), none⟩
 (.op ⟨some 19, .h (.load 15 true (.tmp 18)), none⟩
 (.op ⟨some 24, .p (.eqa [true, true, true, true, true, true, true, true, true, true, true, true, true, true, true] true (.tmp 19) (.tmp 23)), none⟩
 (.done))))))))))))
 (.cond (.tmp 24) (.seq (.reg (.op ⟨some 4, .p (.mov (.const (.bool false))), none⟩ .done))
 (.ret))
 (.skip)))))
 (.reg (.op ⟨some 25, .p (.int2 .add (.tmp 13) (.const (.int .i64 1))), none⟩
 (.op ⟨some 13, .p (.mov (.tmp 25)), none⟩ .done)))))))))
 (.seq (.reg (.op ⟨some 4, .p (.mov (.const (.bool true))), none⟩ .done))
 (.ret))))⟩

theorem cF48 : compF Try.prog aF48.cfg.pm aF48.cfg.lz Try.f48 = some aF48 := by kernel_rfl
theorem kF48 : aF48.ok = true := by kernel_rfl

-- decoupage/decoupageref05.Number
def aF49 : AFun := ⟨⟨17, [], false⟩, [.tmp 4],
 .seq (.reg (.op ⟨some 4, .p (.mov (.const (.slice none 0 0))), none⟩ .done))
 (.seq (.seq (.reg (.op ⟨some 5, .p (.mov (.tmp 1)), none⟩
 (.op ⟨some 6, .p (.int2 .eql (.tmp 5) (.const (.int .i64 0))), none⟩ .done)))
 (.cond (.tmp 6) (.seq (.reg (.op ⟨some 4, .p (.mov (.const (.slice none 0 0))), none⟩ .done))
 (.ret))
 (.skip)))
 (.seq (.reg (.op ⟨some 7, .p (.mov (.tmp 0)), none⟩
 (.op ⟨some 8, .p (.int2 .quo (.tmp 7) (.const (.int .u64 256))), none⟩
 (.op ⟨some 9, .p (.mov (.tmp 1)), none⟩
 (.op ⟨some 10, .p (.int2 .sub (.tmp 9) (.const (.int .i64 1))), none⟩
 (.op ⟨some 11, .call 49 [.tmp 8, .tmp 10], none⟩
 (.op ⟨some 12, .p (.mov (.tmp 0)), none⟩
 (.op ⟨some 13, .p (.int2 .rem (.tmp 12) (.const (.int .u64 256))), none⟩
 (.op ⟨some 14, .p (.conv .u8 (.tmp 13)), none⟩
 (.op ⟨some 15, .h (.buildSlice 1 1 [.int .u8 0] [(0, 1, .tmp 14)]), none⟩
 (.op ⟨some 16, .h (.append 1 1 (.tmp 11) (.tmp 15)), none⟩
 (.op ⟨some 4, .p (.mov (.tmp 16)), none⟩ .done))))))))))))
 (.ret)))⟩

theorem cF49 : compF Try.prog aF49.cfg.pm aF49.cfg.lz Try.f49 = some aF49 := by kernel_rfl
theorem kF49 : aF49.ok = true := by kernel_rfl

-- decoupage/decoupagelaw07.awake
def aF50 : AFun := ⟨⟨16, [], false⟩, [.tmp 0],
 .seq (.reg (.op ⟨some 0, .p (.mov (.const (.bool false))), none⟩ .done))
 (.seq (.reg (.op ⟨some 2, .call 55 [], none⟩
 (.op ⟨some 3, .p (.build [.bool false, .int .i64 0, .int .i64 0, .int .i64 0, .int .i64 0, .int .i64 0, .int .i64 0, .int .i64 0, .int .i64 0, .int .i64 0, .int .i64 0, .int .i64 0, .int .i64 0, .int .i64 0, .int .i64 0, .int .i64 0, .int .i64 0, .int .i64 0, .int .i64 0, .int .i64 0, .int .i64 0, .int .i64 0, .int .i64 0, .int .i64 0, .int .i64 0, .int .i64 0, .int .i64 0, .int .i64 0, .int .i64 0, .int .i64 0, .int .i64 0, .int .i64 0, .int .i64 0, .int .i64 0, .int .i64 0, .int .i64 0, .int .i64 0, .int .i64 0, .int .i64 0, .int .i64 0, .int .i64 0, .int .i64 0, .bool false, .bool false, .int .i64 0, .bool false, .int .i64 0, .int .i64 0, .int .i64 0] [(0, 48, .tmp 2), (48, 1, .const (.int .i64 (-1)))]), none⟩
 (.op ⟨some 4, .h (.buildSlice 49 1 [.bool false, .int .i64 0, .int .i64 0, .int .i64 0, .int .i64 0, .int .i64 0, .int .i64 0, .int .i64 0, .int .i64 0, .int .i64 0, .int .i64 0, .int .i64 0, .int .i64 0, .int .i64 0, .int .i64 0, .int .i64 0, .int .i64 0, .int .i64 0, .int .i64 0, .int .i64 0, .int .i64 0, .int .i64 0, .int .i64 0, .int .i64 0, .int .i64 0, .int .i64 0, .int .i64 0, .int .i64 0, .int .i64 0, .int .i64 0, .int .i64 0, .int .i64 0, .int .i64 0, .int .i64 0, .int .i64 0, .int .i64 0, .int .i64 0, .int .i64 0, .int .i64 0, .int .i64 0, .int .i64 0, .int .i64 0, .bool false, .bool false, .int .i64 0, .bool false, .int .i64 0, .int .i64 0, .int .i64 0] [(0, 49, .tmp 3)]), none⟩
 (.op ⟨some 1, .p (.mov (.tmp 4)), none⟩ .done)))))
 (.seq (.reg (.op ⟨some 5, .p (.mov (.tmp 1)), none⟩
 (.op ⟨some 6, .call 51 [.tmp 5], none⟩
 (.op ⟨some 7, .p (.mov (.tmp 6)), none⟩
 (.op ⟨some 8, .call 53 [.const (.slice none 0 0)], some (7, true)⟩
 (.op ⟨some 9, .p (.int2 .eql (.tmp 8) (.const (.int .i64 2))), some (7, true)⟩
 (.op ⟨some 10, .p (.pick (.tmp 7) (.tmp 9) (.const (.bool false))), none⟩
 (.op ⟨some 11, .p (.mov (.tmp 10)), none⟩
 (.op ⟨some 12, .p (.mov (.tmp 1)), some (11, true)⟩
 (.op ⟨some 13, .p (.mov (.tmp 1)), some (11, true)⟩
 (.op ⟨some 14, .call 63 [.tmp 12, .tmp 13], some (11, true)⟩
 (.op ⟨some 15, .p (.pick (.tmp 11) (.tmp 14) (.const (.bool false))), none⟩
 (.op ⟨some 0, .p (.mov (.tmp 15)), none⟩ .done)))))))))))))
 (.ret)))⟩

theorem cF50 : compF Try.prog aF50.cfg.pm aF50.cfg.lz Try.f50 = some aF50 := by kernel_rfl
theorem kF50 : aF50.ok = true := by kernel_rfl

-- decoupage/tree.Formed
def aF51 : AFun := ⟨⟨39, [], false⟩, [.tmp 2],
 .seq (.reg (.op ⟨some 2, .p (.mov (.const (.bool false))), none⟩ .done))
 (.seq (.seq (.reg (.op ⟨some 6, .p (.mov (.tmp 0)), none⟩
 (.op ⟨some 7, .p (.lenS (.tmp 6)), none⟩
 (.op ⟨some 8, .p (.int2 .eql (.tmp 7) (.const (.int .i64 0))), none⟩
 (.op ⟨some 9, .p (.mov (.tmp 8)), none⟩
 (.op ⟨some 10, .p (.mov (.tmp 0)), some (9, false)⟩
 (.op ⟨some 11, .p (.idxS 49 (.tmp 10) (.const (.int .i64 0))), some (9, false)⟩
 (.op ⟨some 12, .p (.fieldAddr 48 (.tmp 11)), some (9, false)⟩
 (.op ⟨some 13, .h (.load 1 false (.tmp 12)), some (9, false)⟩
 (.op ⟨some 14, .p (.int2 .neq (.tmp 13) (.const (.int .i64 (-1)))), some (9, false)⟩
 (.op ⟨some 15, .p (.pick (.tmp 9) (.const (.bool true)) (.tmp 14)), none⟩ .done)))))))))))
 (.cond (.tmp 15) (.seq (.reg (.op ⟨some 2, .p (.mov (.const (.bool false))), none⟩ .done))
 (.ret))
 (.skip)))
 (.seq (.seq (.reg (.op ⟨some 16, .p (.mov (.tmp 0)), none⟩
 (.op ⟨some 17, .p (.lenS (.tmp 16)), none⟩
 (.op ⟨some 18, .p (.mov (.const (.int .i64 0))), none⟩ .done))))
 (.block 0 (.loop (.seq (.reg (.op ⟨some 19, .p (.int2 .lss (.tmp 18) (.tmp 17)), none⟩ .done))
 (.seq (.cond (.tmp 19) (.skip)
 (.exit 0))
 (.seq (.block 1 (.seq (.reg (.op ⟨some 20, .p (.mov (.tmp 18)), none⟩
 (.op ⟨some 3, .p (.mov (.tmp 20)), none⟩ .done)))
 (.seq (.seq (.reg (.op ⟨some 21, .p (.mov (.tmp 3)), none⟩
 (.op ⟨some 22, .p (.int2 .gtr (.tmp 21) (.const (.int .i64 0))), none⟩ .done)))
 (.cond (.tmp 22) (.seq (.reg (.op ⟨some 24, .p (.mov (.tmp 0)), none⟩
 (.op ⟨some 25, .p (.mov (.tmp 3)), none⟩
 (.op ⟨some 26, .call 83 [.tmp 24, .tmp 25], none⟩
 (.op ⟨some 23, .p (.mov (.tmp 26)), none⟩
 (.op ⟨some 27, .p (.extract (.tmp 23) 0), none⟩
 (.op ⟨some 28, .p (.extract (.tmp 23) 1), none⟩
 (.op ⟨some 4, .p (.mov (.tmp 27)), none⟩
 (.op ⟨some 5, .p (.mov (.tmp 28)), none⟩ .done)))))))))
 (.seq (.reg (.op ⟨some 29, .p (.mov (.tmp 5)), none⟩
 (.op ⟨some 30, .p (.un .not (.tmp 29)), none⟩ .done)))
 (.cond (.tmp 30) (.seq (.reg (.op ⟨some 2, .p (.mov (.const (.bool false))), none⟩ .done))
 (.ret))
 (.skip))))
 (.skip)))
 (.seq (.reg (.op ⟨some 31, .p (.mov (.tmp 0)), none⟩
 (.op ⟨some 32, .p (.mov (.tmp 3)), none⟩
 (.op ⟨some 33, .p (.idxS 49 (.tmp 31) (.tmp 32)), none⟩
 (.op ⟨some 34, .p (.fieldAddr 0 (.tmp 33)), none⟩
 (.op ⟨some 35, .h (.load 48 true (.tmp 34)), none⟩
 (.op ⟨some 36, .call 20 [.tmp 35], none⟩
 (.op ⟨some 37, .p (.un .not (.tmp 36)), none⟩ .done))))))))
 (.cond (.tmp 37) (.seq (.reg (.op ⟨some 2, .p (.mov (.const (.bool false))), none⟩ .done))
 (.ret))
 (.skip))))))
 (.reg (.op ⟨some 38, .p (.int2 .add (.tmp 18) (.const (.int .i64 1))), none⟩
 (.op ⟨some 18, .p (.mov (.tmp 38)), none⟩ .done)))))))))
 (.seq (.reg (.op ⟨some 2, .p (.mov (.const (.bool true))), none⟩ .done))
 (.ret))))⟩

theorem cF51 : compF Try.prog aF51.cfg.pm aF51.cfg.lz Try.f51 = some aF51 := by kernel_rfl
theorem kF51 : aF51.ok = true := by kernel_rfl

-- decoupage/decoupageref07.Formed
def aF52 : AFun := ⟨⟨20, [], false⟩, [.tmp 2],
 .seq (.reg (.op ⟨some 2, .p (.mov (.const (.bool false))), none⟩ .done))
 (.seq (.seq (.reg (.op ⟨some 4, .p (.mov (.tmp 0)), none⟩
 (.op ⟨some 5, .call 84 [.tmp 4], none⟩
 (.op ⟨some 6, .p (.un .not (.tmp 5)), none⟩ .done))))
 (.cond (.tmp 6) (.seq (.reg (.op ⟨some 2, .p (.mov (.const (.bool false))), none⟩ .done))
 (.ret))
 (.skip)))
 (.seq (.seq (.reg (.op ⟨some 7, .p (.mov (.tmp 0)), none⟩
 (.op ⟨some 8, .p (.lenS (.tmp 7)), none⟩
 (.op ⟨some 9, .p (.mov (.const (.int .i64 0))), none⟩ .done))))
 (.block 0 (.loop (.seq (.reg (.op ⟨some 10, .p (.int2 .lss (.tmp 9) (.tmp 8)), none⟩ .done))
 (.seq (.cond (.tmp 10) (.skip)
 (.exit 0))
 (.seq (.block 1 (.seq (.reg (.op ⟨some 11, .p (.mov (.tmp 9)), none⟩
 (.op ⟨some 3, .p (.mov (.tmp 11)), none⟩ .done)))
 (.seq (.reg (.op ⟨some 12, .p (.mov (.tmp 0)), none⟩
 (.op ⟨some 13, .p (.mov (.tmp 3)), none⟩
 (.op ⟨some 14, .p (.idxS 49 (.tmp 12) (.tmp 13)), none⟩
 (.op ⟨some 15, .p (.fieldAddr 0 (.tmp 14)), none⟩
 (.op ⟨some 16, .h (.load 48 true (.tmp 15)), none⟩
 (.op ⟨some 17, .call 21 [.tmp 16], none⟩
 (.op ⟨some 18, .p (.un .not (.tmp 17)), none⟩ .done))))))))
 (.cond (.tmp 18) (.seq (.reg (.op ⟨some 2, .p (.mov (.const (.bool false))), none⟩ .done))
 (.ret))
 (.skip)))))
 (.reg (.op ⟨some 19, .p (.int2 .add (.tmp 9) (.const (.int .i64 1))), none⟩
 (.op ⟨some 9, .p (.mov (.tmp 19)), none⟩ .done)))))))))
 (.seq (.reg (.op ⟨some 2, .p (.mov (.const (.bool true))), none⟩ .done))
 (.ret))))⟩

theorem cF52 : compF Try.prog aF52.cfg.pm aF52.cfg.lz Try.f52 = some aF52 := by kernel_rfl
theorem kF52 : aF52.ok = true := by kernel_rfl

-- decoupage/tree.Check
def aF53 : AFun := ⟨⟨18, [], false⟩, [.tmp 2],
 .seq (.reg (.op ⟨some 2, .p (.mov (.const (.int .i64 0))), none⟩ .done))
 (.seq (.seq (.reg (.op ⟨some 3, .p (.mov (.tmp 0)), none⟩
 (.op ⟨some 4, .call 51 [.tmp 3], none⟩
 (.op ⟨some 5, .p (.un .not (.tmp 4)), none⟩ .done))))
 (.cond (.tmp 5) (.seq (.reg (.op ⟨some 2, .p (.mov (.const (.int .i64 2))), none⟩ .done))
 (.ret))
 (.skip)))
 (.seq (.seq (.reg (.op ⟨some 6, .p (.mov (.tmp 0)), none⟩
 (.op ⟨some 7, .p (.lenS (.tmp 6)), none⟩
 (.op ⟨some 8, .p (.int2 .gtr (.tmp 7) (.const (.int .i64 65535))), none⟩
 (.op ⟨some 9, .p (.mov (.tmp 8)), none⟩
 (.op ⟨some 10, .p (.mov (.tmp 0)), some (9, false)⟩
 (.op ⟨some 11, .call 85 [.tmp 10], some (9, false)⟩
 (.op ⟨some 12, .p (.int2 .gtr (.tmp 11) (.const (.int .i64 256))), some (9, false)⟩
 (.op ⟨some 13, .p (.pick (.tmp 9) (.const (.bool true)) (.tmp 12)), none⟩
 (.op ⟨some 14, .p (.mov (.tmp 13)), none⟩
 (.op ⟨some 15, .p (.mov (.tmp 0)), some (14, false)⟩
 (.op ⟨some 16, .call 86 [.tmp 15, .func 87], some (14, false)⟩
 (.op ⟨some 17, .p (.pick (.tmp 14) (.const (.bool true)) (.tmp 16)), none⟩ .done)))))))))))))
 (.cond (.tmp 17) (.seq (.reg (.op ⟨some 2, .p (.mov (.const (.int .i64 3))), none⟩ .done))
 (.ret))
 (.skip)))
 (.seq (.reg (.op ⟨some 2, .p (.mov (.const (.int .i64 0))), none⟩ .done))
 (.ret))))⟩

theorem cF53 : compF Try.prog aF53.cfg.pm aF53.cfg.lz Try.f53 = some aF53 := by kernel_rfl
theorem kF53 : aF53.ok = true := by kernel_rfl

-- decoupage/decoupageref07.Check
def aF54 : AFun := ⟨⟨29, [], false⟩, [.tmp 2],
 .seq (.reg (.op ⟨some 2, .p (.mov (.const (.int .i64 0))), none⟩ .done))
 (.seq (.seq (.reg (.op ⟨some 4, .p (.mov (.tmp 0)), none⟩
 (.op ⟨some 5, .call 52 [.tmp 4], none⟩
 (.op ⟨some 6, .p (.un .not (.tmp 5)), none⟩ .done))))
 (.cond (.tmp 6) (.seq (.reg (.op ⟨some 2, .p (.mov (.const (.int .i64 2))), none⟩ .done))
 (.ret))
 (.skip)))
 (.seq (.seq (.reg (.op ⟨some 7, .p (.mov (.tmp 0)), none⟩
 (.op ⟨some 8, .p (.lenS (.tmp 7)), none⟩
 (.op ⟨some 9, .p (.mov (.const (.int .i64 0))), none⟩ .done))))
 (.block 0 (.loop (.seq (.reg (.op ⟨some 10, .p (.int2 .lss (.tmp 9) (.tmp 8)), none⟩ .done))
 (.seq (.cond (.tmp 10) (.skip)
 (.exit 0))
 (.seq (.block 1 (.seq (.reg (.op ⟨some 11, .p (.mov (.tmp 9)), none⟩
 (.op ⟨some 3, .p (.mov (.tmp 11)), none⟩ .done)))
 (.seq (.reg (.op ⟨some 12, .p (.mov (.tmp 0)), none⟩
 (.op ⟨some 13, .p (.mov (.tmp 3)), none⟩
 (.op ⟨some 14, .p (.idxS 49 (.tmp 12) (.tmp 13)), none⟩
 (.op ⟨some 15, .p (.fieldAddr 0 (.tmp 14)), none⟩
 (.op ⟨some 16, .h (.load 48 true (.tmp 15)), none⟩
 (.op ⟨some 17, .call 23 [.tmp 16], none⟩
 (.op ⟨some 18, .p (.un .not (.tmp 17)), none⟩
 (.op ⟨some 19, .p (.mov (.tmp 18)), none⟩
 (.op ⟨some 20, .p (.mov (.tmp 0)), some (19, false)⟩
 (.op ⟨some 21, .p (.mov (.tmp 3)), some (19, false)⟩
 (.op ⟨some 22, .call 61 [.tmp 20, .tmp 21], some (19, false)⟩
 (.op ⟨some 23, .p (.int2 .gtr (.tmp 22) (.const (.int .i64 256))), some (19, false)⟩
 (.op ⟨some 24, .p (.pick (.tmp 19) (.const (.bool true)) (.tmp 23)), none⟩ .done))))))))))))))
 (.cond (.tmp 24) (.seq (.reg (.op ⟨some 2, .p (.mov (.const (.int .i64 3))), none⟩ .done))
 (.ret))
 (.skip)))))
 (.reg (.op ⟨some 25, .p (.int2 .add (.tmp 9) (.const (.int .i64 1))), none⟩
 (.op ⟨some 9, .p (.mov (.tmp 25)), none⟩ .done)))))))))
 (.seq (.seq (.reg (.op ⟨some 26, .p (.mov (.tmp 0)), none⟩
 (.op ⟨some 27, .p (.lenS (.tmp 26)), none⟩
 (.op ⟨some 28, .p (.int2 .gtr (.tmp 27) (.const (.int .i64 65535))), none⟩ .done))))
 (.cond (.tmp 28) (.seq (.reg (.op ⟨some 2, .p (.mov (.const (.int .i64 3))), none⟩ .done))
 (.ret))
 (.skip)))
 (.seq (.reg (.op ⟨some 2, .p (.mov (.const (.int .i64 0))), none⟩ .done))
 (.ret)))))⟩

theorem cF54 : compF Try.prog aF54.cfg.pm aF54.cfg.lz Try.f54 = some aF54 := by kernel_rfl
theorem kF54 : aF54.ok = true := by kernel_rfl

-- decoupage/decoupagelaw06.Plain
def aF55 : AFun := ⟨⟨13, [], false⟩, [.cell 0 48 true],
 .seq (.reg (.op ⟨some 0, .h (.alloc [.bool false, .int .i64 0, .int .i64 0, .int .i64 0, .int .i64 0, .int .i64 0, .int .i64 0, .int .i64 0, .int .i64 0, .int .i64 0, .int .i64 0, .int .i64 0, .int .i64 0, .int .i64 0, .int .i64 0, .int .i64 0, .int .i64 0, .int .i64 0, .int .i64 0, .int .i64 0, .int .i64 0, .int .i64 0, .int .i64 0, .int .i64 0, .int .i64 0, .int .i64 0, .int .i64 0, .int .i64 0, .int .i64 0, .int .i64 0, .int .i64 0, .int .i64 0, .int .i64 0, .int .i64 0, .int .i64 0, .int .i64 0, .int .i64 0, .int .i64 0, .int .i64 0, .int .i64 0, .int .i64 0, .int .i64 0, .bool false, .bool false, .int .i64 0, .bool false, .int .i64 0, .int .i64 0]), none⟩ .done))
 (.seq (.reg (.op ⟨some 3, .p (.build [.bool false, .int .i64 0, .int .i64 0, .int .i64 0, .int .i64 0, .int .i64 0, .int .i64 0, .int .i64 0, .int .i64 0, .int .i64 0, .int .i64 0, .int .i64 0, .int .i64 0, .int .i64 0, .int .i64 0, .int .i64 0, .int .i64 0, .int .i64 0, .int .i64 0, .int .i64 0, .int .i64 0, .int .i64 0, .int .i64 0, .int .i64 0, .int .i64 0, .int .i64 0, .int .i64 0, .int .i64 0, .int .i64 0, .int .i64 0, .int .i64 0, .int .i64 0, .int .i64 0, .int .i64 0, .int .i64 0, .int .i64 0, .int .i64 0, .int .i64 0, .int .i64 0, .int .i64 0, .int .i64 0, .int .i64 0, .bool false, .bool false, .int .i64 0, .bool false, .int .i64 0, .int .i64 0] [(0, 1, .const (.bool true))]), none⟩
 (.op ⟨some 1, .h (.alloc [.bool false, .int .i64 0, .int .i64 0, .int .i64 0, .int .i64 0, .int .i64 0, .int .i64 0, .int .i64 0, .int .i64 0, .int .i64 0, .int .i64 0, .int .i64 0, .int .i64 0, .int .i64 0, .int .i64 0, .int .i64 0, .int .i64 0, .int .i64 0, .int .i64 0, .int .i64 0, .int .i64 0, .int .i64 0, .int .i64 0, .int .i64 0, .int .i64 0, .int .i64 0, .int .i64 0, .int .i64 0, .int .i64 0, .int .i64 0, .int .i64 0, .int .i64 0, .int .i64 0, .int .i64 0, .int .i64 0, .int .i64 0, .int .i64 0, .int .i64 0, .int .i64 0, .int .i64 0, .int .i64 0, .int .i64 0, .bool false, .bool false, .int .i64 0, .bool false, .int .i64 0, .int .i64 0]), none⟩
 (.op ⟨none, .h (.store 48 (.tmp 1) (.tmp 3)), none⟩ .done))))
 (.seq (.seq (.reg (.op ⟨some 4, .p (.mov (.const (.int .i64 0))), none⟩ .done))
 (.block 0 (.loop (.seq (.reg (.op ⟨some 5, .p (.int2 .lss (.tmp 4) (.const (.int .i64 4))), none⟩ .done))
 (.seq (.cond (.tmp 5) (.skip)
 (.exit 0))
 (.seq (.block 1 (.seq (.reg (.op ⟨some 6, .p (.mov (.tmp 4)), none⟩
 (.op ⟨some 2, .p (.mov (.tmp 6)), none⟩ .done)))
 (.reg (.op ⟨some 7, .p (.mov (.tmp 2)), none⟩
 (.op ⟨some 8, .p (.build [.int .i64 0, .int .i64 0] [(0, 1, .const (.int .i64 1))]), none⟩
 (.op ⟨some 9, .p (.fieldAddr 30 (.tmp 1)), none⟩
 (.op ⟨some 10, .p (.idxA 4 2 (.tmp 9) (.tmp 7)), none⟩
 (.op ⟨none, .h (.store 2 (.tmp 10) (.tmp 8)), none⟩ .done))))))))
 (.reg (.op ⟨some 11, .p (.int2 .add (.tmp 4) (.const (.int .i64 1))), none⟩
 (.op ⟨some 4, .p (.mov (.tmp 11)), none⟩ .done)))))))))
 (.seq (.reg (.op ⟨some 12, .h (.load 48 true (.tmp 1)), none⟩
 (.op ⟨none, .h (.store 48 (.tmp 0) (.tmp 12)), none⟩ .done)))
 (.ret))))⟩

theorem cF55 : compF Try.prog aF55.cfg.pm aF55.cfg.lz Try.f55 = some aF55 := by kernel_rfl
theorem kF55 : aF55.ok = true := by kernel_rfl

-- decoupage/style.Put
def aF56 : AFun := ⟨⟨63, [], false⟩, [],
 .seq (.reg (.op ⟨some 3, .h (.box (.tmp 1)), none⟩ .done))
 (.seq (.seq (.reg (.op ⟨some 8, .h (.load 48 true (.tmp 3)), none⟩
 (.op ⟨some 9, .call 20 [.tmp 8], none⟩
 (.op ⟨some 10, .p (.un .not (.tmp 9)), none⟩ .done))))
 (.cond (.tmp 10) (.ret)
 (.skip)))
 (.seq (.reg (.op ⟨some 11, .p (.mov (.tmp 0)), none⟩
 (.op ⟨some 12, .h (.load 48 true (.tmp 3)), none⟩
 (.op ⟨some 13, .call 88 [.tmp 12], none⟩
 (.op ⟨some 14, .call 25 [.tmp 11, .tmp 13], none⟩ .done)))))
 (.seq (.seq (.reg (.op ⟨some 15, .call 64 [.tmp 3], none⟩
 (.op ⟨some 16, .p (.lenS (.tmp 15)), none⟩
 (.op ⟨some 17, .p (.mov (.const (.int .i64 0))), none⟩ .done))))
 (.block 0 (.loop (.seq (.reg (.op ⟨some 18, .p (.int2 .lss (.tmp 17) (.tmp 16)), none⟩ .done))
 (.seq (.cond (.tmp 18) (.skip)
 (.exit 0))
 (.seq (.block 1 (.seq (.reg (.op ⟨some 19, .p (.idxS 1 (.tmp 15) (.tmp 17)), none⟩
 (.op ⟨some 20, .h (.load 1 false (.tmp 19)), none⟩
 (.op ⟨some 5, .p (.mov (.tmp 20)), none⟩ .done))))
 (.seq (.reg (.op ⟨some 21, .p (.mov (.tmp 0)), none⟩
 (.op ⟨some 22, .p (.mov (.tmp 5)), none⟩
 (.op ⟨some 23, .p (.nilchk (.tmp 22)), none⟩
 (.op ⟨some 24, .p (.fieldAddr 0 (.tmp 23)), none⟩
 (.op ⟨some 25, .h (.load 1 false (.tmp 24)), none⟩
 (.op ⟨some 26, .p (.conv .u8 (.tmp 25)), none⟩
 (.op ⟨some 27, .call 25 [.tmp 21, .tmp 26], none⟩ .done))))))))
 (.seq (.reg (.op ⟨some 28, .p (.mov (.tmp 5)), none⟩
 (.op ⟨some 29, .p (.nilchk (.tmp 28)), none⟩
 (.op ⟨some 30, .p (.fieldAddr 0 (.tmp 29)), none⟩
 (.op ⟨some 31, .h (.load 1 false (.tmp 30)), none⟩
 (.op ⟨some 32, .p (.int2 .neq (.tmp 31) (.const (.int .i64 0))), none⟩ .done))))))
 (.cond (.tmp 32) (.reg (.op ⟨some 33, .p (.mov (.tmp 0)), none⟩
 (.op ⟨some 34, .p (.mov (.tmp 5)), none⟩
 (.op ⟨some 35, .p (.nilchk (.tmp 34)), none⟩
 (.op ⟨some 36, .p (.fieldAddr 1 (.tmp 35)), none⟩
 (.op ⟨some 37, .h (.load 1 false (.tmp 36)), none⟩
 (.op ⟨some 38, .call 27 [.tmp 33, .tmp 37], none⟩ .done)))))))
 (.skip))))))
 (.reg (.op ⟨some 39, .p (.int2 .add (.tmp 17) (.const (.int .i64 1))), none⟩
 (.op ⟨some 17, .p (.mov (.tmp 39)), none⟩ .done)))))))))
 (.seq (.seq (.reg (.op ⟨some 40, .p (.fieldAddr 38 (.tmp 3)), none⟩
 (.op ⟨some 41, .h (.load 4 true (.tmp 40)), none⟩
 (.op ⟨some 42, .p (.mov (.const (.int .i64 0))), none⟩ .done))))
 (.block 2 (.loop (.seq (.reg (.op ⟨some 43, .p (.int2 .lss (.tmp 42) (.const (.int .i64 4))), none⟩ .done))
 (.seq (.cond (.tmp 43) (.skip)
 (.exit 2))
 (.seq (.block 3 (.seq (.reg (.op ⟨some 44, .p (.idxV 4 1 false (.tmp 41) (.tmp 42)), none⟩
 (.op ⟨some 7, .p (.mov (.tmp 44)), none⟩ .done)))
 (.reg (.op ⟨some 45, .p (.mov (.tmp 0)), none⟩
 (.op ⟨some 46, .p (.mov (.tmp 7)), none⟩
 (.op ⟨some 47, .call 27 [.tmp 45, .tmp 46], none⟩ .done))))))
 (.reg (.op ⟨some 48, .p (.int2 .add (.tmp 42) (.const (.int .i64 1))), none⟩
 (.op ⟨some 42, .p (.mov (.tmp 48)), none⟩ .done)))))))))
 (.seq (.seq (.reg (.op ⟨some 49, .p (.fieldAddr 43 (.tmp 3)), none⟩
 (.op ⟨some 50, .h (.load 1 false (.tmp 49)), none⟩ .done)))
 (.cond (.tmp 50) (.reg (.op ⟨some 51, .p (.mov (.tmp 0)), none⟩
 (.op ⟨some 52, .p (.fieldAddr 44 (.tmp 3)), none⟩
 (.op ⟨some 53, .h (.load 1 false (.tmp 52)), none⟩
 (.op ⟨some 54, .call 27 [.tmp 51, .tmp 53], none⟩ .done)))))
 (.skip)))
 (.seq (.reg (.op ⟨some 55, .p (.mov (.tmp 0)), none⟩
 (.op ⟨some 56, .p (.fieldAddr 46 (.tmp 3)), none⟩
 (.op ⟨some 57, .h (.load 1 false (.tmp 56)), none⟩
 (.op ⟨some 58, .call 27 [.tmp 55, .tmp 57], none⟩ .done)))))
 (.reg (.op ⟨some 59, .p (.mov (.tmp 0)), none⟩
 (.op ⟨some 60, .p (.fieldAddr 47 (.tmp 3)), none⟩
 (.op ⟨some 61, .h (.load 1 false (.tmp 60)), none⟩
 (.op ⟨some 62, .call 27 [.tmp 59, .tmp 61], none⟩ .done)))))))))))⟩

theorem cF56 : compF Try.prog aF56.cfg.pm aF56.cfg.lz Try.f56 = some aF56 := by kernel_rfl
theorem kF56 : aF56.ok = true := by kernel_rfl

-- decoupage/tree.Decode
def aF57 : AFun := ⟨⟨21, [], false⟩, [.tmp 2, .tmp 3],
 .seq (.reg (.op ⟨some 2, .p (.mov (.const (.slice none 0 0))), none⟩
 (.op ⟨some 3, .p (.mov (.const (.int .i64 0))), none⟩ .done)))
 (.seq (.reg (.op ⟨some 8, .p (.mov (.tmp 0)), none⟩
 (.op ⟨some 9, .call 30 [.tmp 8], none⟩
 (.op ⟨some 10, .call 89 [.tmp 9], none⟩
 (.op ⟨some 7, .p (.mov (.tmp 10)), none⟩
 (.op ⟨some 11, .p (.extract (.tmp 7) 0), none⟩
 (.op ⟨some 12, .p (.extract (.tmp 7) 1), none⟩
 (.op ⟨some 4, .p (.mov (.tmp 11)), none⟩
 (.op ⟨some 5, .p (.mov (.tmp 12)), none⟩ .done)))))))))
 (.seq (.seq (.reg (.op ⟨some 13, .p (.mov (.tmp 5)), none⟩
 (.op ⟨some 14, .p (.un .not (.tmp 13)), none⟩ .done)))
 (.cond (.tmp 14) (.seq (.reg (.op ⟨some 2, .p (.mov (.const (.slice none 0 0))), none⟩
 (.op ⟨some 3, .p (.mov (.const (.int .i64 2))), none⟩ .done)))
 (.ret))
 (.skip)))
 (.seq (.seq (.reg (.op ⟨some 15, .p (.mov (.tmp 4)), none⟩
 (.op ⟨some 16, .call 53 [.tmp 15], none⟩
 (.op ⟨some 6, .p (.mov (.tmp 16)), none⟩ .done))))
 (.seq (.reg (.op ⟨some 17, .p (.mov (.tmp 6)), none⟩
 (.op ⟨some 18, .p (.int2 .neq (.tmp 17) (.const (.int .i64 0))), none⟩ .done)))
 (.cond (.tmp 18) (.seq (.reg (.op ⟨some 19, .p (.mov (.tmp 6)), none⟩
 (.op ⟨some 2, .p (.mov (.const (.slice none 0 0))), none⟩
 (.op ⟨some 3, .p (.mov (.tmp 19)), none⟩ .done))))
 (.ret))
 (.skip))))
 (.seq (.reg (.op ⟨some 20, .p (.mov (.tmp 4)), none⟩
 (.op ⟨some 2, .p (.mov (.tmp 20)), none⟩
 (.op ⟨some 3, .p (.mov (.const (.int .i64 0))), none⟩ .done))))
 (.ret)))))⟩

theorem cF57 : compF Try.prog aF57.cfg.pm aF57.cfg.lz Try.f57 = some aF57 := by kernel_rfl
theorem kF57 : aF57.ok = true := by kernel_rfl

-- decoupage/decoupageref07.From
def aF58 : AFun := ⟨⟨75, [], false⟩, [.tmp 2, .tmp 3],
 .seq (.reg (.op ⟨some 2, .p (.mov (.const (.slice none 0 0))), none⟩
 (.op ⟨some 3, .p (.mov (.const (.bool false))), none⟩ .done)))
 (.seq (.reg (.op ⟨some 12, .p (.mov (.tmp 0)), none⟩
 (.op ⟨some 13, .p (.build [.slice none 0 0, .bool false] [(0, 1, .tmp 12)]), none⟩
 (.op ⟨some 14, .call 35 [.tmp 13, .const (.int .i64 4)], none⟩
 (.op ⟨some 11, .p (.mov (.tmp 14)), none⟩
 (.op ⟨some 15, .p (.extract (.tmp 11) 0), none⟩
 (.op ⟨some 16, .p (.extract (.tmp 11) 1), none⟩
 (.op ⟨some 5, .h (.alloc [.slice none 0 0, .bool false]), none⟩
 (.op ⟨some 4, .p (.mov (.tmp 15)), none⟩
 (.op ⟨none, .h (.store 2 (.tmp 5) (.tmp 16)), none⟩ .done))))))))))
 (.seq (.reg (.op ⟨some 6, .p (.mov (.const (.slice none 0 0))), none⟩ .done))
 (.seq (.seq (.reg (.op ⟨some 17, .p (.mov (.tmp 4)), none⟩
 (.op ⟨some 18, .p (.mov (.const (.int .u64 0))), none⟩ .done)))
 (.block 0 (.loop (.seq (.reg (.op ⟨some 19, .p (.int2 .lss (.tmp 18) (.tmp 17)), none⟩ .done))
 (.seq (.cond (.tmp 19) (.skip)
 (.exit 0))
 (.seq (.block 1 (.seq (.reg (.op ⟨some 20, .p (.mov (.tmp 18)), none⟩
 (.op ⟨some 7, .p (.mov (.tmp 20)), none⟩ .done)))
 (.seq (.reg (.op ⟨some 8, .p (.mov (.const (.int .i64 (-1)))), none⟩ .done))
 (.seq (.seq (.reg (.op ⟨some 21, .p (.mov (.tmp 7)), none⟩
 (.op ⟨some 22, .p (.int2 .gtr (.tmp 21) (.const (.int .u64 0))), none⟩ .done)))
 (.cond (.tmp 22) (.seq (.reg (.op ⟨some 9, .p (.mov (.const (.int .u64 0))), none⟩ .done))
 (.seq (.reg (.op ⟨some 24, .h (.load 2 true (.tmp 5)), none⟩
 (.op ⟨some 25, .call 35 [.tmp 24, .const (.int .i64 4)], none⟩
 (.op ⟨some 23, .p (.mov (.tmp 25)), none⟩
 (.op ⟨some 26, .p (.extract (.tmp 23) 0), none⟩
 (.op ⟨some 27, .p (.extract (.tmp 23) 1), none⟩
 (.op ⟨some 9, .p (.mov (.tmp 26)), none⟩
 (.op ⟨none, .h (.store 2 (.tmp 5) (.tmp 27)), none⟩ .done))))))))
 (.seq (.reg (.op ⟨some 28, .p (.mov (.tmp 7)), none⟩
 (.op ⟨some 29, .p (.conv .i64 (.tmp 28)), none⟩
 (.op ⟨some 30, .p (.int2 .sub (.tmp 29) (.const (.int .i64 1))), none⟩
 (.op ⟨some 8, .p (.mov (.tmp 30)), none⟩ .done)))))
 (.seq (.block 2 (.loop (.seq (.seq (.reg (.op ⟨some 31, .p (.mov (.tmp 9)), none⟩
 (.op ⟨some 32, .p (.int2 .gtr (.tmp 31) (.const (.int .u64 0))), none⟩
 (.op ⟨some 33, .p (.mov (.tmp 32)), none⟩
 (.op ⟨some 34, .p (.mov (.tmp 8)), some (33, true)⟩
 (.op ⟨some 35, .p (.int2 .geq (.tmp 34) (.const (.int .i64 0))), some (33, true)⟩
 (.op ⟨some 36, .p (.pick (.tmp 33) (.tmp 35) (.const (.bool false))), none⟩ .done)))))))
 (.cond (.tmp 36) (.skip)
 (.exit 2)))
 (.block 3 (.seq (.reg (.op ⟨some 37, .p (.mov (.tmp 6)), none⟩
 (.op ⟨some 38, .p (.mov (.tmp 8)), none⟩
 (.op ⟨some 39, .p (.idxS 49 (.tmp 37) (.tmp 38)), none⟩
 (.op ⟨some 40, .p (.fieldAddr 48 (.tmp 39)), none⟩
 (.op ⟨some 41, .h (.load 1 false (.tmp 40)), none⟩
 (.op ⟨some 8, .p (.mov (.tmp 41)), none⟩ .done)))))))
 (.reg (.op ⟨some 42, .p (.mov (.tmp 9)), none⟩
 (.op ⟨some 43, .p (.int2 .sub (.tmp 42) (.const (.int .u64 1))), none⟩
 (.op ⟨some 9, .p (.mov (.tmp 43)), none⟩ .done)))))))))
 (.seq (.reg (.op ⟨some 44, .p (.mov (.tmp 8)), none⟩
 (.op ⟨some 45, .p (.int2 .lss (.tmp 44) (.const (.int .i64 0))), none⟩ .done)))
 (.cond (.tmp 45) (.seq (.reg (.op ⟨some 2, .p (.mov (.const (.slice none 0 0))), none⟩
 (.op ⟨some 3, .p (.mov (.const (.bool false))), none⟩ .done)))
 (.ret))
 (.skip)))))))
 (.skip)))
 (.seq (.reg (.op ⟨some 46, .p (.mov (.tmp 8)), none⟩
 (.op ⟨some 47, .p (.build [.bool false, .int .i64 0, .int .i64 0, .int .i64 0, .int .i64 0, .int .i64 0, .int .i64 0, .int .i64 0, .int .i64 0, .int .i64 0, .int .i64 0, .int .i64 0, .int .i64 0, .int .i64 0, .int .i64 0, .int .i64 0, .int .i64 0, .int .i64 0, .int .i64 0, .int .i64 0, .int .i64 0, .int .i64 0, .int .i64 0, .int .i64 0, .int .i64 0, .int .i64 0, .int .i64 0, .int .i64 0, .int .i64 0, .int .i64 0, .int .i64 0, .int .i64 0, .int .i64 0, .int .i64 0, .int .i64 0, .int .i64 0, .int .i64 0, .int .i64 0, .int .i64 0, .int .i64 0, .int .i64 0, .int .i64 0, .bool false, .bool false, .int .i64 0, .bool false, .int .i64 0, .int .i64 0, .int .i64 0] [(48, 1, .tmp 46)]), none⟩
 (.op ⟨some 10, .h (.alloc [.bool false, .int .i64 0, .int .i64 0, .int .i64 0, .int .i64 0, .int .i64 0, .int .i64 0, .int .i64 0, .int .i64 0, .int .i64 0, .int .i64 0, .int .i64 0, .int .i64 0, .int .i64 0, .int .i64 0, .int .i64 0, .int .i64 0, .int .i64 0, .int .i64 0, .int .i64 0, .int .i64 0, .int .i64 0, .int .i64 0, .int .i64 0, .int .i64 0, .int .i64 0, .int .i64 0, .int .i64 0, .int .i64 0, .int .i64 0, .int .i64 0, .int .i64 0, .int .i64 0, .int .i64 0, .int .i64 0, .int .i64 0, .int .i64 0, .int .i64 0, .int .i64 0, .int .i64 0, .int .i64 0, .int .i64 0, .bool false, .bool false, .int .i64 0, .bool false, .int .i64 0, .int .i64 0, .int .i64 0]), none⟩
 (.op ⟨none, .h (.store 49 (.tmp 10) (.tmp 47)), none⟩ .done)))))
 (.seq (.reg (.op ⟨some 49, .h (.load 2 true (.tmp 5)), none⟩
 (.op ⟨some 50, .call 41 [.tmp 49], none⟩
 (.op ⟨some 48, .p (.mov (.tmp 50)), none⟩
 (.op ⟨some 51, .p (.extract (.tmp 48) 0), none⟩
 (.op ⟨some 52, .p (.extract (.tmp 48) 1), none⟩
 (.op ⟨some 53, .p (.fieldAddr 0 (.tmp 10)), none⟩
 (.op ⟨none, .h (.store 48 (.tmp 53) (.tmp 51)), none⟩
 (.op ⟨none, .h (.store 2 (.tmp 5) (.tmp 52)), none⟩ .done)))))))))
 (.seq (.seq (.reg (.op ⟨some 54, .p (.fieldAddr 1 (.tmp 5)), none⟩
 (.op ⟨some 55, .h (.load 1 false (.tmp 54)), none⟩ .done)))
 (.cond (.tmp 55) (.seq (.reg (.op ⟨some 2, .p (.mov (.const (.slice none 0 0))), none⟩
 (.op ⟨some 3, .p (.mov (.const (.bool false))), none⟩ .done)))
 (.ret))
 (.skip)))
 (.reg (.op ⟨some 56, .p (.mov (.tmp 6)), none⟩
 (.op ⟨some 57, .h (.load 49 true (.tmp 10)), none⟩
 (.op ⟨some 58, .h (.buildSlice 49 1 [.bool false, .int .i64 0, .int .i64 0, .int .i64 0, .int .i64 0, .int .i64 0, .int .i64 0, .int .i64 0, .int .i64 0, .int .i64 0, .int .i64 0, .int .i64 0, .int .i64 0, .int .i64 0, .int .i64 0, .int .i64 0, .int .i64 0, .int .i64 0, .int .i64 0, .int .i64 0, .int .i64 0, .int .i64 0, .int .i64 0, .int .i64 0, .int .i64 0, .int .i64 0, .int .i64 0, .int .i64 0, .int .i64 0, .int .i64 0, .int .i64 0, .int .i64 0, .int .i64 0, .int .i64 0, .int .i64 0, .int .i64 0, .int .i64 0, .int .i64 0, .int .i64 0, .int .i64 0, .int .i64 0, .int .i64 0, .bool false, .bool false, .int .i64 0, .bool false, .int .i64 0, .int .i64 0, .int .i64 0] [(0, 49, .tmp 57)]), none⟩
 (.op ⟨some 59, .h (.append 49 384 (.tmp 56) (.tmp 58)), none⟩
 (.op ⟨some 6, .p (.mov (.tmp 59)), none⟩ .done)))))))))))))
 (.reg (.op ⟨some 60, .p (.int2 .add (.tmp 18) (.const (.int .u64 1))), none⟩
 (.op ⟨some 18, .p (.mov (.tmp 60)), none⟩ .done)))))))))
 (.seq (.reg (.op ⟨some 61, .p (.mov (.tmp 6)), none⟩
 (.op ⟨some 62, .p (.fieldAddr 1 (.tmp 5)), none⟩
 (.op ⟨some 63, .h (.load 1 false (.tmp 62)), none⟩
 (.op ⟨some 64, .p (.un .not (.tmp 63)), none⟩
 (.op ⟨some 65, .p (.mov (.tmp 64)), none⟩
 (.op ⟨some 66, .p (.fieldAddr 0 (.tmp 5)), some (65, true)⟩
 (.op ⟨some 67, .h (.load 1 false (.tmp 66)), some (65, true)⟩
 (.op ⟨some 68, .p (.lenS (.tmp 67)), some (65, true)⟩
 (.op ⟨some 69, .p (.int2 .eql (.tmp 68) (.const (.int .i64 0))), some (65, true)⟩
 (.op ⟨some 70, .p (.pick (.tmp 65) (.tmp 69) (.const (.bool false))), none⟩
 (.op ⟨some 71, .p (.mov (.tmp 70)), none⟩
 (.op ⟨some 72, .p (.mov (.tmp 4)), some (71, true)⟩
 (.op ⟨some 73, .p (.int2 .gtr (.tmp 72) (.const (.int .u64 0))), some (71, true)⟩
 (.op ⟨some 74, .p (.pick (.tmp 71) (.tmp 73) (.const (.bool false))), none⟩
 (.op ⟨some 2, .p (.mov (.tmp 61)), none⟩
 (.op ⟨some 3, .p (.mov (.tmp 74)), none⟩ .done)))))))))))))))))
 (.ret)))))⟩

theorem cF58 : compF Try.prog aF58.cfg.pm aF58.cfg.lz Try.f58 = some aF58 := by kernel_rfl
theorem kF58 : aF58.ok = true := by kernel_rfl

-- decoupage/decoupageref07.Same
def aF59 : AFun := ⟨⟨26, [], false⟩, [.tmp 4],
 .seq (.reg (.op ⟨some 4, .p (.mov (.const (.bool false))), none⟩ .done))
 (.seq (.seq (.reg (.op ⟨some 6, .p (.mov (.tmp 0)), none⟩
 (.op ⟨some 7, .p (.lenS (.tmp 6)), none⟩
 (.op ⟨some 8, .p (.mov (.tmp 1)), none⟩
 (.op ⟨some 9, .p (.lenS (.tmp 8)), none⟩
 (.op ⟨some 10, .p (.int2 .neq (.tmp 7) (.tmp 9)), none⟩ .done))))))
 (.cond (.tmp 10) (.seq (.reg (.op ⟨some 4, .p (.mov (.const (.bool false))), none⟩ .done))
 (.ret))
 (.skip)))
 (.seq (.seq (.reg (.op ⟨some 11, .p (.mov (.tmp 0)), none⟩
 (.op ⟨some 12, .p (.lenS (.tmp 11)), none⟩
 (.op ⟨some 13, .p (.mov (.const (.int .i64 0))), none⟩ .done))))
 (.block 0 (.loop (.seq (.reg (.op ⟨some 14, .p (.int2 .lss (.tmp 13) (.tmp 12)), none⟩ .done))
 (.seq (.cond (.tmp 14) (.skip)
 (.exit 0))
 (.seq (.block 1 (.seq (.reg (.op ⟨some 15, .p (.mov (.tmp 13)), none⟩
 (.op ⟨some 5, .p (.mov (.tmp 15)), none⟩ .done)))
 (.seq (.reg (.op ⟨some 16, .p (.mov (.tmp 0)), none⟩
 (.op ⟨some 17, .p (.mov (.tmp 5)), none⟩
 (.op ⟨some 18, .p (.idxS 49 (.tmp 16) (.tmp 17)), none⟩
 (.op ⟨some 20, .p (.mov (.tmp 1)), none⟩
 (.op ⟨some 21, .p (.mov (.tmp 5)), none⟩
 (.op ⟨some 22, .p (.idxS 49 (.tmp 20) (.tmp 21)), none⟩
 (.both (.op ⟨some 19, .h (.load 49 true (.tmp 18)), none⟩
 (.op ⟨some 23, .h (.load 49 true (.tmp 22)), none⟩
 (.op ⟨some 24, .p (.eqa [false, true, true, true, true, true, true, true, true, true, true, true, true, true, true, true, true, true, true, true, true, true, true, true, true, true, true, true, true, true, true, true, true, true, true, true, true, true, true, true, true, true, false, false, true, false, true, true, true] true (.tmp 19) (.tmp 23)), none⟩
 (.done))))
 (.op ⟨some 23, .h (.load 49 true (.tmp 22)), none⟩
 (.op ⟨some 19, .h (.load 49 true (.tmp 18)), none⟩
 (.op ⟨some 24, .p (.eqa [false, true, true, true, true, true, true, true, true, true, true, true, true, true, true, true, true, true, true, true, true, true, true, true, true, true, true, true, true, true, true, true, true, true, true, true, true, true, true, true, true, true, false, false, true, false, true, true, true] true (.tmp 19) (.tmp 23)), none⟩
 (.done))))))))))))
 (.cond (.tmp 24) (.seq (.reg (.op ⟨some 4, .p (.mov (.const (.bool false))), none⟩ .done))
 (.ret))
 (.skip)))))
 (.reg (.op ⟨some 25, .p (.int2 .add (.tmp 13) (.const (.int .i64 1))), none⟩
 (.op ⟨some 13, .p (.mov (.tmp 25)), none⟩ .done)))))))))
 (.seq (.reg (.op ⟨some 4, .p (.mov (.const (.bool true))), none⟩ .done))
 (.ret))))⟩

theorem cF59 : compF Try.prog aF59.cfg.pm aF59.cfg.lz Try.f59 = some aF59 := by kernel_rfl
theorem kF59 : aF59.ok = true := by kernel_rfl

-- decoupage/decoupageref07.Bytes
def aF60 : AFun := ⟨⟨41, [], false⟩, [.tmp 2],
 .seq (.reg (.op ⟨some 2, .p (.mov (.const (.slice none 0 0))), none⟩ .done))
 (.seq (.reg (.op ⟨some 6, .p (.mov (.tmp 0)), none⟩
 (.op ⟨some 7, .p (.lenS (.tmp 6)), none⟩
 (.op ⟨some 8, .p (.conv .u64 (.tmp 7)), none⟩
 (.op ⟨some 9, .call 49 [.tmp 8, .const (.int .i64 4)], none⟩
 (.op ⟨some 3, .p (.mov (.tmp 9)), none⟩ .done))))))
 (.seq (.seq (.reg (.op ⟨some 10, .p (.mov (.tmp 0)), none⟩
 (.op ⟨some 11, .p (.lenS (.tmp 10)), none⟩
 (.op ⟨some 12, .p (.mov (.const (.int .i64 0))), none⟩ .done))))
 (.block 0 (.loop (.seq (.reg (.op ⟨some 13, .p (.int2 .lss (.tmp 12) (.tmp 11)), none⟩ .done))
 (.seq (.cond (.tmp 13) (.skip)
 (.exit 0))
 (.seq (.block 1 (.seq (.reg (.op ⟨some 14, .p (.mov (.tmp 12)), none⟩
 (.op ⟨some 4, .p (.mov (.tmp 14)), none⟩ .done)))
 (.seq (.seq (.reg (.op ⟨some 15, .p (.mov (.tmp 4)), none⟩
 (.op ⟨some 16, .p (.int2 .gtr (.tmp 15) (.const (.int .i64 0))), none⟩ .done)))
 (.cond (.tmp 16) (.seq (.reg (.op ⟨some 17, .p (.mov (.tmp 0)), none⟩
 (.op ⟨some 18, .p (.mov (.tmp 4)), none⟩
 (.op ⟨some 19, .p (.int2 .sub (.tmp 18) (.const (.int .i64 1))), none⟩
 (.op ⟨some 20, .call 61 [.tmp 17, .tmp 19], none⟩
 (.op ⟨some 21, .p (.mov (.tmp 0)), none⟩
 (.op ⟨some 22, .p (.mov (.tmp 4)), none⟩
 (.op ⟨some 23, .call 61 [.tmp 21, .tmp 22], none⟩
 (.op ⟨some 24, .p (.int2 .sub (.tmp 20) (.tmp 23)), none⟩
 (.op ⟨some 25, .p (.int2 .add (.tmp 24) (.const (.int .i64 1))), none⟩
 (.op ⟨some 5, .p (.mov (.tmp 25)), none⟩ .done)))))))))))
 (.reg (.op ⟨some 26, .p (.mov (.tmp 3)), none⟩
 (.op ⟨some 27, .p (.mov (.tmp 5)), none⟩
 (.op ⟨some 28, .p (.conv .u64 (.tmp 27)), none⟩
 (.op ⟨some 29, .call 49 [.tmp 28, .const (.int .i64 4)], none⟩
 (.op ⟨some 30, .h (.append 1 1 (.tmp 26) (.tmp 29)), none⟩
 (.op ⟨some 3, .p (.mov (.tmp 30)), none⟩ .done))))))))
 (.skip)))
 (.reg (.op ⟨some 31, .p (.mov (.tmp 3)), none⟩
 (.op ⟨some 32, .p (.mov (.tmp 0)), none⟩
 (.op ⟨some 33, .p (.mov (.tmp 4)), none⟩
 (.op ⟨some 34, .p (.idxS 49 (.tmp 32) (.tmp 33)), none⟩
 (.op ⟨some 35, .p (.fieldAddr 0 (.tmp 34)), none⟩
 (.op ⟨some 36, .h (.load 48 true (.tmp 35)), none⟩
 (.op ⟨some 37, .call 39 [.tmp 36], none⟩
 (.op ⟨some 38, .h (.append 1 1 (.tmp 31) (.tmp 37)), none⟩
 (.op ⟨some 3, .p (.mov (.tmp 38)), none⟩ .done)))))))))))))
 (.reg (.op ⟨some 39, .p (.int2 .add (.tmp 12) (.const (.int .i64 1))), none⟩
 (.op ⟨some 12, .p (.mov (.tmp 39)), none⟩ .done)))))))))
 (.seq (.reg (.op ⟨some 40, .p (.mov (.tmp 3)), none⟩
 (.op ⟨some 2, .p (.mov (.tmp 40)), none⟩ .done)))
 (.ret))))⟩

theorem cF60 : compF Try.prog aF60.cfg.pm aF60.cfg.lz Try.f60 = some aF60 := by kernel_rfl
theorem kF60 : aF60.ok = true := by kernel_rfl

-- decoupage/decoupageref07.Deep
def aF61 : AFun := ⟨⟨16, [], false⟩, [.tmp 4],
 .seq (.reg (.op ⟨some 4, .p (.mov (.const (.int .i64 0))), none⟩ .done))
 (.seq (.reg (.op ⟨some 5, .p (.mov (.const (.int .i64 0))), none⟩ .done))
 (.seq (.block 0 (.loop (.seq (.seq (.reg (.op ⟨some 6, .p (.mov (.tmp 1)), none⟩
 (.op ⟨some 7, .p (.int2 .geq (.tmp 6) (.const (.int .i64 0))), none⟩ .done)))
 (.cond (.tmp 7) (.skip)
 (.exit 0)))
 (.block 1 (.seq (.reg (.op ⟨some 8, .p (.mov (.tmp 5)), none⟩
 (.op ⟨some 9, .p (.int2 .add (.tmp 8) (.const (.int .i64 1))), none⟩
 (.op ⟨some 5, .p (.mov (.tmp 9)), none⟩ .done))))
 (.reg (.op ⟨some 10, .p (.mov (.tmp 0)), none⟩
 (.op ⟨some 11, .p (.mov (.tmp 1)), none⟩
 (.op ⟨some 12, .p (.idxS 49 (.tmp 10) (.tmp 11)), none⟩
 (.op ⟨some 13, .p (.fieldAddr 48 (.tmp 12)), none⟩
 (.op ⟨some 14, .h (.load 1 false (.tmp 13)), none⟩
 (.op ⟨some 1, .p (.mov (.tmp 14)), none⟩ .done))))))))))))
 (.seq (.reg (.op ⟨some 15, .p (.mov (.tmp 5)), none⟩
 (.op ⟨some 4, .p (.mov (.tmp 15)), none⟩ .done)))
 (.ret))))⟩

theorem cF61 : compF Try.prog aF61.cfg.pm aF61.cfg.lz Try.f61 = some aF61 := by kernel_rfl
theorem kF61 : aF61.ok = true := by kernel_rfl

-- decoupage/tree.Encode
def aF62 : AFun := ⟨⟨39, [], false⟩, [.tmp 2, .tmp 3],
 .seq (.reg (.op ⟨some 2, .p (.mov (.const (.slice none 0 0))), none⟩
 (.op ⟨some 3, .p (.mov (.const (.int .i64 0))), none⟩ .done)))
 (.seq (.seq (.reg (.op ⟨some 9, .p (.mov (.tmp 0)), none⟩
 (.op ⟨some 10, .call 51 [.tmp 9], none⟩
 (.op ⟨some 11, .p (.un .not (.tmp 10)), none⟩ .done))))
 (.cond (.tmp 11) (.seq (.reg (.op ⟨some 2, .p (.mov (.const (.slice none 0 0))), none⟩
 (.op ⟨some 3, .p (.mov (.const (.int .i64 2))), none⟩ .done)))
 (.ret))
 (.skip)))
 (.seq (.reg (.op ⟨some 4, .h (.alloc [.slice none 0 0]), none⟩ .done))
 (.seq (.reg (.op ⟨some 12, .p (.mov (.tmp 0)), none⟩
 (.op ⟨some 13, .p (.lenS (.tmp 12)), none⟩
 (.op ⟨some 14, .p (.conv .u32 (.tmp 13)), none⟩
 (.op ⟨some 15, .call 26 [.tmp 4, .tmp 14], none⟩ .done)))))
 (.seq (.seq (.reg (.op ⟨some 16, .p (.mov (.tmp 0)), none⟩
 (.op ⟨some 17, .p (.lenS (.tmp 16)), none⟩
 (.op ⟨some 18, .p (.mov (.const (.int .i64 0))), none⟩ .done))))
 (.block 0 (.loop (.seq (.reg (.op ⟨some 19, .p (.int2 .lss (.tmp 18) (.tmp 17)), none⟩ .done))
 (.seq (.cond (.tmp 19) (.skip)
 (.exit 0))
 (.seq (.block 1 (.seq (.reg (.op ⟨some 20, .p (.mov (.tmp 18)), none⟩
 (.op ⟨some 21, .p (.idxS 49 (.tmp 16) (.tmp 18)), none⟩
 (.op ⟨some 22, .h (.load 49 true (.tmp 21)), none⟩
 (.op ⟨some 6, .h (.alloc [.bool false, .int .i64 0, .int .i64 0, .int .i64 0, .int .i64 0, .int .i64 0, .int .i64 0, .int .i64 0, .int .i64 0, .int .i64 0, .int .i64 0, .int .i64 0, .int .i64 0, .int .i64 0, .int .i64 0, .int .i64 0, .int .i64 0, .int .i64 0, .int .i64 0, .int .i64 0, .int .i64 0, .int .i64 0, .int .i64 0, .int .i64 0, .int .i64 0, .int .i64 0, .int .i64 0, .int .i64 0, .int .i64 0, .int .i64 0, .int .i64 0, .int .i64 0, .int .i64 0, .int .i64 0, .int .i64 0, .int .i64 0, .int .i64 0, .int .i64 0, .int .i64 0, .int .i64 0, .int .i64 0, .int .i64 0, .bool false, .bool false, .int .i64 0, .bool false, .int .i64 0, .int .i64 0, .int .i64 0]), none⟩
 (.op ⟨some 5, .p (.mov (.tmp 20)), none⟩
 (.op ⟨none, .h (.store 49 (.tmp 6) (.tmp 22)), none⟩ .done)))))))
 (.seq (.seq (.reg (.op ⟨some 23, .p (.mov (.tmp 5)), none⟩
 (.op ⟨some 24, .p (.int2 .gtr (.tmp 23) (.const (.int .i64 0))), none⟩ .done)))
 (.cond (.tmp 24) (.seq (.reg (.op ⟨some 26, .p (.mov (.tmp 0)), none⟩
 (.op ⟨some 27, .p (.mov (.tmp 5)), none⟩
 (.op ⟨some 28, .call 83 [.tmp 26, .tmp 27], none⟩
 (.op ⟨some 25, .p (.mov (.tmp 28)), none⟩
 (.op ⟨some 29, .p (.extract (.tmp 25) 0), none⟩
 (.op ⟨some 30, .p (.extract (.tmp 25) 1), none⟩
 (.op ⟨some 7, .p (.mov (.tmp 29)), none⟩
 (.op ⟨some 8, .p (.mov (.tmp 30)), none⟩ .done)))))))))
 (.reg (.op ⟨some 31, .p (.mov (.tmp 7)), none⟩
 (.op ⟨some 32, .p (.conv .u32 (.tmp 31)), none⟩
 (.op ⟨some 33, .call 26 [.tmp 4, .tmp 32], none⟩ .done)))))
 (.skip)))
 (.reg (.op ⟨some 34, .p (.fieldAddr 0 (.tmp 6)), none⟩
 (.op ⟨some 35, .h (.load 48 true (.tmp 34)), none⟩
 (.op ⟨some 36, .call 56 [.tmp 4, .tmp 35], none⟩ .done)))))))
 (.reg (.op ⟨some 37, .p (.int2 .add (.tmp 18) (.const (.int .i64 1))), none⟩
 (.op ⟨some 18, .p (.mov (.tmp 37)), none⟩ .done)))))))))
 (.seq (.reg (.op ⟨some 38, .call 29 [.tmp 4], none⟩
 (.op ⟨some 2, .p (.mov (.tmp 38)), none⟩
 (.op ⟨some 3, .p (.mov (.const (.int .i64 0))), none⟩ .done))))
 (.ret))))))⟩

theorem cF62 : compF Try.prog aF62.cfg.pm aF62.cfg.lz Try.f62 = some aF62 := by kernel_rfl
theorem kF62 : aF62.ok = true := by kernel_rfl

-- decoupage/tree.Same
def aF63 : AFun := ⟨⟨8, [], false⟩, [.tmp 4],
 .seq (.reg (.op ⟨some 4, .p (.mov (.const (.bool false))), none⟩ .done))
 (.seq (.reg (.op ⟨some 5, .p (.mov (.tmp 0)), none⟩
 (.op ⟨some 6, .p (.mov (.tmp 1)), none⟩
 (.op ⟨some 7, .call 90 [.tmp 5, .tmp 6], none⟩
 (.op ⟨some 4, .p (.mov (.tmp 7)), none⟩ .done)))))
 (.ret))⟩

theorem cF63 : compF Try.prog aF63.cfg.pm aF63.cfg.lz Try.f63 = some aF63 := by kernel_rfl
theorem kF63 : aF63.ok = true := by kernel_rfl

-- decoupage/style.lengths
def aF64 : AFun := ⟨⟨43, [], false⟩, [.tmp 2],
 .seq (.reg (.op ⟨some 2, .p (.mov (.const (.slice none 0 0))), none⟩ .done))
 (.seq (.reg (.op ⟨some 3, .h (.alloc [.slice none 0 0]), none⟩ .done))
 (.seq (.reg (.op ⟨some 5, .p (.mkFunc 91 [.tmp 3]), none⟩
 (.op ⟨some 4, .p (.mov (.tmp 5)), none⟩ .done)))
 (.seq (.reg (.op ⟨some 6, .p (.mov (.tmp 4)), none⟩
 (.op ⟨some 7, .p (.mov (.tmp 0)), none⟩
 (.op ⟨some 8, .p (.nilchk (.tmp 7)), none⟩
 (.op ⟨some 9, .p (.fieldAddr 2 (.tmp 8)), none⟩
 (.op ⟨some 10, .callv (.tmp 6) [.tmp 9], none⟩ .done))))))
 (.seq (.reg (.op ⟨some 12, .p (.mov (.tmp 0)), none⟩
 (.op ⟨some 13, .p (.nilchk (.tmp 12)), none⟩
 (.op ⟨some 14, .p (.fieldAddr 10 (.tmp 13)), none⟩
 (.op ⟨some 15, .p (.mov (.tmp 0)), none⟩
 (.op ⟨some 16, .p (.nilchk (.tmp 15)), none⟩
 (.op ⟨some 17, .p (.fieldAddr 12 (.tmp 16)), none⟩
 (.op ⟨some 18, .p (.mov (.tmp 0)), none⟩
 (.op ⟨some 19, .p (.nilchk (.tmp 18)), none⟩
 (.op ⟨some 20, .p (.fieldAddr 14 (.tmp 19)), none⟩
 (.op ⟨some 21, .p (.mov (.tmp 0)), none⟩
 (.op ⟨some 22, .p (.nilchk (.tmp 21)), none⟩
 (.op ⟨some 23, .p (.fieldAddr 16 (.tmp 22)), none⟩
 (.op ⟨some 24, .p (.mov (.tmp 0)), none⟩
 (.op ⟨some 25, .p (.nilchk (.tmp 24)), none⟩
 (.op ⟨some 26, .p (.fieldAddr 18 (.tmp 25)), none⟩
 (.op ⟨some 27, .p (.mov (.tmp 0)), none⟩
 (.op ⟨some 28, .p (.nilchk (.tmp 27)), none⟩
 (.op ⟨some 29, .p (.fieldAddr 20 (.tmp 28)), none⟩
 (.both (.op ⟨some 11, .h (.load 1 false (.tmp 3)), none⟩
 (.op ⟨some 30, .h (.buildSlice 1 6 [.pointer none, .pointer none, .pointer none, .pointer none, .pointer none, .pointer none] [(0, 1, .tmp 14), (1, 1, .tmp 17), (2, 1, .tmp 20), (3, 1, .tmp 23), (4, 1, .tmp 26), (5, 1, .tmp 29)]), none⟩
 (.op ⟨some 31, .h (.append 1 8 (.tmp 11) (.tmp 30)), none⟩
 (.op ⟨none, .h (.store 1 (.tmp 3) (.tmp 31)), none⟩
 (.done)))))
 (.op ⟨some 30, .h (.buildSlice 1 6 [.pointer none, .pointer none, .pointer none, .pointer none, .pointer none, .pointer none] [(0, 1, .tmp 14), (1, 1, .tmp 17), (2, 1, .tmp 20), (3, 1, .tmp 23), (4, 1, .tmp 26), (5, 1, .tmp 29)]), none⟩
 (.op ⟨some 11, .h (.load 1 false (.tmp 3)), none⟩
 (.op ⟨some 31, .h (.append 1 8 (.tmp 11) (.tmp 30)), none⟩
 (.op ⟨none, .h (.store 1 (.tmp 3) (.tmp 31)), none⟩
 (.done)))))))))))))))))))))))))
 (.seq (.reg (.op ⟨some 32, .p (.mov (.tmp 4)), none⟩
 (.op ⟨some 33, .p (.mov (.tmp 0)), none⟩
 (.op ⟨some 34, .p (.nilchk (.tmp 33)), none⟩
 (.op ⟨some 35, .p (.fieldAddr 22 (.tmp 34)), none⟩
 (.op ⟨some 36, .callv (.tmp 32) [.tmp 35], none⟩ .done))))))
 (.seq (.reg (.op ⟨some 37, .p (.mov (.tmp 4)), none⟩
 (.op ⟨some 38, .p (.mov (.tmp 0)), none⟩
 (.op ⟨some 39, .p (.nilchk (.tmp 38)), none⟩
 (.op ⟨some 40, .p (.fieldAddr 30 (.tmp 39)), none⟩
 (.op ⟨some 41, .callv (.tmp 37) [.tmp 40], none⟩ .done))))))
 (.seq (.reg (.op ⟨some 42, .h (.load 1 false (.tmp 3)), none⟩
 (.op ⟨some 2, .p (.mov (.tmp 42)), none⟩ .done)))
 (.ret))))))))⟩

theorem cF64 : compF Try.prog aF64.cfg.pm aF64.cfg.lz Try.f64 = some aF64 := by kernel_rfl
theorem kF64 : aF64.ok = true := by kernel_rfl

-- decoupage/style.formed
def aF65 : AFun := ⟨⟨21, [], false⟩, [.tmp 2],
 .seq (.reg (.op ⟨some 1, .h (.box (.tmp 0)), none⟩
 (.op ⟨some 2, .p (.mov (.const (.bool false))), none⟩ .done)))
 (.seq (.reg (.op ⟨some 3, .p (.fieldAddr 0 (.tmp 1)), none⟩
 (.op ⟨some 4, .h (.load 1 false (.tmp 3)), none⟩
 (.op ⟨some 5, .p (.int2 .eql (.tmp 4) (.const (.int .i64 0))), none⟩
 (.op ⟨some 6, .p (.mov (.tmp 5)), none⟩
 (.op ⟨some 7, .p (.fieldAddr 1 (.tmp 1)), some (6, true)⟩
 (.op ⟨some 8, .h (.load 1 false (.tmp 7)), some (6, true)⟩
 (.op ⟨some 9, .p (.int2 .eql (.tmp 8) (.const (.int .i64 0))), some (6, true)⟩
 (.op ⟨some 10, .p (.pick (.tmp 6) (.tmp 9) (.const (.bool false))), none⟩
 (.op ⟨some 11, .p (.mov (.tmp 10)), none⟩
 (.op ⟨some 12, .p (.fieldAddr 0 (.tmp 1)), some (11, false)⟩
 (.op ⟨some 13, .h (.load 1 false (.tmp 12)), some (11, false)⟩
 (.op ⟨some 14, .p (.int2 .eql (.tmp 13) (.const (.int .i64 1))), some (11, false)⟩
 (.op ⟨some 15, .p (.pick (.tmp 11) (.const (.bool true)) (.tmp 14)), none⟩
 (.op ⟨some 16, .p (.mov (.tmp 15)), none⟩
 (.op ⟨some 17, .p (.fieldAddr 0 (.tmp 1)), some (16, false)⟩
 (.op ⟨some 18, .h (.load 1 false (.tmp 17)), some (16, false)⟩
 (.op ⟨some 19, .p (.int2 .eql (.tmp 18) (.const (.int .i64 2))), some (16, false)⟩
 (.op ⟨some 20, .p (.pick (.tmp 16) (.const (.bool true)) (.tmp 19)), none⟩
 (.op ⟨some 2, .p (.mov (.tmp 20)), none⟩ .done))))))))))))))))))))
 (.ret))⟩

theorem cF65 : compF Try.prog aF65.cfg.pm aF65.cfg.lz Try.f65 = some aF65 := by kernel_rfl
theorem kF65 : aF65.ok = true := by kernel_rfl

-- decoupage/decoupageref06.Lens
def aF66 : AFun := ⟨⟨31, [], false⟩, [.tmp 2],
 .seq (.reg (.op ⟨some 1, .h (.box (.tmp 0)), none⟩
 (.op ⟨some 2, .p (.mov (.const (.slice none 0 0))), none⟩ .done)))
 (.seq (.reg (.op ⟨some 4, .h (.buildSlice 2 0 [] []), none⟩
 (.op ⟨some 5, .p (.fieldAddr 2 (.tmp 1)), none⟩
 (.op ⟨some 6, .p (.sliceA 4 (.tmp 5)), none⟩
 (.op ⟨some 7, .h (.append 2 16 (.tmp 4) (.tmp 6)), none⟩
 (.op ⟨some 3, .p (.mov (.tmp 7)), none⟩ .done))))))
 (.seq (.reg (.op ⟨some 8, .p (.mov (.tmp 3)), none⟩
 (.op ⟨some 9, .p (.fieldAddr 10 (.tmp 1)), none⟩
 (.op ⟨some 10, .h (.load 2 true (.tmp 9)), none⟩
 (.op ⟨some 11, .p (.fieldAddr 12 (.tmp 1)), none⟩
 (.op ⟨some 12, .h (.load 2 true (.tmp 11)), none⟩
 (.op ⟨some 13, .p (.fieldAddr 14 (.tmp 1)), none⟩
 (.op ⟨some 14, .h (.load 2 true (.tmp 13)), none⟩
 (.op ⟨some 15, .p (.fieldAddr 16 (.tmp 1)), none⟩
 (.op ⟨some 16, .h (.load 2 true (.tmp 15)), none⟩
 (.op ⟨some 17, .p (.fieldAddr 18 (.tmp 1)), none⟩
 (.op ⟨some 18, .h (.load 2 true (.tmp 17)), none⟩
 (.op ⟨some 19, .p (.fieldAddr 20 (.tmp 1)), none⟩
 (.op ⟨some 20, .h (.load 2 true (.tmp 19)), none⟩
 (.op ⟨some 21, .h (.buildSlice 2 6 [.int .i64 0, .int .i64 0, .int .i64 0, .int .i64 0, .int .i64 0, .int .i64 0, .int .i64 0, .int .i64 0, .int .i64 0, .int .i64 0, .int .i64 0, .int .i64 0] [(0, 2, .tmp 10), (2, 2, .tmp 12), (4, 2, .tmp 14), (6, 2, .tmp 16), (8, 2, .tmp 18), (10, 2, .tmp 20)]), none⟩
 (.op ⟨some 22, .h (.append 2 16 (.tmp 8) (.tmp 21)), none⟩
 (.op ⟨some 3, .p (.mov (.tmp 22)), none⟩ .done)))))))))))))))))
 (.seq (.reg (.op ⟨some 23, .p (.mov (.tmp 3)), none⟩
 (.op ⟨some 24, .p (.fieldAddr 22 (.tmp 1)), none⟩
 (.op ⟨some 25, .p (.sliceA 4 (.tmp 24)), none⟩
 (.op ⟨some 26, .h (.append 2 16 (.tmp 23) (.tmp 25)), none⟩
 (.op ⟨some 3, .p (.mov (.tmp 26)), none⟩ .done))))))
 (.seq (.reg (.op ⟨some 27, .p (.mov (.tmp 3)), none⟩
 (.op ⟨some 28, .p (.fieldAddr 30 (.tmp 1)), none⟩
 (.op ⟨some 29, .p (.sliceA 4 (.tmp 28)), none⟩
 (.op ⟨some 30, .h (.append 2 16 (.tmp 27) (.tmp 29)), none⟩
 (.op ⟨some 2, .p (.mov (.tmp 30)), none⟩ .done))))))
 (.ret)))))⟩

theorem cF66 : compF Try.prog aF66.cfg.pm aF66.cfg.lz Try.f66 = some aF66 := by kernel_rfl
theorem kF66 : aF66.ok = true := by kernel_rfl

-- decoupage/style.within
def aF67 : AFun := ⟨⟨14, [], false⟩, [.tmp 4],
 .seq (.reg (.op ⟨some 4, .p (.mov (.const (.bool false))), none⟩ .done))
 (.seq (.reg (.op ⟨some 5, .p (.mov (.tmp 0)), none⟩
 (.op ⟨some 6, .p (.mov (.tmp 1)), none⟩
 (.op ⟨some 7, .p (.un .neg (.tmp 6)), none⟩
 (.op ⟨some 8, .p (.int2 .geq (.tmp 5) (.tmp 7)), none⟩
 (.op ⟨some 9, .p (.mov (.tmp 8)), none⟩
 (.op ⟨some 10, .p (.mov (.tmp 0)), some (9, true)⟩
 (.op ⟨some 11, .p (.mov (.tmp 1)), some (9, true)⟩
 (.op ⟨some 12, .p (.int2 .leq (.tmp 10) (.tmp 11)), some (9, true)⟩
 (.op ⟨some 13, .p (.pick (.tmp 9) (.tmp 12) (.const (.bool false))), none⟩
 (.op ⟨some 4, .p (.mov (.tmp 13)), none⟩ .done)))))))))))
 (.ret))⟩

theorem cF67 : compF Try.prog aF67.cfg.pm aF67.cfg.lz Try.f67 = some aF67 := by kernel_rfl
theorem kF67 : aF67.ok = true := by kernel_rfl

-- (*decoupage/scroll.Out).wide
def aF68 : AFun := ⟨⟨29, [], false⟩, [],
 .seq (.seq (.reg (.op ⟨some 7, .p (.mov (.tmp 0)), none⟩
 (.op ⟨some 8, .p (.eqn 0 false (.tmp 7)), none⟩ .done)))
 (.cond (.tmp 8) (.ret)
 (.skip)))
 (.seq (.reg (.op ⟨some 9, .p (.mov (.tmp 2)), none⟩
 (.op ⟨some 10, .p (.int2 .sub (.tmp 9) (.const (.int .i64 1))), none⟩
 (.op ⟨some 6, .p (.mov (.tmp 10)), none⟩ .done))))
 (.block 0 (.loop (.seq (.seq (.reg (.op ⟨some 11, .p (.mov (.tmp 6)), none⟩
 (.op ⟨some 12, .p (.int2 .geq (.tmp 11) (.const (.int .i64 0))), none⟩ .done)))
 (.cond (.tmp 12) (.skip)
 (.exit 0)))
 (.seq (.block 1 (.reg (.op ⟨some 15, .p (.mov (.tmp 0)), none⟩
 (.op ⟨some 16, .p (.mov (.tmp 0)), none⟩
 (.op ⟨some 17, .p (.nilchk (.tmp 16)), none⟩
 (.op ⟨some 18, .p (.fieldAddr 0 (.tmp 17)), none⟩
 (.op ⟨some 20, .p (.mov (.tmp 1)), none⟩
 (.op ⟨some 21, .p (.mov (.tmp 6)), none⟩
 (.op ⟨some 22, .p (.int2 .mul (.const (.int .i64 8)) (.tmp 21)), none⟩
 (.op ⟨some 23, .p (.int2 .shr (.tmp 20) (.tmp 22)), none⟩
 (.op ⟨some 24, .p (.conv .u8 (.tmp 23)), none⟩
 (.both (.op ⟨some 19, .h (.load 1 false (.tmp 18)), none⟩
 (.op ⟨some 25, .h (.buildSlice 1 1 [.int .u8 0] [(0, 1, .tmp 24)]), none⟩
 (.op ⟨some 26, .h (.append 1 1 (.tmp 19) (.tmp 25)), none⟩
 (.op ⟨some 27, .p (.nilchk (.tmp 15)), none⟩
 (.op ⟨some 28, .p (.fieldAddr 0 (.tmp 27)), none⟩
 (.op ⟨none, .h (.store 1 (.tmp 28) (.tmp 26)), none⟩
 (.done)))))))
 (.op ⟨some 25, .h (.buildSlice 1 1 [.int .u8 0] [(0, 1, .tmp 24)]), none⟩
 (.op ⟨some 19, .h (.load 1 false (.tmp 18)), none⟩
 (.op ⟨some 26, .h (.append 1 1 (.tmp 19) (.tmp 25)), none⟩
 (.op ⟨some 27, .p (.nilchk (.tmp 15)), none⟩
 (.op ⟨some 28, .p (.fieldAddr 0 (.tmp 27)), none⟩
 (.op ⟨none, .h (.store 1 (.tmp 28) (.tmp 26)), none⟩
 (.done)))))))))))))))))))
 (.reg (.op ⟨some 13, .p (.mov (.tmp 6)), none⟩
 (.op ⟨some 14, .p (.int2 .sub (.tmp 13) (.const (.int .i64 1))), none⟩
 (.op ⟨some 6, .p (.mov (.tmp 14)), none⟩ .done)))))))))⟩

theorem cF68 : compF Try.prog aF68.cfg.pm aF68.cfg.lz Try.f68 = some aF68 := by kernel_rfl
theorem kF68 : aF68.ok = true := by kernel_rfl

-- slices.Clone[[]byte,byte]
def aF69 : AFun := ⟨⟨8, [], false⟩, [.tmp 2],
 .seq (.reg (.op ⟨some 2, .p (.mov (.const (.slice none 0 0))), none⟩ .done))
 (.seq (.seq (.reg (.op ⟨some 3, .p (.mov (.tmp 0)), none⟩
 (.op ⟨some 4, .p (.eqn 1 false (.tmp 3)), none⟩ .done)))
 (.cond (.tmp 4) (.seq (.reg (.op ⟨some 2, .p (.mov (.const (.slice none 0 0))), none⟩ .done))
 (.ret))
 (.skip)))
 (.seq (.reg (.op ⟨some 5, .h (.buildSlice 1 0 [] []), none⟩
 (.op ⟨some 6, .p (.mov (.tmp 0)), none⟩
 (.op ⟨some 7, .h (.append 1 1 (.tmp 5) (.tmp 6)), none⟩
 (.op ⟨some 2, .p (.mov (.tmp 7)), none⟩ .done)))))
 (.ret)))⟩

theorem cF69 : compF Try.prog aF69.cfg.pm aF69.cfg.lz Try.f69 = some aF69 := by kernel_rfl
theorem kF69 : aF69.ok = true := by kernel_rfl

-- (*decoupage/scroll.In).wide
def aF70 : AFun := ⟨⟨52, [], false⟩, [.tmp 4],
 .seq (.reg (.op ⟨some 4, .p (.mov (.const (.int .u64 0))), none⟩ .done))
 (.seq (.seq (.reg (.op ⟨some 8, .p (.mov (.tmp 0)), none⟩
 (.op ⟨some 9, .p (.eqn 0 false (.tmp 8)), none⟩
 (.op ⟨some 10, .p (.mov (.tmp 9)), none⟩
 (.op ⟨some 11, .p (.mov (.tmp 0)), some (10, false)⟩
 (.op ⟨some 12, .p (.nilchk (.tmp 11)), some (10, false)⟩
 (.op ⟨some 13, .p (.fieldAddr 1 (.tmp 12)), some (10, false)⟩
 (.op ⟨some 14, .h (.load 1 false (.tmp 13)), some (10, false)⟩
 (.op ⟨some 15, .p (.pick (.tmp 10) (.const (.bool true)) (.tmp 14)), none⟩ .done)))))))))
 (.cond (.tmp 15) (.seq (.reg (.op ⟨some 4, .p (.mov (.const (.int .u64 0))), none⟩ .done))
 (.ret))
 (.skip)))
 (.seq (.seq (.reg (.op ⟨some 16, .p (.mov (.tmp 0)), none⟩
 (.op ⟨some 17, .p (.nilchk (.tmp 16)), none⟩
 (.op ⟨some 18, .p (.fieldAddr 0 (.tmp 17)), none⟩
 (.op ⟨some 19, .h (.load 1 false (.tmp 18)), none⟩
 (.op ⟨some 20, .p (.lenS (.tmp 19)), none⟩
 (.op ⟨some 21, .p (.mov (.tmp 1)), none⟩
 (.op ⟨some 22, .p (.int2 .lss (.tmp 20) (.tmp 21)), none⟩ .done))))))))
 (.cond (.tmp 22) (.seq (.reg (.op ⟨some 23, .p (.mov (.tmp 0)), none⟩
 (.op ⟨some 24, .call 37 [.tmp 23], none⟩ .done)))
 (.seq (.reg (.op ⟨some 4, .p (.mov (.const (.int .u64 0))), none⟩ .done))
 (.ret)))
 (.skip)))
 (.seq (.reg (.op ⟨some 5, .p (.mov (.const (.int .u64 0))), none⟩ .done))
 (.seq (.seq (.reg (.op ⟨some 25, .p (.mov (.tmp 0)), none⟩
 (.op ⟨some 26, .p (.nilchk (.tmp 25)), none⟩
 (.op ⟨some 27, .p (.fieldAddr 0 (.tmp 26)), none⟩
 (.op ⟨some 28, .h (.load 1 false (.tmp 27)), none⟩
 (.op ⟨some 29, .p (.mov (.tmp 1)), none⟩
 (.op ⟨some 30, .p (.sliceS 1 (.tmp 28) none (some (.tmp 29))), none⟩
 (.op ⟨some 31, .p (.lenS (.tmp 30)), none⟩
 (.op ⟨some 32, .p (.mov (.const (.int .i64 0))), none⟩ .done)))))))))
 (.block 0 (.loop (.seq (.reg (.op ⟨some 33, .p (.int2 .lss (.tmp 32) (.tmp 31)), none⟩ .done))
 (.seq (.cond (.tmp 33) (.skip)
 (.exit 0))
 (.seq (.block 1 (.seq (.reg (.op ⟨some 34, .p (.idxS 1 (.tmp 30) (.tmp 32)), none⟩
 (.op ⟨some 35, .h (.load 1 false (.tmp 34)), none⟩
 (.op ⟨some 7, .p (.mov (.tmp 35)), none⟩ .done))))
 (.reg (.op ⟨some 36, .p (.mov (.tmp 5)), none⟩
 (.op ⟨some 37, .p (.int2 .shl (.tmp 36) (.const (.int .u64 8))), none⟩
 (.op ⟨some 38, .p (.mov (.tmp 7)), none⟩
 (.op ⟨some 39, .p (.conv .u64 (.tmp 38)), none⟩
 (.op ⟨some 40, .p (.int2 .or (.tmp 37) (.tmp 39)), none⟩
 (.op ⟨some 5, .p (.mov (.tmp 40)), none⟩ .done)))))))))
 (.reg (.op ⟨some 41, .p (.int2 .add (.tmp 32) (.const (.int .i64 1))), none⟩
 (.op ⟨some 32, .p (.mov (.tmp 41)), none⟩ .done)))))))))
 (.seq (.reg (.op ⟨some 42, .p (.mov (.tmp 0)), none⟩
 (.op ⟨some 43, .p (.mov (.tmp 0)), none⟩
 (.op ⟨some 44, .p (.nilchk (.tmp 43)), none⟩
 (.op ⟨some 45, .p (.fieldAddr 0 (.tmp 44)), none⟩
 (.op ⟨some 46, .h (.load 1 false (.tmp 45)), none⟩
 (.op ⟨some 47, .p (.mov (.tmp 1)), none⟩
 (.op ⟨some 48, .p (.sliceS 1 (.tmp 46) (some (.tmp 47)) none), none⟩
 (.op ⟨some 49, .p (.nilchk (.tmp 42)), none⟩
 (.op ⟨some 50, .p (.fieldAddr 0 (.tmp 49)), none⟩
 (.op ⟨none, .h (.store 1 (.tmp 50) (.tmp 48)), none⟩ .done)))))))))))
 (.seq (.reg (.op ⟨some 51, .p (.mov (.tmp 5)), none⟩
 (.op ⟨some 4, .p (.mov (.tmp 51)), none⟩ .done)))
 (.ret)))))))⟩

theorem cF70 : compF Try.prog aF70.cfg.pm aF70.cfg.lz Try.f70 = some aF70 := by kernel_rfl
theorem kF70 : aF70.ok = true := by kernel_rfl

-- decoupage/decoupageref06.eight
def aF71 : AFun := ⟨⟨6, [], false⟩, [.tmp 2],
 .seq (.reg (.op ⟨some 2, .p (.mov (.const (.slice none 0 0))), none⟩ .done))
 (.seq (.reg (.op ⟨some 3, .p (.mov (.tmp 0)), none⟩
 (.op ⟨some 4, .p (.conv .u64 (.tmp 3)), none⟩
 (.op ⟨some 5, .call 49 [.tmp 4, .const (.int .i64 8)], none⟩
 (.op ⟨some 2, .p (.mov (.tmp 5)), none⟩ .done)))))
 (.ret))⟩

theorem cF71 : compF Try.prog aF71.cfg.pm aF71.cfg.lz Try.f71 = some aF71 := by kernel_rfl
theorem kF71 : aF71.ok = true := by kernel_rfl

-- decoupage/decoupageref06.four
def aF72 : AFun := ⟨⟨19, [], false⟩, [.cell 2 8 true, .cell 3 2 true],
 .seq (.reg (.op ⟨some 1, .h (.box (.tmp 0)), none⟩
 (.op ⟨some 2, .h (.alloc [.int .i64 0, .int .i64 0, .int .i64 0, .int .i64 0, .int .i64 0, .int .i64 0, .int .i64 0, .int .i64 0]), none⟩
 (.op ⟨some 3, .h (.alloc [.slice none 0 0, .bool false]), none⟩ .done))))
 (.seq (.reg (.op ⟨some 4, .h (.alloc [.int .i64 0, .int .i64 0, .int .i64 0, .int .i64 0, .int .i64 0, .int .i64 0, .int .i64 0, .int .i64 0]), none⟩ .done))
 (.seq (.seq (.reg (.op ⟨some 6, .p (.mov (.const (.int .i64 0))), none⟩ .done))
 (.block 0 (.loop (.seq (.reg (.op ⟨some 7, .p (.int2 .lss (.tmp 6) (.const (.int .i64 4))), none⟩ .done))
 (.seq (.cond (.tmp 7) (.skip)
 (.exit 0))
 (.seq (.block 1 (.seq (.reg (.op ⟨some 8, .p (.mov (.tmp 6)), none⟩
 (.op ⟨some 5, .p (.mov (.tmp 8)), none⟩ .done)))
 (.reg (.op ⟨some 10, .p (.mov (.tmp 5)), none⟩
 (.op ⟨some 11, .h (.load 2 true (.tmp 1)), none⟩
 (.op ⟨some 12, .call 73 [.tmp 11], none⟩
 (.op ⟨some 9, .p (.mov (.tmp 12)), none⟩
 (.op ⟨some 13, .p (.extract (.tmp 9) 0), none⟩
 (.op ⟨some 14, .p (.extract (.tmp 9) 1), none⟩
 (.op ⟨some 15, .p (.idxA 4 2 (.tmp 4) (.tmp 10)), none⟩
 (.op ⟨none, .h (.store 2 (.tmp 15) (.tmp 13)), none⟩
 (.op ⟨none, .h (.store 2 (.tmp 1) (.tmp 14)), none⟩ .done))))))))))))
 (.reg (.op ⟨some 16, .p (.int2 .add (.tmp 6) (.const (.int .i64 1))), none⟩
 (.op ⟨some 6, .p (.mov (.tmp 16)), none⟩ .done)))))))))
 (.seq (.reg (.both (.op ⟨some 17, .h (.load 8 true (.tmp 4)), none⟩
 (.both (.op ⟨some 18, .h (.load 2 true (.tmp 1)), none⟩
 (.op ⟨none, .h (.store 8 (.tmp 2) (.tmp 17)), none⟩
 (.op ⟨none, .h (.store 2 (.tmp 3) (.tmp 18)), none⟩
 (.done))))
 (.op ⟨none, .h (.store 8 (.tmp 2) (.tmp 17)), none⟩
 (.op ⟨some 18, .h (.load 2 true (.tmp 1)), none⟩
 (.op ⟨none, .h (.store 2 (.tmp 3) (.tmp 18)), none⟩
 (.done))))))
 (.op ⟨some 18, .h (.load 2 true (.tmp 1)), none⟩
 (.op ⟨some 17, .h (.load 8 true (.tmp 4)), none⟩
 (.op ⟨none, .h (.store 8 (.tmp 2) (.tmp 17)), none⟩
 (.op ⟨none, .h (.store 2 (.tmp 3) (.tmp 18)), none⟩
 (.done)))))))
 (.ret))))⟩

theorem cF72 : compF Try.prog aF72.cfg.pm aF72.cfg.lz Try.f72 = some aF72 := by kernel_rfl
theorem kF72 : aF72.ok = true := by kernel_rfl

-- decoupage/decoupageref06.length
def aF73 : AFun := ⟨⟨24, [], false⟩, [.cell 2 2 true, .cell 3 2 true],
 .seq (.reg (.op ⟨some 1, .h (.box (.tmp 0)), none⟩
 (.op ⟨some 2, .h (.alloc [.int .i64 0, .int .i64 0]), none⟩
 (.op ⟨some 3, .h (.alloc [.slice none 0 0, .bool false]), none⟩ .done))))
 (.seq (.reg (.op ⟨some 7, .h (.load 2 true (.tmp 1)), none⟩
 (.op ⟨some 8, .call 35 [.tmp 7, .const (.int .i64 1)], none⟩
 (.op ⟨some 6, .p (.mov (.tmp 8)), none⟩
 (.op ⟨some 9, .p (.extract (.tmp 6) 0), none⟩
 (.op ⟨some 10, .p (.extract (.tmp 6) 1), none⟩
 (.op ⟨some 4, .p (.mov (.tmp 9)), none⟩
 (.op ⟨none, .h (.store 2 (.tmp 1) (.tmp 10)), none⟩ .done))))))))
 (.seq (.reg (.op ⟨some 11, .p (.mov (.tmp 4)), none⟩
 (.op ⟨some 12, .p (.conv .i64 (.tmp 11)), none⟩
 (.op ⟨some 13, .p (.build [.int .i64 0, .int .i64 0] [(0, 1, .tmp 12)]), none⟩
 (.op ⟨some 5, .h (.alloc [.int .i64 0, .int .i64 0]), none⟩
 (.op ⟨none, .h (.store 2 (.tmp 5) (.tmp 13)), none⟩ .done))))))
 (.seq (.seq (.reg (.op ⟨some 14, .p (.mov (.tmp 4)), none⟩
 (.op ⟨some 15, .p (.int2 .neq (.tmp 14) (.const (.int .u64 0))), none⟩ .done)))
 (.cond (.tmp 15) (.reg (.op ⟨some 17, .h (.load 2 true (.tmp 1)), none⟩
 (.op ⟨some 18, .call 74 [.tmp 17], none⟩
 (.op ⟨some 16, .p (.mov (.tmp 18)), none⟩
 (.op ⟨some 19, .p (.extract (.tmp 16) 0), none⟩
 (.op ⟨some 20, .p (.extract (.tmp 16) 1), none⟩
 (.op ⟨some 21, .p (.fieldAddr 1 (.tmp 5)), none⟩
 (.op ⟨none, .h (.store 1 (.tmp 21) (.tmp 19)), none⟩
 (.op ⟨none, .h (.store 2 (.tmp 1) (.tmp 20)), none⟩ .done)))))))))
 (.skip)))
 (.seq (.reg (.both (.op ⟨some 22, .h (.load 2 true (.tmp 5)), none⟩
 (.both (.op ⟨some 23, .h (.load 2 true (.tmp 1)), none⟩
 (.op ⟨none, .h (.store 2 (.tmp 2) (.tmp 22)), none⟩
 (.op ⟨none, .h (.store 2 (.tmp 3) (.tmp 23)), none⟩
 (.done))))
 (.op ⟨none, .h (.store 2 (.tmp 2) (.tmp 22)), none⟩
 (.op ⟨some 23, .h (.load 2 true (.tmp 1)), none⟩
 (.op ⟨none, .h (.store 2 (.tmp 3) (.tmp 23)), none⟩
 (.done))))))
 (.op ⟨some 23, .h (.load 2 true (.tmp 1)), none⟩
 (.op ⟨some 22, .h (.load 2 true (.tmp 5)), none⟩
 (.op ⟨none, .h (.store 2 (.tmp 2) (.tmp 22)), none⟩
 (.op ⟨none, .h (.store 2 (.tmp 3) (.tmp 23)), none⟩
 (.done)))))))
 (.ret)))))⟩

theorem cF73 : compF Try.prog aF73.cfg.pm aF73.cfg.lz Try.f73 = some aF73 := by kernel_rfl
theorem kF73 : aF73.ok = true := by kernel_rfl

-- (decoupage/decoupageref05.In).Eight
def aF74 : AFun := ⟨⟨14, [], false⟩, [.tmp 2, .cell 3 2 true],
 .seq (.reg (.op ⟨some 1, .h (.box (.tmp 0)), none⟩
 (.op ⟨some 2, .p (.mov (.const (.int .i64 0))), none⟩
 (.op ⟨some 3, .h (.alloc [.slice none 0 0, .bool false]), none⟩ .done))))
 (.seq (.reg (.op ⟨some 7, .h (.load 2 true (.tmp 1)), none⟩
 (.op ⟨some 8, .call 35 [.tmp 7, .const (.int .i64 8)], none⟩
 (.op ⟨some 6, .p (.mov (.tmp 8)), none⟩
 (.op ⟨some 9, .p (.extract (.tmp 6) 0), none⟩
 (.op ⟨some 10, .p (.extract (.tmp 6) 1), none⟩
 (.op ⟨some 5, .h (.alloc [.slice none 0 0, .bool false]), none⟩
 (.op ⟨some 4, .p (.mov (.tmp 9)), none⟩
 (.op ⟨none, .h (.store 2 (.tmp 5) (.tmp 10)), none⟩ .done)))))))))
 (.seq (.reg (.op ⟨some 11, .p (.mov (.tmp 4)), none⟩
 (.op ⟨some 12, .p (.conv .i64 (.tmp 11)), none⟩
 (.op ⟨some 2, .p (.mov (.tmp 12)), none⟩
 (.op ⟨some 13, .h (.load 2 true (.tmp 5)), none⟩
 (.op ⟨none, .h (.store 2 (.tmp 3) (.tmp 13)), none⟩
 (.done)))))))
 (.ret)))⟩

theorem cF74 : compF Try.prog aF74.cfg.pm aF74.cfg.lz Try.f74 = some aF74 := by kernel_rfl
theorem kF74 : aF74.ok = true := by kernel_rfl

-- decoupage/decoupageref30.four
def aF75 : AFun := ⟨⟨12, [], false⟩, [.cell 2 4 true],
 .seq (.reg (.op ⟨some 1, .h (.box (.tmp 0)), none⟩
 (.op ⟨some 2, .h (.alloc [.int .i64 0, .int .i64 0, .int .i64 0, .int .i64 0]), none⟩ .done)))
 (.seq (.reg (.op ⟨some 3, .p (.fieldAddr 0 (.tmp 1)), none⟩
 (.op ⟨some 4, .h (.load 1 false (.tmp 3)), none⟩
 (.op ⟨some 5, .p (.fieldAddr 1 (.tmp 1)), none⟩
 (.op ⟨some 6, .h (.load 1 false (.tmp 5)), none⟩
 (.op ⟨some 7, .p (.fieldAddr 2 (.tmp 1)), none⟩
 (.op ⟨some 8, .h (.load 1 false (.tmp 7)), none⟩
 (.op ⟨some 9, .p (.fieldAddr 3 (.tmp 1)), none⟩
 (.op ⟨some 10, .h (.load 1 false (.tmp 9)), none⟩
 (.op ⟨some 11, .p (.build [.int .i64 0, .int .i64 0, .int .i64 0, .int .i64 0] [(0, 1, .tmp 4), (1, 1, .tmp 6), (2, 1, .tmp 8), (3, 1, .tmp 10)]), none⟩
 (.op ⟨none, .h (.store 4 (.tmp 2) (.tmp 11)), none⟩ .done)))))))))))
 (.ret))⟩

theorem cF75 : compF Try.prog aF75.cfg.pm aF75.cfg.lz Try.f75 = some aF75 := by kernel_rfl
theorem kF75 : aF75.ok = true := by kernel_rfl

-- decoupage/decoupageref01.Fits
def aF76 : AFun := ⟨⟨9, [], false⟩, [.tmp 2],
 .seq (.reg (.op ⟨some 2, .p (.mov (.const (.bool false))), none⟩ .done))
 (.seq (.reg (.op ⟨some 3, .p (.mov (.tmp 0)), none⟩
 (.op ⟨some 4, .p (.int2 .geq (.tmp 3) (.const (.int .i64 (-1125899906842624)))), none⟩
 (.op ⟨some 5, .p (.mov (.tmp 4)), none⟩
 (.op ⟨some 6, .p (.mov (.tmp 0)), some (5, true)⟩
 (.op ⟨some 7, .p (.int2 .leq (.tmp 6) (.const (.int .i64 1125899906842624))), some (5, true)⟩
 (.op ⟨some 8, .p (.pick (.tmp 5) (.tmp 7) (.const (.bool false))), none⟩
 (.op ⟨some 2, .p (.mov (.tmp 8)), none⟩ .done))))))))
 (.ret))⟩

theorem cF76 : compF Try.prog aF76.cfg.pm aF76.cfg.lz Try.f76 = some aF76 := by kernel_rfl
theorem kF76 : aF76.ok = true := by kernel_rfl

-- decoupage/plate.fits
def aF77 : AFun := ⟨⟨21, [], false⟩, [.tmp 2],
 .seq (.reg (.op ⟨some 1, .h (.box (.tmp 0)), none⟩
 (.op ⟨some 2, .p (.mov (.const (.bool false))), none⟩ .done)))
 (.seq (.reg (.op ⟨some 3, .p (.fieldAddr 0 (.tmp 1)), none⟩
 (.op ⟨some 4, .h (.load 1 false (.tmp 3)), none⟩
 (.op ⟨some 5, .call 92 [.tmp 4], none⟩
 (.op ⟨some 6, .p (.mov (.tmp 5)), none⟩
 (.op ⟨some 7, .p (.fieldAddr 1 (.tmp 1)), some (6, true)⟩
 (.op ⟨some 8, .h (.load 1 false (.tmp 7)), some (6, true)⟩
 (.op ⟨some 9, .call 92 [.tmp 8], some (6, true)⟩
 (.op ⟨some 10, .p (.pick (.tmp 6) (.tmp 9) (.const (.bool false))), none⟩
 (.op ⟨some 11, .p (.mov (.tmp 10)), none⟩
 (.op ⟨some 12, .p (.fieldAddr 2 (.tmp 1)), some (11, true)⟩
 (.op ⟨some 13, .h (.load 1 false (.tmp 12)), some (11, true)⟩
 (.op ⟨some 14, .call 92 [.tmp 13], some (11, true)⟩
 (.op ⟨some 15, .p (.pick (.tmp 11) (.tmp 14) (.const (.bool false))), none⟩
 (.op ⟨some 16, .p (.mov (.tmp 15)), none⟩
 (.op ⟨some 17, .p (.fieldAddr 3 (.tmp 1)), some (16, true)⟩
 (.op ⟨some 18, .h (.load 1 false (.tmp 17)), some (16, true)⟩
 (.op ⟨some 19, .call 92 [.tmp 18], some (16, true)⟩
 (.op ⟨some 20, .p (.pick (.tmp 16) (.tmp 19) (.const (.bool false))), none⟩
 (.op ⟨some 2, .p (.mov (.tmp 20)), none⟩ .done))))))))))))))))))))
 (.ret))⟩

theorem cF77 : compF Try.prog aF77.cfg.pm aF77.cfg.lz Try.f77 = some aF77 := by kernel_rfl
theorem kF77 : aF77.ok = true := by kernel_rfl

-- slices.ContainsFunc[[]decoupage/api.Item,decoupage/api.Item]
def aF78 : AFun := ⟨⟨9, [], false⟩, [.tmp 4],
 .seq (.reg (.op ⟨some 4, .p (.mov (.const (.bool false))), none⟩ .done))
 (.seq (.reg (.op ⟨some 5, .p (.mov (.tmp 0)), none⟩
 (.op ⟨some 6, .p (.mov (.tmp 1)), none⟩
 (.op ⟨some 7, .call 93 [.tmp 5, .tmp 6], none⟩
 (.op ⟨some 8, .p (.int2 .geq (.tmp 7) (.const (.int .i64 0))), none⟩
 (.op ⟨some 4, .p (.mov (.tmp 8)), none⟩ .done))))))
 (.ret))⟩

theorem cF78 : compF Try.prog aF78.cfg.pm aF78.cfg.lz Try.f78 = some aF78 := by kernel_rfl
theorem kF78 : aF78.ok = true := by kernel_rfl

-- decoupage/plate.Encode$1
def aF79 : AFun := ⟨⟨6, [], false⟩, [.tmp 2],
 .seq (.reg (.op ⟨some 1, .h (.box (.tmp 0)), none⟩
 (.op ⟨some 2, .p (.mov (.const (.bool false))), none⟩ .done)))
 (.seq (.reg (.op ⟨some 3, .h (.load 15 true (.tmp 1)), none⟩
 (.op ⟨some 4, .call 44 [.tmp 3], none⟩
 (.op ⟨some 5, .p (.un .not (.tmp 4)), none⟩
 (.op ⟨some 2, .p (.mov (.tmp 5)), none⟩ .done)))))
 (.ret))⟩

theorem cF79 : compF Try.prog aF79.cfg.pm aF79.cfg.lz Try.f79 = some aF79 := by kernel_rfl
theorem kF79 : aF79.ok = true := by kernel_rfl

-- decoupage/plate.put
def aF80 : AFun := ⟨⟨24, [], false⟩, [],
 .seq (.reg (.op ⟨some 3, .h (.box (.tmp 1)), none⟩ .done))
 (.seq (.reg (.op ⟨some 6, .p (.fieldAddr 0 (.tmp 3)), none⟩
 (.op ⟨some 7, .h (.load 1 false (.tmp 6)), none⟩
 (.op ⟨some 8, .p (.fieldAddr 1 (.tmp 3)), none⟩
 (.op ⟨some 9, .h (.load 1 false (.tmp 8)), none⟩
 (.op ⟨some 10, .p (.fieldAddr 2 (.tmp 3)), none⟩
 (.op ⟨some 11, .h (.load 1 false (.tmp 10)), none⟩
 (.op ⟨some 12, .p (.fieldAddr 3 (.tmp 3)), none⟩
 (.op ⟨some 13, .h (.load 1 false (.tmp 12)), none⟩
 (.op ⟨some 14, .h (.buildSlice 1 4 [.int .i64 0, .int .i64 0, .int .i64 0, .int .i64 0] [(0, 1, .tmp 7), (1, 1, .tmp 9), (2, 1, .tmp 11), (3, 1, .tmp 13)]), none⟩
 (.op ⟨some 15, .p (.lenS (.tmp 14)), none⟩
 (.op ⟨some 16, .p (.mov (.const (.int .i64 0))), none⟩ .done))))))))))))
 (.block 0 (.loop (.seq (.reg (.op ⟨some 17, .p (.int2 .lss (.tmp 16) (.tmp 15)), none⟩ .done))
 (.seq (.cond (.tmp 17) (.skip)
 (.exit 0))
 (.seq (.block 1 (.seq (.reg (.op ⟨some 18, .p (.idxS 1 (.tmp 14) (.tmp 16)), none⟩
 (.op ⟨some 19, .h (.load 1 false (.tmp 18)), none⟩
 (.op ⟨some 5, .p (.mov (.tmp 19)), none⟩ .done))))
 (.reg (.op ⟨some 20, .p (.mov (.tmp 0)), none⟩
 (.op ⟨some 21, .p (.mov (.tmp 5)), none⟩
 (.op ⟨some 22, .call 27 [.tmp 20, .tmp 21], none⟩ .done))))))
 (.reg (.op ⟨some 23, .p (.int2 .add (.tmp 16) (.const (.int .i64 1))), none⟩
 (.op ⟨some 16, .p (.mov (.tmp 23)), none⟩ .done)))))))))⟩

theorem cF80 : compF Try.prog aF80.cfg.pm aF80.cfg.lz Try.f80 = some aF80 := by kernel_rfl
theorem kF80 : aF80.ok = true := by kernel_rfl

end Go.Proofs.Ytbgnaeagdneikaa
