/- The compiled code of functions of the seat, printed by a program of mine (gen.py), checked by the kernel. -/
import Derived.Test.YtbgnaeagdneikaaCoreAi
import Derived.Test.YtbgnaeagdneikaaProg
import Derived.KernelRfl
namespace Go.Proofs.Ytbgnaeagdneikaa
open Go Go.Proofs.Ytbgnaeagdneikaa.Abs
set_option maxRecDepth 100000

-- decoupage/decoupagelaw05.awake
def aF24 : AFun := ⟨⟨13, [], false⟩, [.tmp 0],
 .seq (.reg (.op ⟨some 0, .p (.mov (.const (.bool false))), none⟩ .done))
 (.seq (.reg (.op ⟨some 1, .h (.alloc [.slice none 0 0]), none⟩ .done))
 (.seq (.reg (.op ⟨some 3, .call 26 [.tmp 1, .const (.int .u32 258)], none⟩ .done))
 (.seq (.reg (.op ⟨some 4, .call 29 [.tmp 1], none⟩
 (.op ⟨some 5, .call 30 [.tmp 4], none⟩
 (.op ⟨some 2, .p (.mov (.tmp 5)), none⟩ .done))))
 (.seq (.reg (.op ⟨some 6, .p (.mov (.tmp 2)), none⟩
 (.op ⟨some 7, .call 36 [.tmp 6], none⟩
 (.op ⟨some 8, .p (.int2 .eql (.tmp 7) (.const (.int .u32 258))), none⟩
 (.op ⟨some 9, .p (.mov (.tmp 8)), none⟩
 (.op ⟨some 10, .p (.mov (.tmp 2)), some (9, true)⟩
 (.op ⟨some 11, .call 33 [.tmp 10], some (9, true)⟩
 (.op ⟨some 12, .p (.pick (.tmp 9) (.tmp 11) (.const (.bool false))), none⟩
 (.op ⟨some 0, .p (.mov (.tmp 12)), none⟩ .done)))))))))
 (.ret)))))⟩

theorem cF24 : compF Try.prog aF24.cfg.pm aF24.cfg.lz Try.f24 = some aF24 := by kernel_rfl
theorem kF24 : aF24.ok = true := by kernel_rfl

-- (*decoupage/scroll.Out).Byte
def aF25 : AFun := ⟨⟨8, [], false⟩, [],
 .reg (.op ⟨some 4, .p (.mov (.tmp 0)), none⟩
 (.op ⟨some 5, .p (.mov (.tmp 1)), none⟩
 (.op ⟨some 6, .p (.conv .u64 (.tmp 5)), none⟩
 (.op ⟨some 7, .call 68 [.tmp 4, .tmp 6, .const (.int .i64 1)], none⟩ .done))))⟩

theorem cF25 : compF Try.prog aF25.cfg.pm aF25.cfg.lz Try.f25 = some aF25 := by kernel_rfl
theorem kF25 : aF25.ok = true := by kernel_rfl

-- (*decoupage/scroll.Out).Four
def aF26 : AFun := ⟨⟨8, [], false⟩, [],
 .reg (.op ⟨some 4, .p (.mov (.tmp 0)), none⟩
 (.op ⟨some 5, .p (.mov (.tmp 1)), none⟩
 (.op ⟨some 6, .p (.conv .u64 (.tmp 5)), none⟩
 (.op ⟨some 7, .call 68 [.tmp 4, .tmp 6, .const (.int .i64 4)], none⟩ .done))))⟩

theorem cF26 : compF Try.prog aF26.cfg.pm aF26.cfg.lz Try.f26 = some aF26 := by kernel_rfl
theorem kF26 : aF26.ok = true := by kernel_rfl

-- (*decoupage/scroll.Out).Eight
def aF27 : AFun := ⟨⟨8, [], false⟩, [],
 .reg (.op ⟨some 4, .p (.mov (.tmp 0)), none⟩
 (.op ⟨some 5, .p (.mov (.tmp 1)), none⟩
 (.op ⟨some 6, .p (.conv .u64 (.tmp 5)), none⟩
 (.op ⟨some 7, .call 68 [.tmp 4, .tmp 6, .const (.int .i64 8)], none⟩ .done))))⟩

theorem cF27 : compF Try.prog aF27.cfg.pm aF27.cfg.lz Try.f27 = some aF27 := by kernel_rfl
theorem kF27 : aF27.ok = true := by kernel_rfl

-- (decoupage/decoupagelaw05.Piece).bytes
def aF28 : AFun := ⟨⟨22, [], false⟩, [.tmp 2],
 .seq (.reg (.op ⟨some 1, .h (.box (.tmp 0)), none⟩
 (.op ⟨some 2, .p (.mov (.const (.slice none 0 0))), none⟩ .done)))
 (.seq (.seq (.reg (.op ⟨some 3, .p (.fieldAddr 0 (.tmp 1)), none⟩
 (.op ⟨some 4, .h (.load 1 false (.tmp 3)), none⟩ .done)))
 (.block 0 (.seq (.reg (.op ⟨some 6, .p (.int2 .eql (.tmp 4) (.const (.int .u8 0))), none⟩
 (.op ⟨some 5, .p (.mov (.tmp 6)), none⟩ .done)))
 (.cond (.tmp 5) (.seq (.reg (.op ⟨some 7, .p (.fieldAddr 1 (.tmp 1)), none⟩
 (.op ⟨some 8, .h (.load 1 false (.tmp 7)), none⟩
 (.op ⟨some 9, .p (.conv .u8 (.tmp 8)), none⟩
 (.op ⟨some 10, .h (.buildSlice 1 1 [.int .u8 0] [(0, 1, .tmp 9)]), none⟩
 (.op ⟨some 2, .p (.mov (.tmp 10)), none⟩ .done))))))
 (.ret))
 (.seq (.reg (.op ⟨some 12, .p (.int2 .eql (.tmp 4) (.const (.int .u8 1))), none⟩
 (.op ⟨some 11, .p (.mov (.tmp 12)), none⟩ .done)))
 (.cond (.tmp 11) (.seq (.reg (.op ⟨some 13, .p (.fieldAddr 1 (.tmp 1)), none⟩
 (.op ⟨some 14, .h (.load 1 false (.tmp 13)), none⟩
 (.op ⟨some 15, .p (.conv .u32 (.tmp 14)), none⟩
 (.op ⟨some 16, .p (.conv .u64 (.tmp 15)), none⟩
 (.op ⟨some 17, .call 49 [.tmp 16, .const (.int .i64 4)], none⟩
 (.op ⟨some 2, .p (.mov (.tmp 17)), none⟩ .done)))))))
 (.ret))
 (.skip)))))))
 (.seq (.reg (.op ⟨some 18, .p (.fieldAddr 1 (.tmp 1)), none⟩
 (.op ⟨some 19, .h (.load 1 false (.tmp 18)), none⟩
 (.op ⟨some 20, .p (.conv .u64 (.tmp 19)), none⟩
 (.op ⟨some 21, .call 49 [.tmp 20, .const (.int .i64 8)], none⟩
 (.op ⟨some 2, .p (.mov (.tmp 21)), none⟩ .done))))))
 (.ret)))⟩

theorem cF28 : compF Try.prog aF28.cfg.pm aF28.cfg.lz Try.f28 = some aF28 := by kernel_rfl
theorem kF28 : aF28.ok = true := by kernel_rfl

-- (*decoupage/scroll.Out).Bytes
def aF29 : AFun := ⟨⟨10, [], false⟩, [.tmp 2],
 .seq (.reg (.op ⟨some 2, .p (.mov (.const (.slice none 0 0))), none⟩ .done))
 (.seq (.seq (.reg (.op ⟨some 3, .p (.mov (.tmp 0)), none⟩
 (.op ⟨some 4, .p (.eqn 0 false (.tmp 3)), none⟩ .done)))
 (.cond (.tmp 4) (.seq (.reg (.op ⟨some 2, .p (.mov (.const (.slice none 0 0))), none⟩ .done))
 (.ret))
 (.skip)))
 (.seq (.reg (.op ⟨some 5, .p (.mov (.tmp 0)), none⟩
 (.op ⟨some 6, .p (.nilchk (.tmp 5)), none⟩
 (.op ⟨some 7, .p (.fieldAddr 0 (.tmp 6)), none⟩
 (.op ⟨some 8, .h (.load 1 false (.tmp 7)), none⟩
 (.op ⟨some 9, .call 69 [.tmp 8], none⟩
 (.op ⟨some 2, .p (.mov (.tmp 9)), none⟩ .done)))))))
 (.ret)))⟩

theorem cF29 : compF Try.prog aF29.cfg.pm aF29.cfg.lz Try.f29 = some aF29 := by kernel_rfl
theorem kF29 : aF29.ok = true := by kernel_rfl

-- decoupage/scroll.NewIn
def aF30 : AFun := ⟨⟨7, [], false⟩, [.tmp 2],
 .seq (.reg (.op ⟨some 2, .p (.mov (.const (.pointer none))), none⟩ .done))
 (.seq (.reg (.op ⟨some 3, .p (.mov (.tmp 0)), none⟩
 (.op ⟨some 4, .call 69 [.tmp 3], none⟩
 (.op ⟨some 5, .p (.build [.slice none 0 0, .bool false] [(0, 1, .tmp 4)]), none⟩
 (.op ⟨some 6, .h (.box (.tmp 5)), none⟩
 (.op ⟨some 2, .p (.mov (.tmp 6)), none⟩ .done))))))
 (.ret))⟩

theorem cF30 : compF Try.prog aF30.cfg.pm aF30.cfg.lz Try.f30 = some aF30 := by kernel_rfl
theorem kF30 : aF30.ok = true := by kernel_rfl

-- (*decoupage/scroll.In).Eight
def aF31 : AFun := ⟨⟨6, [], false⟩, [.tmp 2],
 .seq (.reg (.op ⟨some 2, .p (.mov (.const (.int .i64 0))), none⟩ .done))
 (.seq (.reg (.op ⟨some 3, .p (.mov (.tmp 0)), none⟩
 (.op ⟨some 4, .call 70 [.tmp 3, .const (.int .i64 8)], none⟩
 (.op ⟨some 5, .p (.conv .i64 (.tmp 4)), none⟩
 (.op ⟨some 2, .p (.mov (.tmp 5)), none⟩ .done)))))
 (.ret))⟩

theorem cF31 : compF Try.prog aF31.cfg.pm aF31.cfg.lz Try.f31 = some aF31 := by kernel_rfl
theorem kF31 : aF31.ok = true := by kernel_rfl

-- (*decoupage/scroll.In).Byte
def aF32 : AFun := ⟨⟨6, [], false⟩, [.tmp 2],
 .seq (.reg (.op ⟨some 2, .p (.mov (.const (.int .u8 0))), none⟩ .done))
 (.seq (.reg (.op ⟨some 3, .p (.mov (.tmp 0)), none⟩
 (.op ⟨some 4, .call 70 [.tmp 3, .const (.int .i64 1)], none⟩
 (.op ⟨some 5, .p (.conv .u8 (.tmp 4)), none⟩
 (.op ⟨some 2, .p (.mov (.tmp 5)), none⟩ .done)))))
 (.ret))⟩

theorem cF32 : compF Try.prog aF32.cfg.pm aF32.cfg.lz Try.f32 = some aF32 := by kernel_rfl
theorem kF32 : aF32.ok = true := by kernel_rfl

-- (*decoupage/scroll.In).Done
def aF33 : AFun := ⟨⟨20, [], false⟩, [.tmp 2],
 .seq (.reg (.op ⟨some 2, .p (.mov (.const (.bool false))), none⟩ .done))
 (.seq (.reg (.op ⟨some 3, .p (.mov (.tmp 0)), none⟩
 (.op ⟨some 4, .p (.eqn 0 true (.tmp 3)), none⟩
 (.op ⟨some 5, .p (.mov (.tmp 4)), none⟩
 (.op ⟨some 6, .p (.mov (.tmp 0)), some (5, true)⟩
 (.op ⟨some 7, .p (.nilchk (.tmp 6)), some (5, true)⟩
 (.op ⟨some 8, .p (.fieldAddr 1 (.tmp 7)), some (5, true)⟩
 (.op ⟨some 9, .h (.load 1 false (.tmp 8)), some (5, true)⟩
 (.op ⟨some 10, .p (.un .not (.tmp 9)), some (5, true)⟩
 (.op ⟨some 11, .p (.pick (.tmp 5) (.tmp 10) (.const (.bool false))), none⟩
 (.op ⟨some 12, .p (.mov (.tmp 11)), none⟩
 (.op ⟨some 13, .p (.mov (.tmp 0)), some (12, true)⟩
 (.op ⟨some 14, .p (.nilchk (.tmp 13)), some (12, true)⟩
 (.op ⟨some 15, .p (.fieldAddr 0 (.tmp 14)), some (12, true)⟩
 (.op ⟨some 16, .h (.load 1 false (.tmp 15)), some (12, true)⟩
 (.op ⟨some 17, .p (.lenS (.tmp 16)), some (12, true)⟩
 (.op ⟨some 18, .p (.int2 .eql (.tmp 17) (.const (.int .i64 0))), some (12, true)⟩
 (.op ⟨some 19, .p (.pick (.tmp 12) (.tmp 18) (.const (.bool false))), none⟩
 (.op ⟨some 2, .p (.mov (.tmp 19)), none⟩ .done)))))))))))))))))))
 (.ret))⟩

theorem cF33 : compF Try.prog aF33.cfg.pm aF33.cfg.lz Try.f33 = some aF33 := by kernel_rfl
theorem kF33 : aF33.ok = true := by kernel_rfl

-- (*decoupage/scroll.In).Bad
def aF34 : AFun := ⟨⟨11, [], false⟩, [.tmp 2],
 .seq (.reg (.op ⟨some 2, .p (.mov (.const (.bool false))), none⟩ .done))
 (.seq (.reg (.op ⟨some 3, .p (.mov (.tmp 0)), none⟩
 (.op ⟨some 4, .p (.eqn 0 true (.tmp 3)), none⟩
 (.op ⟨some 5, .p (.mov (.tmp 4)), none⟩
 (.op ⟨some 6, .p (.mov (.tmp 0)), some (5, true)⟩
 (.op ⟨some 7, .p (.nilchk (.tmp 6)), some (5, true)⟩
 (.op ⟨some 8, .p (.fieldAddr 1 (.tmp 7)), some (5, true)⟩
 (.op ⟨some 9, .h (.load 1 false (.tmp 8)), some (5, true)⟩
 (.op ⟨some 10, .p (.pick (.tmp 5) (.tmp 9) (.const (.bool false))), none⟩
 (.op ⟨some 2, .p (.mov (.tmp 10)), none⟩ .done))))))))))
 (.ret))⟩

theorem cF34 : compF Try.prog aF34.cfg.pm aF34.cfg.lz Try.f34 = some aF34 := by kernel_rfl
theorem kF34 : aF34.ok = true := by kernel_rfl

-- (decoupage/decoupageref05.In).Take
def aF35 : AFun := ⟨⟨38, [], false⟩, [.tmp 4, .cell 5 2 true],
 .seq (.reg (.op ⟨some 2, .h (.box (.tmp 0)), none⟩
 (.op ⟨some 4, .p (.mov (.const (.int .u64 0))), none⟩
 (.op ⟨some 5, .h (.alloc [.slice none 0 0, .bool false]), none⟩ .done))))
 (.seq (.seq (.reg (.op ⟨some 8, .p (.fieldAddr 1 (.tmp 2)), none⟩
 (.op ⟨some 9, .h (.load 1 false (.tmp 8)), none⟩
 (.op ⟨some 10, .p (.mov (.tmp 9)), none⟩
 (.op ⟨some 11, .p (.fieldAddr 0 (.tmp 2)), some (10, false)⟩
 (.op ⟨some 12, .h (.load 1 false (.tmp 11)), some (10, false)⟩
 (.op ⟨some 13, .p (.lenS (.tmp 12)), some (10, false)⟩
 (.op ⟨some 14, .p (.mov (.tmp 1)), some (10, false)⟩
 (.op ⟨some 15, .p (.int2 .lss (.tmp 13) (.tmp 14)), some (10, false)⟩
 (.op ⟨some 16, .p (.pick (.tmp 10) (.const (.bool true)) (.tmp 15)), none⟩ .done))))))))))
 (.cond (.tmp 16) (.seq (.reg (.op ⟨some 17, .p (.build [.slice none 0 0, .bool false] [(1, 1, .const (.bool true))]), none⟩
 (.op ⟨some 4, .p (.mov (.const (.int .u64 0))), none⟩
 (.op ⟨none, .h (.store 2 (.tmp 5) (.tmp 17)), none⟩ .done))))
 (.ret))
 (.skip)))
 (.seq (.reg (.op ⟨some 6, .p (.mov (.const (.int .u64 0))), none⟩ .done))
 (.seq (.seq (.reg (.op ⟨some 18, .p (.mov (.tmp 1)), none⟩
 (.op ⟨some 19, .p (.mov (.const (.int .i64 0))), none⟩ .done)))
 (.block 0 (.loop (.seq (.reg (.op ⟨some 20, .p (.int2 .lss (.tmp 19) (.tmp 18)), none⟩ .done))
 (.seq (.cond (.tmp 20) (.skip)
 (.exit 0))
 (.seq (.block 1 (.seq (.reg (.op ⟨some 21, .p (.mov (.tmp 19)), none⟩
 (.op ⟨some 7, .p (.mov (.tmp 21)), none⟩ .done)))
 (.reg (.op ⟨some 22, .p (.mov (.tmp 6)), none⟩
 (.op ⟨some 23, .p (.int2 .mul (.tmp 22) (.const (.int .u64 256))), none⟩
 (.op ⟨some 24, .p (.fieldAddr 0 (.tmp 2)), none⟩
 (.op ⟨some 25, .h (.load 1 false (.tmp 24)), none⟩
 (.op ⟨some 26, .p (.mov (.tmp 7)), none⟩
 (.op ⟨some 27, .p (.idxS 1 (.tmp 25) (.tmp 26)), none⟩
 (.op ⟨some 28, .h (.load 1 false (.tmp 27)), none⟩
 (.op ⟨some 29, .p (.conv .u64 (.tmp 28)), none⟩
 (.op ⟨some 30, .p (.int2 .add (.tmp 23) (.tmp 29)), none⟩
 (.op ⟨some 6, .p (.mov (.tmp 30)), none⟩ .done)))))))))))))
 (.reg (.op ⟨some 31, .p (.int2 .add (.tmp 19) (.const (.int .i64 1))), none⟩
 (.op ⟨some 19, .p (.mov (.tmp 31)), none⟩ .done)))))))))
 (.seq (.reg (.op ⟨some 32, .p (.mov (.tmp 6)), none⟩
 (.op ⟨some 33, .p (.fieldAddr 0 (.tmp 2)), none⟩
 (.op ⟨some 35, .p (.mov (.tmp 1)), none⟩
 (.op ⟨some 4, .p (.mov (.tmp 32)), none⟩
 (.op ⟨some 34, .h (.load 1 false (.tmp 33)), none⟩
 (.op ⟨some 36, .p (.sliceS 1 (.tmp 34) (some (.tmp 35)) none), none⟩
 (.op ⟨some 37, .p (.build [.slice none 0 0, .bool false] [(0, 1, .tmp 36)]), none⟩
 (.op ⟨none, .h (.store 2 (.tmp 5) (.tmp 37)), none⟩
 (.done))))))))))
 (.ret)))))⟩

theorem cF35 : compF Try.prog aF35.cfg.pm aF35.cfg.lz Try.f35 = some aF35 := by kernel_rfl
theorem kF35 : aF35.ok = true := by kernel_rfl

-- (*decoupage/scroll.In).Four
def aF36 : AFun := ⟨⟨6, [], false⟩, [.tmp 2],
 .seq (.reg (.op ⟨some 2, .p (.mov (.const (.int .u32 0))), none⟩ .done))
 (.seq (.reg (.op ⟨some 3, .p (.mov (.tmp 0)), none⟩
 (.op ⟨some 4, .call 70 [.tmp 3, .const (.int .i64 4)], none⟩
 (.op ⟨some 5, .p (.conv .u32 (.tmp 4)), none⟩
 (.op ⟨some 2, .p (.mov (.tmp 5)), none⟩ .done)))))
 (.ret))⟩

theorem cF36 : compF Try.prog aF36.cfg.pm aF36.cfg.lz Try.f36 = some aF36 := by kernel_rfl
theorem kF36 : aF36.ok = true := by kernel_rfl

-- (*decoupage/scroll.In).Fail
def aF37 : AFun := ⟨⟨10, [], false⟩, [],
 .seq (.reg (.op ⟨some 2, .p (.mov (.tmp 0)), none⟩
 (.op ⟨some 3, .p (.eqn 0 true (.tmp 2)), none⟩ .done)))
 (.cond (.tmp 3) (.reg (.op ⟨some 4, .p (.mov (.tmp 0)), none⟩
 (.op ⟨some 5, .p (.mov (.tmp 0)), none⟩
 (.op ⟨some 6, .p (.nilchk (.tmp 4)), none⟩
 (.op ⟨some 7, .p (.fieldAddr 0 (.tmp 6)), none⟩
 (.op ⟨none, .h (.store 1 (.tmp 7) (.const (.slice none 0 0))), none⟩
 (.op ⟨some 8, .p (.nilchk (.tmp 5)), none⟩
 (.op ⟨some 9, .p (.fieldAddr 1 (.tmp 8)), none⟩
 (.op ⟨none, .h (.store 1 (.tmp 9) (.const (.bool true))), none⟩ .done)))))))))
 (.skip))⟩

theorem cF37 : compF Try.prog aF37.cfg.pm aF37.cfg.lz Try.f37 = some aF37 := by kernel_rfl
theorem kF37 : aF37.ok = true := by kernel_rfl

-- (*decoupage/scroll.In).Left
def aF38 : AFun := ⟨⟨10, [], false⟩, [.tmp 2],
 .seq (.reg (.op ⟨some 2, .p (.mov (.const (.int .i64 0))), none⟩ .done))
 (.seq (.seq (.reg (.op ⟨some 3, .p (.mov (.tmp 0)), none⟩
 (.op ⟨some 4, .p (.eqn 0 false (.tmp 3)), none⟩ .done)))
 (.cond (.tmp 4) (.seq (.reg (.op ⟨some 2, .p (.mov (.const (.int .i64 0))), none⟩ .done))
 (.ret))
 (.skip)))
 (.seq (.reg (.op ⟨some 5, .p (.mov (.tmp 0)), none⟩
 (.op ⟨some 6, .p (.nilchk (.tmp 5)), none⟩
 (.op ⟨some 7, .p (.fieldAddr 0 (.tmp 6)), none⟩
 (.op ⟨some 8, .h (.load 1 false (.tmp 7)), none⟩
 (.op ⟨some 9, .p (.lenS (.tmp 8)), none⟩
 (.op ⟨some 2, .p (.mov (.tmp 9)), none⟩ .done)))))))
 (.ret)))⟩

theorem cF38 : compF Try.prog aF38.cfg.pm aF38.cfg.lz Try.f38 = some aF38 := by kernel_rfl
theorem kF38 : aF38.ok = true := by kernel_rfl

-- decoupage/style.Get
def aF40 : AFun := ⟨⟨85, [], false⟩, [.cell 2 48 true],
 .seq (.reg (.op ⟨some 2, .h (.alloc [.bool false, .int .i64 0, .int .i64 0, .int .i64 0, .int .i64 0, .int .i64 0, .int .i64 0, .int .i64 0, .int .i64 0, .int .i64 0, .int .i64 0, .int .i64 0, .int .i64 0, .int .i64 0, .int .i64 0, .int .i64 0, .int .i64 0, .int .i64 0, .int .i64 0, .int .i64 0, .int .i64 0, .int .i64 0, .int .i64 0, .int .i64 0, .int .i64 0, .int .i64 0, .int .i64 0, .int .i64 0, .int .i64 0, .int .i64 0, .int .i64 0, .int .i64 0, .int .i64 0, .int .i64 0, .int .i64 0, .int .i64 0, .int .i64 0, .int .i64 0, .int .i64 0, .int .i64 0, .int .i64 0, .int .i64 0, .bool false, .bool false, .int .i64 0, .bool false, .int .i64 0, .int .i64 0]), none⟩ .done))
 (.seq (.reg (.op ⟨some 8, .p (.mov (.tmp 0)), none⟩
 (.op ⟨some 9, .call 32 [.tmp 8], none⟩
 (.op ⟨some 10, .p (.conv .i64 (.tmp 9)), none⟩
 (.op ⟨some 3, .p (.mov (.tmp 10)), none⟩ .done)))))
 (.seq (.reg (.op ⟨some 11, .p (.mov (.tmp 3)), none⟩
 (.op ⟨some 12, .p (.int2 .and (.tmp 11) (.const (.int .i64 1))), none⟩
 (.op ⟨some 13, .p (.int2 .neq (.tmp 12) (.const (.int .i64 0))), none⟩
 (.op ⟨some 14, .p (.mov (.tmp 3)), none⟩
 (.op ⟨some 15, .p (.int2 .quo (.tmp 14) (.const (.int .i64 2))), none⟩
 (.op ⟨some 16, .p (.int2 .rem (.tmp 15) (.const (.int .i64 4))), none⟩
 (.op ⟨some 17, .p (.mov (.tmp 3)), none⟩
 (.op ⟨some 18, .p (.int2 .and (.tmp 17) (.const (.int .i64 8))), none⟩
 (.op ⟨some 19, .p (.int2 .neq (.tmp 18) (.const (.int .i64 0))), none⟩
 (.op ⟨some 20, .p (.mov (.tmp 3)), none⟩
 (.op ⟨some 21, .p (.int2 .and (.tmp 20) (.const (.int .i64 16))), none⟩
 (.op ⟨some 22, .p (.int2 .neq (.tmp 21) (.const (.int .i64 0))), none⟩
 (.op ⟨some 23, .p (.mov (.tmp 3)), none⟩
 (.op ⟨some 24, .p (.int2 .and (.tmp 23) (.const (.int .i64 32))), none⟩
 (.op ⟨some 25, .p (.int2 .neq (.tmp 24) (.const (.int .i64 0))), none⟩
 (.op ⟨some 26, .p (.build [.bool false, .int .i64 0, .int .i64 0, .int .i64 0, .int .i64 0, .int .i64 0, .int .i64 0, .int .i64 0, .int .i64 0, .int .i64 0, .int .i64 0, .int .i64 0, .int .i64 0, .int .i64 0, .int .i64 0, .int .i64 0, .int .i64 0, .int .i64 0, .int .i64 0, .int .i64 0, .int .i64 0, .int .i64 0, .int .i64 0, .int .i64 0, .int .i64 0, .int .i64 0, .int .i64 0, .int .i64 0, .int .i64 0, .int .i64 0, .int .i64 0, .int .i64 0, .int .i64 0, .int .i64 0, .int .i64 0, .int .i64 0, .int .i64 0, .int .i64 0, .int .i64 0, .int .i64 0, .int .i64 0, .int .i64 0, .bool false, .bool false, .int .i64 0, .bool false, .int .i64 0, .int .i64 0] [(0, 1, .tmp 13), (1, 1, .tmp 16), (42, 1, .tmp 19), (43, 1, .tmp 22), (45, 1, .tmp 25)]), none⟩
 (.op ⟨some 4, .h (.alloc [.bool false, .int .i64 0, .int .i64 0, .int .i64 0, .int .i64 0, .int .i64 0, .int .i64 0, .int .i64 0, .int .i64 0, .int .i64 0, .int .i64 0, .int .i64 0, .int .i64 0, .int .i64 0, .int .i64 0, .int .i64 0, .int .i64 0, .int .i64 0, .int .i64 0, .int .i64 0, .int .i64 0, .int .i64 0, .int .i64 0, .int .i64 0, .int .i64 0, .int .i64 0, .int .i64 0, .int .i64 0, .int .i64 0, .int .i64 0, .int .i64 0, .int .i64 0, .int .i64 0, .int .i64 0, .int .i64 0, .int .i64 0, .int .i64 0, .int .i64 0, .int .i64 0, .int .i64 0, .int .i64 0, .int .i64 0, .bool false, .bool false, .int .i64 0, .bool false, .int .i64 0, .int .i64 0]), none⟩
 (.op ⟨none, .h (.store 48 (.tmp 4) (.tmp 26)), none⟩ .done)))))))))))))))))))
 (.seq (.seq (.reg (.op ⟨some 27, .call 64 [.tmp 4], none⟩
 (.op ⟨some 28, .p (.lenS (.tmp 27)), none⟩
 (.op ⟨some 29, .p (.mov (.const (.int .i64 0))), none⟩ .done))))
 (.block 0 (.loop (.seq (.reg (.op ⟨some 30, .p (.int2 .lss (.tmp 29) (.tmp 28)), none⟩ .done))
 (.seq (.cond (.tmp 30) (.skip)
 (.exit 0))
 (.seq (.block 1 (.seq (.reg (.op ⟨some 31, .p (.idxS 1 (.tmp 27) (.tmp 29)), none⟩
 (.op ⟨some 32, .h (.load 1 false (.tmp 31)), none⟩
 (.op ⟨some 6, .p (.mov (.tmp 32)), none⟩ .done))))
 (.seq (.reg (.op ⟨some 33, .p (.mov (.tmp 6)), none⟩
 (.op ⟨some 34, .p (.mov (.tmp 0)), none⟩
 (.op ⟨some 35, .call 32 [.tmp 34], none⟩
 (.op ⟨some 36, .p (.conv .i64 (.tmp 35)), none⟩
 (.op ⟨some 37, .p (.nilchk (.tmp 33)), none⟩
 (.op ⟨some 38, .p (.fieldAddr 0 (.tmp 37)), none⟩
 (.op ⟨none, .h (.store 1 (.tmp 38) (.tmp 36)), none⟩ .done))))))))
 (.seq (.reg (.op ⟨some 39, .p (.mov (.tmp 6)), none⟩
 (.op ⟨some 40, .p (.nilchk (.tmp 39)), none⟩
 (.op ⟨some 41, .p (.fieldAddr 0 (.tmp 40)), none⟩
 (.op ⟨some 42, .h (.load 1 false (.tmp 41)), none⟩
 (.op ⟨some 43, .p (.int2 .neq (.tmp 42) (.const (.int .i64 0))), none⟩ .done))))))
 (.cond (.tmp 43) (.reg (.op ⟨some 44, .p (.mov (.tmp 6)), none⟩
 (.op ⟨some 45, .p (.mov (.tmp 0)), none⟩
 (.op ⟨some 46, .call 31 [.tmp 45], none⟩
 (.op ⟨some 47, .p (.nilchk (.tmp 44)), none⟩
 (.op ⟨some 48, .p (.fieldAddr 1 (.tmp 47)), none⟩
 (.op ⟨none, .h (.store 1 (.tmp 48) (.tmp 46)), none⟩ .done)))))))
 (.skip))))))
 (.reg (.op ⟨some 49, .p (.int2 .add (.tmp 29) (.const (.int .i64 1))), none⟩
 (.op ⟨some 29, .p (.mov (.tmp 49)), none⟩ .done)))))))))
 (.seq (.seq (.reg (.op ⟨some 50, .p (.mov (.const (.int .i64 0))), none⟩ .done))
 (.block 2 (.loop (.seq (.reg (.op ⟨some 51, .p (.int2 .lss (.tmp 50) (.const (.int .i64 4))), none⟩ .done))
 (.seq (.cond (.tmp 51) (.skip)
 (.exit 2))
 (.seq (.block 3 (.seq (.reg (.op ⟨some 52, .p (.mov (.tmp 50)), none⟩
 (.op ⟨some 7, .p (.mov (.tmp 52)), none⟩ .done)))
 (.reg (.op ⟨some 53, .p (.mov (.tmp 7)), none⟩
 (.op ⟨some 54, .p (.mov (.tmp 0)), none⟩
 (.op ⟨some 55, .call 31 [.tmp 54], none⟩
 (.op ⟨some 56, .p (.fieldAddr 38 (.tmp 4)), none⟩
 (.op ⟨some 57, .p (.idxA 4 1 (.tmp 56) (.tmp 53)), none⟩
 (.op ⟨none, .h (.store 1 (.tmp 57) (.tmp 55)), none⟩ .done)))))))))
 (.reg (.op ⟨some 58, .p (.int2 .add (.tmp 50) (.const (.int .i64 1))), none⟩
 (.op ⟨some 50, .p (.mov (.tmp 58)), none⟩ .done)))))))))
 (.seq (.seq (.reg (.op ⟨some 59, .p (.fieldAddr 43 (.tmp 4)), none⟩
 (.op ⟨some 60, .h (.load 1 false (.tmp 59)), none⟩ .done)))
 (.cond (.tmp 60) (.reg (.op ⟨some 61, .p (.mov (.tmp 0)), none⟩
 (.op ⟨some 62, .call 31 [.tmp 61], none⟩
 (.op ⟨some 63, .p (.fieldAddr 44 (.tmp 4)), none⟩
 (.op ⟨none, .h (.store 1 (.tmp 63) (.tmp 62)), none⟩ .done)))))
 (.skip)))
 (.seq (.reg (.op ⟨some 64, .p (.mov (.tmp 0)), none⟩
 (.op ⟨some 65, .call 31 [.tmp 64], none⟩
 (.op ⟨some 66, .p (.mov (.tmp 0)), none⟩
 (.op ⟨some 67, .call 31 [.tmp 66], none⟩
 (.op ⟨some 68, .p (.fieldAddr 46 (.tmp 4)), none⟩
 (.op ⟨none, .h (.store 1 (.tmp 68) (.tmp 65)), none⟩
 (.op ⟨some 69, .p (.fieldAddr 47 (.tmp 4)), none⟩
 (.op ⟨none, .h (.store 1 (.tmp 69) (.tmp 67)), none⟩ .done)))))))))
 (.seq (.seq (.reg (.op ⟨some 70, .p (.mov (.tmp 0)), none⟩
 (.op ⟨some 71, .call 34 [.tmp 70], none⟩
 (.op ⟨some 72, .p (.mov (.tmp 71)), none⟩
 (.op ⟨some 73, .p (.mov (.tmp 3)), some (72, false)⟩
 (.op ⟨some 74, .p (.int2 .geq (.tmp 73) (.const (.int .i64 64))), some (72, false)⟩
 (.op ⟨some 75, .p (.pick (.tmp 72) (.const (.bool true)) (.tmp 74)), none⟩
 (.op ⟨some 76, .p (.mov (.tmp 75)), none⟩
 (.op ⟨some 77, .h (.load 48 true (.tmp 4)), some (76, false)⟩
 (.op ⟨some 78, .call 20 [.tmp 77], some (76, false)⟩
 (.op ⟨some 79, .p (.un .not (.tmp 78)), some (76, false)⟩
 (.op ⟨some 80, .p (.pick (.tmp 76) (.const (.bool true)) (.tmp 79)), none⟩ .done))))))))))))
 (.cond (.tmp 80) (.seq (.reg (.op ⟨some 81, .p (.mov (.tmp 0)), none⟩
 (.op ⟨some 82, .call 37 [.tmp 81], none⟩ .done)))
 (.seq (.reg (.op ⟨some 83, .p (.build [.bool false, .int .i64 0, .int .i64 0, .int .i64 0, .int .i64 0, .int .i64 0, .int .i64 0, .int .i64 0, .int .i64 0, .int .i64 0, .int .i64 0, .int .i64 0, .int .i64 0, .int .i64 0, .int .i64 0, .int .i64 0, .int .i64 0, .int .i64 0, .int .i64 0, .int .i64 0, .int .i64 0, .int .i64 0, .int .i64 0, .int .i64 0, .int .i64 0, .int .i64 0, .int .i64 0, .int .i64 0, .int .i64 0, .int .i64 0, .int .i64 0, .int .i64 0, .int .i64 0, .int .i64 0, .int .i64 0, .int .i64 0, .int .i64 0, .int .i64 0, .int .i64 0, .int .i64 0, .int .i64 0, .int .i64 0, .bool false, .bool false, .int .i64 0, .bool false, .int .i64 0, .int .i64 0] []), none⟩
 (.op ⟨none, .h (.store 48 (.tmp 2) (.tmp 83)), none⟩ .done)))
 (.ret)))
 (.skip)))
 (.seq (.reg (.op ⟨some 84, .h (.load 48 true (.tmp 4)), none⟩
 (.op ⟨none, .h (.store 48 (.tmp 2) (.tmp 84)), none⟩ .done)))
 (.ret)))))))))⟩

theorem cF40 : compF Try.prog aF40.cfg.pm aF40.cfg.lz Try.f40 = some aF40 := by kernel_rfl
theorem kF40 : aF40.ok = true := by kernel_rfl

-- decoupage/decoupageref05.Number
def aF49 : AFun := ⟨⟨17, [], false⟩, [.tmp 4],
 .seq (.reg (.op ⟨some 4, .p (.mov (.const (.slice none 0 0))), none⟩ .done))
 (.seq (.seq (.reg (.op ⟨some 5, .p (.mov (.tmp 1)), none⟩
 (.op ⟨some 6, .p (.int2 .eql (.tmp 5) (.const (.int .i64 0))), none⟩ .done)))
 (.cond (.tmp 6) (.seq (.reg (.op ⟨some 4, .p (.mov (.const (.slice none 0 0))), none⟩ .done))
 (.ret))
 (.skip)))
 (.seq (.reg (.op ⟨some 7, .p (.mov (.tmp 0)), none⟩
 (.op ⟨some 8, .p (.int2 .quo (.tmp 7) (.const (.int .u64 256))), none⟩
 (.op ⟨some 9, .p (.mov (.tmp 1)), none⟩
 (.op ⟨some 10, .p (.int2 .sub (.tmp 9) (.const (.int .i64 1))), none⟩
 (.op ⟨some 11, .call 49 [.tmp 8, .tmp 10], none⟩
 (.op ⟨some 12, .p (.mov (.tmp 0)), none⟩
 (.op ⟨some 13, .p (.int2 .rem (.tmp 12) (.const (.int .u64 256))), none⟩
 (.op ⟨some 14, .p (.conv .u8 (.tmp 13)), none⟩
 (.op ⟨some 15, .h (.buildSlice 1 1 [.int .u8 0] [(0, 1, .tmp 14)]), none⟩
 (.op ⟨some 16, .h (.append 1 1 (.tmp 11) (.tmp 15)), none⟩
 (.op ⟨some 4, .p (.mov (.tmp 16)), none⟩ .done))))))))))))
 (.ret)))⟩

theorem cF49 : compF Try.prog aF49.cfg.pm aF49.cfg.lz Try.f49 = some aF49 := by kernel_rfl
theorem kF49 : aF49.ok = true := by kernel_rfl

-- decoupage/decoupagelaw06.Plain
def aF55 : AFun := ⟨⟨13, [], false⟩, [.cell 0 48 true],
 .seq (.reg (.op ⟨some 0, .h (.alloc [.bool false, .int .i64 0, .int .i64 0, .int .i64 0, .int .i64 0, .int .i64 0, .int .i64 0, .int .i64 0, .int .i64 0, .int .i64 0, .int .i64 0, .int .i64 0, .int .i64 0, .int .i64 0, .int .i64 0, .int .i64 0, .int .i64 0, .int .i64 0, .int .i64 0, .int .i64 0, .int .i64 0, .int .i64 0, .int .i64 0, .int .i64 0, .int .i64 0, .int .i64 0, .int .i64 0, .int .i64 0, .int .i64 0, .int .i64 0, .int .i64 0, .int .i64 0, .int .i64 0, .int .i64 0, .int .i64 0, .int .i64 0, .int .i64 0, .int .i64 0, .int .i64 0, .int .i64 0, .int .i64 0, .int .i64 0, .bool false, .bool false, .int .i64 0, .bool false, .int .i64 0, .int .i64 0]), none⟩ .done))
 (.seq (.reg (.op ⟨some 3, .p (.build [.bool false, .int .i64 0, .int .i64 0, .int .i64 0, .int .i64 0, .int .i64 0, .int .i64 0, .int .i64 0, .int .i64 0, .int .i64 0, .int .i64 0, .int .i64 0, .int .i64 0, .int .i64 0, .int .i64 0, .int .i64 0, .int .i64 0, .int .i64 0, .int .i64 0, .int .i64 0, .int .i64 0, .int .i64 0, .int .i64 0, .int .i64 0, .int .i64 0, .int .i64 0, .int .i64 0, .int .i64 0, .int .i64 0, .int .i64 0, .int .i64 0, .int .i64 0, .int .i64 0, .int .i64 0, .int .i64 0, .int .i64 0, .int .i64 0, .int .i64 0, .int .i64 0, .int .i64 0, .int .i64 0, .int .i64 0, .bool false, .bool false, .int .i64 0, .bool false, .int .i64 0, .int .i64 0] [(0, 1, .const (.bool true))]), none⟩
 (.op ⟨some 1, .h (.alloc [.bool false, .int .i64 0, .int .i64 0, .int .i64 0, .int .i64 0, .int .i64 0, .int .i64 0, .int .i64 0, .int .i64 0, .int .i64 0, .int .i64 0, .int .i64 0, .int .i64 0, .int .i64 0, .int .i64 0, .int .i64 0, .int .i64 0, .int .i64 0, .int .i64 0, .int .i64 0, .int .i64 0, .int .i64 0, .int .i64 0, .int .i64 0, .int .i64 0, .int .i64 0, .int .i64 0, .int .i64 0, .int .i64 0, .int .i64 0, .int .i64 0, .int .i64 0, .int .i64 0, .int .i64 0, .int .i64 0, .int .i64 0, .int .i64 0, .int .i64 0, .int .i64 0, .int .i64 0, .int .i64 0, .int .i64 0, .bool false, .bool false, .int .i64 0, .bool false, .int .i64 0, .int .i64 0]), none⟩
 (.op ⟨none, .h (.store 48 (.tmp 1) (.tmp 3)), none⟩ .done))))
 (.seq (.seq (.reg (.op ⟨some 4, .p (.mov (.const (.int .i64 0))), none⟩ .done))
 (.block 0 (.loop (.seq (.reg (.op ⟨some 5, .p (.int2 .lss (.tmp 4) (.const (.int .i64 4))), none⟩ .done))
 (.seq (.cond (.tmp 5) (.skip)
 (.exit 0))
 (.seq (.block 1 (.seq (.reg (.op ⟨some 6, .p (.mov (.tmp 4)), none⟩
 (.op ⟨some 2, .p (.mov (.tmp 6)), none⟩ .done)))
 (.reg (.op ⟨some 7, .p (.mov (.tmp 2)), none⟩
 (.op ⟨some 8, .p (.build [.int .i64 0, .int .i64 0] [(0, 1, .const (.int .i64 1))]), none⟩
 (.op ⟨some 9, .p (.fieldAddr 30 (.tmp 1)), none⟩
 (.op ⟨some 10, .p (.idxA 4 2 (.tmp 9) (.tmp 7)), none⟩
 (.op ⟨none, .h (.store 2 (.tmp 10) (.tmp 8)), none⟩ .done))))))))
 (.reg (.op ⟨some 11, .p (.int2 .add (.tmp 4) (.const (.int .i64 1))), none⟩
 (.op ⟨some 4, .p (.mov (.tmp 11)), none⟩ .done)))))))))
 (.seq (.reg (.op ⟨some 12, .h (.load 48 true (.tmp 1)), none⟩
 (.op ⟨none, .h (.store 48 (.tmp 0) (.tmp 12)), none⟩ .done)))
 (.ret))))⟩

theorem cF55 : compF Try.prog aF55.cfg.pm aF55.cfg.lz Try.f55 = some aF55 := by kernel_rfl
theorem kF55 : aF55.ok = true := by kernel_rfl

-- decoupage/style.lengths
def aF64 : AFun := ⟨⟨43, [], false⟩, [.tmp 2],
 .seq (.reg (.op ⟨some 2, .p (.mov (.const (.slice none 0 0))), none⟩ .done))
 (.seq (.reg (.op ⟨some 3, .h (.alloc [.slice none 0 0]), none⟩ .done))
 (.seq (.reg (.op ⟨some 5, .p (.mkFunc 91 [.tmp 3]), none⟩
 (.op ⟨some 4, .p (.mov (.tmp 5)), none⟩ .done)))
 (.seq (.reg (.op ⟨some 6, .p (.mov (.tmp 4)), none⟩
 (.op ⟨some 7, .p (.mov (.tmp 0)), none⟩
 (.op ⟨some 8, .p (.nilchk (.tmp 7)), none⟩
 (.op ⟨some 9, .p (.fieldAddr 2 (.tmp 8)), none⟩
 (.op ⟨some 10, .callv (.tmp 6) [.tmp 9], none⟩ .done))))))
 (.seq (.reg (.op ⟨some 12, .p (.mov (.tmp 0)), none⟩
 (.op ⟨some 13, .p (.nilchk (.tmp 12)), none⟩
 (.op ⟨some 14, .p (.fieldAddr 10 (.tmp 13)), none⟩
 (.op ⟨some 15, .p (.mov (.tmp 0)), none⟩
 (.op ⟨some 16, .p (.nilchk (.tmp 15)), none⟩
 (.op ⟨some 17, .p (.fieldAddr 12 (.tmp 16)), none⟩
 (.op ⟨some 18, .p (.mov (.tmp 0)), none⟩
 (.op ⟨some 19, .p (.nilchk (.tmp 18)), none⟩
 (.op ⟨some 20, .p (.fieldAddr 14 (.tmp 19)), none⟩
 (.op ⟨some 21, .p (.mov (.tmp 0)), none⟩
 (.op ⟨some 22, .p (.nilchk (.tmp 21)), none⟩
 (.op ⟨some 23, .p (.fieldAddr 16 (.tmp 22)), none⟩
 (.op ⟨some 24, .p (.mov (.tmp 0)), none⟩
 (.op ⟨some 25, .p (.nilchk (.tmp 24)), none⟩
 (.op ⟨some 26, .p (.fieldAddr 18 (.tmp 25)), none⟩
 (.op ⟨some 27, .p (.mov (.tmp 0)), none⟩
 (.op ⟨some 28, .p (.nilchk (.tmp 27)), none⟩
 (.op ⟨some 29, .p (.fieldAddr 20 (.tmp 28)), none⟩
 (.both (.op ⟨some 11, .h (.load 1 false (.tmp 3)), none⟩
 (.op ⟨some 30, .h (.buildSlice 1 6 [.pointer none, .pointer none, .pointer none, .pointer none, .pointer none, .pointer none] [(0, 1, .tmp 14), (1, 1, .tmp 17), (2, 1, .tmp 20), (3, 1, .tmp 23), (4, 1, .tmp 26), (5, 1, .tmp 29)]), none⟩
 (.op ⟨some 31, .h (.append 1 8 (.tmp 11) (.tmp 30)), none⟩
 (.op ⟨none, .h (.store 1 (.tmp 3) (.tmp 31)), none⟩
 (.done)))))
 (.op ⟨some 30, .h (.buildSlice 1 6 [.pointer none, .pointer none, .pointer none, .pointer none, .pointer none, .pointer none] [(0, 1, .tmp 14), (1, 1, .tmp 17), (2, 1, .tmp 20), (3, 1, .tmp 23), (4, 1, .tmp 26), (5, 1, .tmp 29)]), none⟩
 (.op ⟨some 11, .h (.load 1 false (.tmp 3)), none⟩
 (.op ⟨some 31, .h (.append 1 8 (.tmp 11) (.tmp 30)), none⟩
 (.op ⟨none, .h (.store 1 (.tmp 3) (.tmp 31)), none⟩
 (.done)))))))))))))))))))))))))
 (.seq (.reg (.op ⟨some 32, .p (.mov (.tmp 4)), none⟩
 (.op ⟨some 33, .p (.mov (.tmp 0)), none⟩
 (.op ⟨some 34, .p (.nilchk (.tmp 33)), none⟩
 (.op ⟨some 35, .p (.fieldAddr 22 (.tmp 34)), none⟩
 (.op ⟨some 36, .callv (.tmp 32) [.tmp 35], none⟩ .done))))))
 (.seq (.reg (.op ⟨some 37, .p (.mov (.tmp 4)), none⟩
 (.op ⟨some 38, .p (.mov (.tmp 0)), none⟩
 (.op ⟨some 39, .p (.nilchk (.tmp 38)), none⟩
 (.op ⟨some 40, .p (.fieldAddr 30 (.tmp 39)), none⟩
 (.op ⟨some 41, .callv (.tmp 37) [.tmp 40], none⟩ .done))))))
 (.seq (.reg (.op ⟨some 42, .h (.load 1 false (.tmp 3)), none⟩
 (.op ⟨some 2, .p (.mov (.tmp 42)), none⟩ .done)))
 (.ret))))))))⟩

theorem cF64 : compF Try.prog aF64.cfg.pm aF64.cfg.lz Try.f64 = some aF64 := by kernel_rfl
theorem kF64 : aF64.ok = true := by kernel_rfl

-- decoupage/style.formed
def aF65 : AFun := ⟨⟨21, [], false⟩, [.tmp 2],
 .seq (.reg (.op ⟨some 1, .h (.box (.tmp 0)), none⟩
 (.op ⟨some 2, .p (.mov (.const (.bool false))), none⟩ .done)))
 (.seq (.reg (.op ⟨some 3, .p (.fieldAddr 0 (.tmp 1)), none⟩
 (.op ⟨some 4, .h (.load 1 false (.tmp 3)), none⟩
 (.op ⟨some 5, .p (.int2 .eql (.tmp 4) (.const (.int .i64 0))), none⟩
 (.op ⟨some 6, .p (.mov (.tmp 5)), none⟩
 (.op ⟨some 7, .p (.fieldAddr 1 (.tmp 1)), some (6, true)⟩
 (.op ⟨some 8, .h (.load 1 false (.tmp 7)), some (6, true)⟩
 (.op ⟨some 9, .p (.int2 .eql (.tmp 8) (.const (.int .i64 0))), some (6, true)⟩
 (.op ⟨some 10, .p (.pick (.tmp 6) (.tmp 9) (.const (.bool false))), none⟩
 (.op ⟨some 11, .p (.mov (.tmp 10)), none⟩
 (.op ⟨some 12, .p (.fieldAddr 0 (.tmp 1)), some (11, false)⟩
 (.op ⟨some 13, .h (.load 1 false (.tmp 12)), some (11, false)⟩
 (.op ⟨some 14, .p (.int2 .eql (.tmp 13) (.const (.int .i64 1))), some (11, false)⟩
 (.op ⟨some 15, .p (.pick (.tmp 11) (.const (.bool true)) (.tmp 14)), none⟩
 (.op ⟨some 16, .p (.mov (.tmp 15)), none⟩
 (.op ⟨some 17, .p (.fieldAddr 0 (.tmp 1)), some (16, false)⟩
 (.op ⟨some 18, .h (.load 1 false (.tmp 17)), some (16, false)⟩
 (.op ⟨some 19, .p (.int2 .eql (.tmp 18) (.const (.int .i64 2))), some (16, false)⟩
 (.op ⟨some 20, .p (.pick (.tmp 16) (.const (.bool true)) (.tmp 19)), none⟩
 (.op ⟨some 2, .p (.mov (.tmp 20)), none⟩ .done))))))))))))))))))))
 (.ret))⟩

theorem cF65 : compF Try.prog aF65.cfg.pm aF65.cfg.lz Try.f65 = some aF65 := by kernel_rfl
theorem kF65 : aF65.ok = true := by kernel_rfl

-- decoupage/decoupageref06.Lens
def aF66 : AFun := ⟨⟨31, [], false⟩, [.tmp 2],
 .seq (.reg (.op ⟨some 1, .h (.box (.tmp 0)), none⟩
 (.op ⟨some 2, .p (.mov (.const (.slice none 0 0))), none⟩ .done)))
 (.seq (.reg (.op ⟨some 4, .h (.buildSlice 2 0 [] []), none⟩
 (.op ⟨some 5, .p (.fieldAddr 2 (.tmp 1)), none⟩
 (.op ⟨some 6, .p (.sliceA 4 (.tmp 5)), none⟩
 (.op ⟨some 7, .h (.append 2 16 (.tmp 4) (.tmp 6)), none⟩
 (.op ⟨some 3, .p (.mov (.tmp 7)), none⟩ .done))))))
 (.seq (.reg (.op ⟨some 8, .p (.mov (.tmp 3)), none⟩
 (.op ⟨some 9, .p (.fieldAddr 10 (.tmp 1)), none⟩
 (.op ⟨some 10, .h (.load 2 true (.tmp 9)), none⟩
 (.op ⟨some 11, .p (.fieldAddr 12 (.tmp 1)), none⟩
 (.op ⟨some 12, .h (.load 2 true (.tmp 11)), none⟩
 (.op ⟨some 13, .p (.fieldAddr 14 (.tmp 1)), none⟩
 (.op ⟨some 14, .h (.load 2 true (.tmp 13)), none⟩
 (.op ⟨some 15, .p (.fieldAddr 16 (.tmp 1)), none⟩
 (.op ⟨some 16, .h (.load 2 true (.tmp 15)), none⟩
 (.op ⟨some 17, .p (.fieldAddr 18 (.tmp 1)), none⟩
 (.op ⟨some 18, .h (.load 2 true (.tmp 17)), none⟩
 (.op ⟨some 19, .p (.fieldAddr 20 (.tmp 1)), none⟩
 (.op ⟨some 20, .h (.load 2 true (.tmp 19)), none⟩
 (.op ⟨some 21, .h (.buildSlice 2 6 [.int .i64 0, .int .i64 0, .int .i64 0, .int .i64 0, .int .i64 0, .int .i64 0, .int .i64 0, .int .i64 0, .int .i64 0, .int .i64 0, .int .i64 0, .int .i64 0] [(0, 2, .tmp 10), (2, 2, .tmp 12), (4, 2, .tmp 14), (6, 2, .tmp 16), (8, 2, .tmp 18), (10, 2, .tmp 20)]), none⟩
 (.op ⟨some 22, .h (.append 2 16 (.tmp 8) (.tmp 21)), none⟩
 (.op ⟨some 3, .p (.mov (.tmp 22)), none⟩ .done)))))))))))))))))
 (.seq (.reg (.op ⟨some 23, .p (.mov (.tmp 3)), none⟩
 (.op ⟨some 24, .p (.fieldAddr 22 (.tmp 1)), none⟩
 (.op ⟨some 25, .p (.sliceA 4 (.tmp 24)), none⟩
 (.op ⟨some 26, .h (.append 2 16 (.tmp 23) (.tmp 25)), none⟩
 (.op ⟨some 3, .p (.mov (.tmp 26)), none⟩ .done))))))
 (.seq (.reg (.op ⟨some 27, .p (.mov (.tmp 3)), none⟩
 (.op ⟨some 28, .p (.fieldAddr 30 (.tmp 1)), none⟩
 (.op ⟨some 29, .p (.sliceA 4 (.tmp 28)), none⟩
 (.op ⟨some 30, .h (.append 2 16 (.tmp 27) (.tmp 29)), none⟩
 (.op ⟨some 2, .p (.mov (.tmp 30)), none⟩ .done))))))
 (.ret)))))⟩

theorem cF66 : compF Try.prog aF66.cfg.pm aF66.cfg.lz Try.f66 = some aF66 := by kernel_rfl
theorem kF66 : aF66.ok = true := by kernel_rfl

-- decoupage/style.within
def aF67 : AFun := ⟨⟨14, [], false⟩, [.tmp 4],
 .seq (.reg (.op ⟨some 4, .p (.mov (.const (.bool false))), none⟩ .done))
 (.seq (.reg (.op ⟨some 5, .p (.mov (.tmp 0)), none⟩
 (.op ⟨some 6, .p (.mov (.tmp 1)), none⟩
 (.op ⟨some 7, .p (.un .neg (.tmp 6)), none⟩
 (.op ⟨some 8, .p (.int2 .geq (.tmp 5) (.tmp 7)), none⟩
 (.op ⟨some 9, .p (.mov (.tmp 8)), none⟩
 (.op ⟨some 10, .p (.mov (.tmp 0)), some (9, true)⟩
 (.op ⟨some 11, .p (.mov (.tmp 1)), some (9, true)⟩
 (.op ⟨some 12, .p (.int2 .leq (.tmp 10) (.tmp 11)), some (9, true)⟩
 (.op ⟨some 13, .p (.pick (.tmp 9) (.tmp 12) (.const (.bool false))), none⟩
 (.op ⟨some 4, .p (.mov (.tmp 13)), none⟩ .done)))))))))))
 (.ret))⟩

theorem cF67 : compF Try.prog aF67.cfg.pm aF67.cfg.lz Try.f67 = some aF67 := by kernel_rfl
theorem kF67 : aF67.ok = true := by kernel_rfl

-- (*decoupage/scroll.Out).wide
def aF68 : AFun := ⟨⟨29, [], false⟩, [],
 .seq (.seq (.reg (.op ⟨some 7, .p (.mov (.tmp 0)), none⟩
 (.op ⟨some 8, .p (.eqn 0 false (.tmp 7)), none⟩ .done)))
 (.cond (.tmp 8) (.ret)
 (.skip)))
 (.seq (.reg (.op ⟨some 9, .p (.mov (.tmp 2)), none⟩
 (.op ⟨some 10, .p (.int2 .sub (.tmp 9) (.const (.int .i64 1))), none⟩
 (.op ⟨some 6, .p (.mov (.tmp 10)), none⟩ .done))))
 (.block 0 (.loop (.seq (.seq (.reg (.op ⟨some 11, .p (.mov (.tmp 6)), none⟩
 (.op ⟨some 12, .p (.int2 .geq (.tmp 11) (.const (.int .i64 0))), none⟩ .done)))
 (.cond (.tmp 12) (.skip)
 (.exit 0)))
 (.seq (.block 1 (.reg (.op ⟨some 15, .p (.mov (.tmp 0)), none⟩
 (.op ⟨some 16, .p (.mov (.tmp 0)), none⟩
 (.op ⟨some 17, .p (.nilchk (.tmp 16)), none⟩
 (.op ⟨some 18, .p (.fieldAddr 0 (.tmp 17)), none⟩
 (.op ⟨some 20, .p (.mov (.tmp 1)), none⟩
 (.op ⟨some 21, .p (.mov (.tmp 6)), none⟩
 (.op ⟨some 22, .p (.int2 .mul (.const (.int .i64 8)) (.tmp 21)), none⟩
 (.op ⟨some 23, .p (.int2 .shr (.tmp 20) (.tmp 22)), none⟩
 (.op ⟨some 24, .p (.conv .u8 (.tmp 23)), none⟩
 (.both (.op ⟨some 19, .h (.load 1 false (.tmp 18)), none⟩
 (.op ⟨some 25, .h (.buildSlice 1 1 [.int .u8 0] [(0, 1, .tmp 24)]), none⟩
 (.op ⟨some 26, .h (.append 1 1 (.tmp 19) (.tmp 25)), none⟩
 (.op ⟨some 27, .p (.nilchk (.tmp 15)), none⟩
 (.op ⟨some 28, .p (.fieldAddr 0 (.tmp 27)), none⟩
 (.op ⟨none, .h (.store 1 (.tmp 28) (.tmp 26)), none⟩
 (.done)))))))
 (.op ⟨some 25, .h (.buildSlice 1 1 [.int .u8 0] [(0, 1, .tmp 24)]), none⟩
 (.op ⟨some 19, .h (.load 1 false (.tmp 18)), none⟩
 (.op ⟨some 26, .h (.append 1 1 (.tmp 19) (.tmp 25)), none⟩
 (.op ⟨some 27, .p (.nilchk (.tmp 15)), none⟩
 (.op ⟨some 28, .p (.fieldAddr 0 (.tmp 27)), none⟩
 (.op ⟨none, .h (.store 1 (.tmp 28) (.tmp 26)), none⟩
 (.done)))))))))))))))))))
 (.reg (.op ⟨some 13, .p (.mov (.tmp 6)), none⟩
 (.op ⟨some 14, .p (.int2 .sub (.tmp 13) (.const (.int .i64 1))), none⟩
 (.op ⟨some 6, .p (.mov (.tmp 14)), none⟩ .done)))))))))⟩

theorem cF68 : compF Try.prog aF68.cfg.pm aF68.cfg.lz Try.f68 = some aF68 := by kernel_rfl
theorem kF68 : aF68.ok = true := by kernel_rfl

-- slices.Clone[[]byte,byte]
def aF69 : AFun := ⟨⟨8, [], false⟩, [.tmp 2],
 .seq (.reg (.op ⟨some 2, .p (.mov (.const (.slice none 0 0))), none⟩ .done))
 (.seq (.seq (.reg (.op ⟨some 3, .p (.mov (.tmp 0)), none⟩
 (.op ⟨some 4, .p (.eqn 1 false (.tmp 3)), none⟩ .done)))
 (.cond (.tmp 4) (.seq (.reg (.op ⟨some 2, .p (.mov (.const (.slice none 0 0))), none⟩ .done))
 (.ret))
 (.skip)))
 (.seq (.reg (.op ⟨some 5, .h (.buildSlice 1 0 [] []), none⟩
 (.op ⟨some 6, .p (.mov (.tmp 0)), none⟩
 (.op ⟨some 7, .h (.append 1 1 (.tmp 5) (.tmp 6)), none⟩
 (.op ⟨some 2, .p (.mov (.tmp 7)), none⟩ .done)))))
 (.ret)))⟩

theorem cF69 : compF Try.prog aF69.cfg.pm aF69.cfg.lz Try.f69 = some aF69 := by kernel_rfl
theorem kF69 : aF69.ok = true := by kernel_rfl

-- (*decoupage/scroll.In).wide
def aF70 : AFun := ⟨⟨52, [], false⟩, [.tmp 4],
 .seq (.reg (.op ⟨some 4, .p (.mov (.const (.int .u64 0))), none⟩ .done))
 (.seq (.seq (.reg (.op ⟨some 8, .p (.mov (.tmp 0)), none⟩
 (.op ⟨some 9, .p (.eqn 0 false (.tmp 8)), none⟩
 (.op ⟨some 10, .p (.mov (.tmp 9)), none⟩
 (.op ⟨some 11, .p (.mov (.tmp 0)), some (10, false)⟩
 (.op ⟨some 12, .p (.nilchk (.tmp 11)), some (10, false)⟩
 (.op ⟨some 13, .p (.fieldAddr 1 (.tmp 12)), some (10, false)⟩
 (.op ⟨some 14, .h (.load 1 false (.tmp 13)), some (10, false)⟩
 (.op ⟨some 15, .p (.pick (.tmp 10) (.const (.bool true)) (.tmp 14)), none⟩ .done)))))))))
 (.cond (.tmp 15) (.seq (.reg (.op ⟨some 4, .p (.mov (.const (.int .u64 0))), none⟩ .done))
 (.ret))
 (.skip)))
 (.seq (.seq (.reg (.op ⟨some 16, .p (.mov (.tmp 0)), none⟩
 (.op ⟨some 17, .p (.nilchk (.tmp 16)), none⟩
 (.op ⟨some 18, .p (.fieldAddr 0 (.tmp 17)), none⟩
 (.op ⟨some 19, .h (.load 1 false (.tmp 18)), none⟩
 (.op ⟨some 20, .p (.lenS (.tmp 19)), none⟩
 (.op ⟨some 21, .p (.mov (.tmp 1)), none⟩
 (.op ⟨some 22, .p (.int2 .lss (.tmp 20) (.tmp 21)), none⟩ .done))))))))
 (.cond (.tmp 22) (.seq (.reg (.op ⟨some 23, .p (.mov (.tmp 0)), none⟩
 (.op ⟨some 24, .call 37 [.tmp 23], none⟩ .done)))
 (.seq (.reg (.op ⟨some 4, .p (.mov (.const (.int .u64 0))), none⟩ .done))
 (.ret)))
 (.skip)))
 (.seq (.reg (.op ⟨some 5, .p (.mov (.const (.int .u64 0))), none⟩ .done))
 (.seq (.seq (.reg (.op ⟨some 25, .p (.mov (.tmp 0)), none⟩
 (.op ⟨some 26, .p (.nilchk (.tmp 25)), none⟩
 (.op ⟨some 27, .p (.fieldAddr 0 (.tmp 26)), none⟩
 (.op ⟨some 28, .h (.load 1 false (.tmp 27)), none⟩
 (.op ⟨some 29, .p (.mov (.tmp 1)), none⟩
 (.op ⟨some 30, .p (.sliceS 1 (.tmp 28) none (some (.tmp 29))), none⟩
 (.op ⟨some 31, .p (.lenS (.tmp 30)), none⟩
 (.op ⟨some 32, .p (.mov (.const (.int .i64 0))), none⟩ .done)))))))))
 (.block 0 (.loop (.seq (.reg (.op ⟨some 33, .p (.int2 .lss (.tmp 32) (.tmp 31)), none⟩ .done))
 (.seq (.cond (.tmp 33) (.skip)
 (.exit 0))
 (.seq (.block 1 (.seq (.reg (.op ⟨some 34, .p (.idxS 1 (.tmp 30) (.tmp 32)), none⟩
 (.op ⟨some 35, .h (.load 1 false (.tmp 34)), none⟩
 (.op ⟨some 7, .p (.mov (.tmp 35)), none⟩ .done))))
 (.reg (.op ⟨some 36, .p (.mov (.tmp 5)), none⟩
 (.op ⟨some 37, .p (.int2 .shl (.tmp 36) (.const (.int .u64 8))), none⟩
 (.op ⟨some 38, .p (.mov (.tmp 7)), none⟩
 (.op ⟨some 39, .p (.conv .u64 (.tmp 38)), none⟩
 (.op ⟨some 40, .p (.int2 .or (.tmp 37) (.tmp 39)), none⟩
 (.op ⟨some 5, .p (.mov (.tmp 40)), none⟩ .done)))))))))
 (.reg (.op ⟨some 41, .p (.int2 .add (.tmp 32) (.const (.int .i64 1))), none⟩
 (.op ⟨some 32, .p (.mov (.tmp 41)), none⟩ .done)))))))))
 (.seq (.reg (.op ⟨some 42, .p (.mov (.tmp 0)), none⟩
 (.op ⟨some 43, .p (.mov (.tmp 0)), none⟩
 (.op ⟨some 44, .p (.nilchk (.tmp 43)), none⟩
 (.op ⟨some 45, .p (.fieldAddr 0 (.tmp 44)), none⟩
 (.op ⟨some 46, .h (.load 1 false (.tmp 45)), none⟩
 (.op ⟨some 47, .p (.mov (.tmp 1)), none⟩
 (.op ⟨some 48, .p (.sliceS 1 (.tmp 46) (some (.tmp 47)) none), none⟩
 (.op ⟨some 49, .p (.nilchk (.tmp 42)), none⟩
 (.op ⟨some 50, .p (.fieldAddr 0 (.tmp 49)), none⟩
 (.op ⟨none, .h (.store 1 (.tmp 50) (.tmp 48)), none⟩ .done)))))))))))
 (.seq (.reg (.op ⟨some 51, .p (.mov (.tmp 5)), none⟩
 (.op ⟨some 4, .p (.mov (.tmp 51)), none⟩ .done)))
 (.ret)))))))⟩

theorem cF70 : compF Try.prog aF70.cfg.pm aF70.cfg.lz Try.f70 = some aF70 := by kernel_rfl
theorem kF70 : aF70.ok = true := by kernel_rfl

-- decoupage/decoupageref06.eight
def aF71 : AFun := ⟨⟨6, [], false⟩, [.tmp 2],
 .seq (.reg (.op ⟨some 2, .p (.mov (.const (.slice none 0 0))), none⟩ .done))
 (.seq (.reg (.op ⟨some 3, .p (.mov (.tmp 0)), none⟩
 (.op ⟨some 4, .p (.conv .u64 (.tmp 3)), none⟩
 (.op ⟨some 5, .call 49 [.tmp 4, .const (.int .i64 8)], none⟩
 (.op ⟨some 2, .p (.mov (.tmp 5)), none⟩ .done)))))
 (.ret))⟩

theorem cF71 : compF Try.prog aF71.cfg.pm aF71.cfg.lz Try.f71 = some aF71 := by kernel_rfl
theorem kF71 : aF71.ok = true := by kernel_rfl

-- decoupage/decoupageref06.four
def aF72 : AFun := ⟨⟨19, [], false⟩, [.cell 2 8 true, .cell 3 2 true],
 .seq (.reg (.op ⟨some 1, .h (.box (.tmp 0)), none⟩
 (.op ⟨some 2, .h (.alloc [.int .i64 0, .int .i64 0, .int .i64 0, .int .i64 0, .int .i64 0, .int .i64 0, .int .i64 0, .int .i64 0]), none⟩
 (.op ⟨some 3, .h (.alloc [.slice none 0 0, .bool false]), none⟩ .done))))
 (.seq (.reg (.op ⟨some 4, .h (.alloc [.int .i64 0, .int .i64 0, .int .i64 0, .int .i64 0, .int .i64 0, .int .i64 0, .int .i64 0, .int .i64 0]), none⟩ .done))
 (.seq (.seq (.reg (.op ⟨some 6, .p (.mov (.const (.int .i64 0))), none⟩ .done))
 (.block 0 (.loop (.seq (.reg (.op ⟨some 7, .p (.int2 .lss (.tmp 6) (.const (.int .i64 4))), none⟩ .done))
 (.seq (.cond (.tmp 7) (.skip)
 (.exit 0))
 (.seq (.block 1 (.seq (.reg (.op ⟨some 8, .p (.mov (.tmp 6)), none⟩
 (.op ⟨some 5, .p (.mov (.tmp 8)), none⟩ .done)))
 (.reg (.op ⟨some 10, .p (.mov (.tmp 5)), none⟩
 (.op ⟨some 11, .h (.load 2 true (.tmp 1)), none⟩
 (.op ⟨some 12, .call 73 [.tmp 11], none⟩
 (.op ⟨some 9, .p (.mov (.tmp 12)), none⟩
 (.op ⟨some 13, .p (.extract (.tmp 9) 0), none⟩
 (.op ⟨some 14, .p (.extract (.tmp 9) 1), none⟩
 (.op ⟨some 15, .p (.idxA 4 2 (.tmp 4) (.tmp 10)), none⟩
 (.op ⟨none, .h (.store 2 (.tmp 15) (.tmp 13)), none⟩
 (.op ⟨none, .h (.store 2 (.tmp 1) (.tmp 14)), none⟩ .done))))))))))))
 (.reg (.op ⟨some 16, .p (.int2 .add (.tmp 6) (.const (.int .i64 1))), none⟩
 (.op ⟨some 6, .p (.mov (.tmp 16)), none⟩ .done)))))))))
 (.seq (.reg (.both (.op ⟨some 17, .h (.load 8 true (.tmp 4)), none⟩
 (.both (.op ⟨some 18, .h (.load 2 true (.tmp 1)), none⟩
 (.op ⟨none, .h (.store 8 (.tmp 2) (.tmp 17)), none⟩
 (.op ⟨none, .h (.store 2 (.tmp 3) (.tmp 18)), none⟩
 (.done))))
 (.op ⟨none, .h (.store 8 (.tmp 2) (.tmp 17)), none⟩
 (.op ⟨some 18, .h (.load 2 true (.tmp 1)), none⟩
 (.op ⟨none, .h (.store 2 (.tmp 3) (.tmp 18)), none⟩
 (.done))))))
 (.op ⟨some 18, .h (.load 2 true (.tmp 1)), none⟩
 (.op ⟨some 17, .h (.load 8 true (.tmp 4)), none⟩
 (.op ⟨none, .h (.store 8 (.tmp 2) (.tmp 17)), none⟩
 (.op ⟨none, .h (.store 2 (.tmp 3) (.tmp 18)), none⟩
 (.done)))))))
 (.ret))))⟩

theorem cF72 : compF Try.prog aF72.cfg.pm aF72.cfg.lz Try.f72 = some aF72 := by kernel_rfl
theorem kF72 : aF72.ok = true := by kernel_rfl

-- decoupage/decoupageref06.length
def aF73 : AFun := ⟨⟨24, [], false⟩, [.cell 2 2 true, .cell 3 2 true],
 .seq (.reg (.op ⟨some 1, .h (.box (.tmp 0)), none⟩
 (.op ⟨some 2, .h (.alloc [.int .i64 0, .int .i64 0]), none⟩
 (.op ⟨some 3, .h (.alloc [.slice none 0 0, .bool false]), none⟩ .done))))
 (.seq (.reg (.op ⟨some 7, .h (.load 2 true (.tmp 1)), none⟩
 (.op ⟨some 8, .call 35 [.tmp 7, .const (.int .i64 1)], none⟩
 (.op ⟨some 6, .p (.mov (.tmp 8)), none⟩
 (.op ⟨some 9, .p (.extract (.tmp 6) 0), none⟩
 (.op ⟨some 10, .p (.extract (.tmp 6) 1), none⟩
 (.op ⟨some 4, .p (.mov (.tmp 9)), none⟩
 (.op ⟨none, .h (.store 2 (.tmp 1) (.tmp 10)), none⟩ .done))))))))
 (.seq (.reg (.op ⟨some 11, .p (.mov (.tmp 4)), none⟩
 (.op ⟨some 12, .p (.conv .i64 (.tmp 11)), none⟩
 (.op ⟨some 13, .p (.build [.int .i64 0, .int .i64 0] [(0, 1, .tmp 12)]), none⟩
 (.op ⟨some 5, .h (.alloc [.int .i64 0, .int .i64 0]), none⟩
 (.op ⟨none, .h (.store 2 (.tmp 5) (.tmp 13)), none⟩ .done))))))
 (.seq (.seq (.reg (.op ⟨some 14, .p (.mov (.tmp 4)), none⟩
 (.op ⟨some 15, .p (.int2 .neq (.tmp 14) (.const (.int .u64 0))), none⟩ .done)))
 (.cond (.tmp 15) (.reg (.op ⟨some 17, .h (.load 2 true (.tmp 1)), none⟩
 (.op ⟨some 18, .call 74 [.tmp 17], none⟩
 (.op ⟨some 16, .p (.mov (.tmp 18)), none⟩
 (.op ⟨some 19, .p (.extract (.tmp 16) 0), none⟩
 (.op ⟨some 20, .p (.extract (.tmp 16) 1), none⟩
 (.op ⟨some 21, .p (.fieldAddr 1 (.tmp 5)), none⟩
 (.op ⟨none, .h (.store 1 (.tmp 21) (.tmp 19)), none⟩
 (.op ⟨none, .h (.store 2 (.tmp 1) (.tmp 20)), none⟩ .done)))))))))
 (.skip)))
 (.seq (.reg (.both (.op ⟨some 22, .h (.load 2 true (.tmp 5)), none⟩
 (.both (.op ⟨some 23, .h (.load 2 true (.tmp 1)), none⟩
 (.op ⟨none, .h (.store 2 (.tmp 2) (.tmp 22)), none⟩
 (.op ⟨none, .h (.store 2 (.tmp 3) (.tmp 23)), none⟩
 (.done))))
 (.op ⟨none, .h (.store 2 (.tmp 2) (.tmp 22)), none⟩
 (.op ⟨some 23, .h (.load 2 true (.tmp 1)), none⟩
 (.op ⟨none, .h (.store 2 (.tmp 3) (.tmp 23)), none⟩
 (.done))))))
 (.op ⟨some 23, .h (.load 2 true (.tmp 1)), none⟩
 (.op ⟨some 22, .h (.load 2 true (.tmp 5)), none⟩
 (.op ⟨none, .h (.store 2 (.tmp 2) (.tmp 22)), none⟩
 (.op ⟨none, .h (.store 2 (.tmp 3) (.tmp 23)), none⟩
 (.done)))))))
 (.ret)))))⟩

theorem cF73 : compF Try.prog aF73.cfg.pm aF73.cfg.lz Try.f73 = some aF73 := by kernel_rfl
theorem kF73 : aF73.ok = true := by kernel_rfl

-- (decoupage/decoupageref05.In).Eight
def aF74 : AFun := ⟨⟨14, [], false⟩, [.tmp 2, .cell 3 2 true],
 .seq (.reg (.op ⟨some 1, .h (.box (.tmp 0)), none⟩
 (.op ⟨some 2, .p (.mov (.const (.int .i64 0))), none⟩
 (.op ⟨some 3, .h (.alloc [.slice none 0 0, .bool false]), none⟩ .done))))
 (.seq (.reg (.op ⟨some 7, .h (.load 2 true (.tmp 1)), none⟩
 (.op ⟨some 8, .call 35 [.tmp 7, .const (.int .i64 8)], none⟩
 (.op ⟨some 6, .p (.mov (.tmp 8)), none⟩
 (.op ⟨some 9, .p (.extract (.tmp 6) 0), none⟩
 (.op ⟨some 10, .p (.extract (.tmp 6) 1), none⟩
 (.op ⟨some 5, .h (.alloc [.slice none 0 0, .bool false]), none⟩
 (.op ⟨some 4, .p (.mov (.tmp 9)), none⟩
 (.op ⟨none, .h (.store 2 (.tmp 5) (.tmp 10)), none⟩ .done)))))))))
 (.seq (.reg (.op ⟨some 11, .p (.mov (.tmp 4)), none⟩
 (.op ⟨some 12, .p (.conv .i64 (.tmp 11)), none⟩
 (.op ⟨some 2, .p (.mov (.tmp 12)), none⟩
 (.op ⟨some 13, .h (.load 2 true (.tmp 5)), none⟩
 (.op ⟨none, .h (.store 2 (.tmp 3) (.tmp 13)), none⟩
 (.done)))))))
 (.ret)))⟩

theorem cF74 : compF Try.prog aF74.cfg.pm aF74.cfg.lz Try.f74 = some aF74 := by kernel_rfl
theorem kF74 : aF74.ok = true := by kernel_rfl

-- decoupage/style.lengths$1
def aF91 : AFun := ⟨⟨15, [], false⟩, [],
 .seq (.reg (.op ⟨some 4, .p (.mov (.const (.int .i64 0))), none⟩ .done))
 (.block 0 (.loop (.seq (.reg (.op ⟨some 5, .p (.int2 .lss (.tmp 4) (.const (.int .i64 4))), none⟩ .done))
 (.seq (.cond (.tmp 5) (.skip)
 (.exit 0))
 (.seq (.block 1 (.seq (.reg (.op ⟨some 6, .p (.mov (.tmp 4)), none⟩
 (.op ⟨some 3, .p (.mov (.tmp 6)), none⟩ .done)))
 (.reg (.op ⟨some 8, .p (.mov (.tmp 0)), none⟩
 (.op ⟨some 9, .p (.mov (.tmp 3)), none⟩
 (.op ⟨some 10, .p (.nilchk (.tmp 8)), none⟩
 (.op ⟨some 11, .p (.idxA 4 2 (.tmp 10) (.tmp 9)), none⟩
 (.both (.op ⟨some 7, .h (.load 1 false (.tmp 1)), none⟩
 (.op ⟨some 12, .h (.buildSlice 1 1 [.pointer none] [(0, 1, .tmp 11)]), none⟩
 (.op ⟨some 13, .h (.append 1 8 (.tmp 7) (.tmp 12)), none⟩
 (.op ⟨none, .h (.store 1 (.tmp 1) (.tmp 13)), none⟩
 (.done)))))
 (.op ⟨some 12, .h (.buildSlice 1 1 [.pointer none] [(0, 1, .tmp 11)]), none⟩
 (.op ⟨some 7, .h (.load 1 false (.tmp 1)), none⟩
 (.op ⟨some 13, .h (.append 1 8 (.tmp 7) (.tmp 12)), none⟩
 (.op ⟨none, .h (.store 1 (.tmp 1) (.tmp 13)), none⟩
 (.done)))))))))))))
 (.reg (.op ⟨some 14, .p (.int2 .add (.tmp 4) (.const (.int .i64 1))), none⟩
 (.op ⟨some 4, .p (.mov (.tmp 14)), none⟩ .done))))))))⟩

theorem cF91 : compF Try.prog aF91.cfg.pm aF91.cfg.lz Try.f91 = some aF91 := by kernel_rfl
theorem kF91 : aF91.ok = true := by kernel_rfl

end Go.Proofs.Ytbgnaeagdneikaa
