/- The compiled code of functions of the seat, printed by a program of mine (gen.py), checked by the kernel. -/
import Derived.Test.YtbgnaeagdneikaaCoreAi
import Derived.Test.YtbgnaeagdneikaaProg
import Derived.KernelRfl
namespace Go.Proofs.Ytbgnaeagdneikaa
open Go Go.Proofs.Ytbgnaeagdneikaa.Abs
set_option maxRecDepth 100000

-- decoupage/decoupagelaw05.awake
def aF24 : AFun := ⟨⟨13, [], false⟩, [.tmp 0],
 .seq (.reg (.op ⟨some 0, .p (.mov (.const (.bool false))), none⟩ .done))
 (.seq (.reg (.op ⟨some 1, .h (.alloc [.slice none 0 0]), none⟩ .done))
 (.seq (.reg (.op ⟨some 3, .call 26 [.tmp 1, .const (.int .u32 258)], none⟩ .done))
 (.seq (.reg (.op ⟨some 4, .call 29 [.tmp 1], none⟩
 (.op ⟨some 5, .call 30 [.tmp 4], none⟩
 (.op ⟨some 2, .p (.mov (.tmp 5)), none⟩ .done))))
 (.seq (.reg (.op ⟨some 6, .p (.mov (.tmp 2)), none⟩
 (.op ⟨some 7, .call 36 [.tmp 6], none⟩
 (.op ⟨some 8, .p (.int2 .eql (.tmp 7) (.const (.int .u32 258))), none⟩
 (.op ⟨some 9, .p (.mov (.tmp 8)), none⟩
 (.op ⟨some 10, .p (.mov (.tmp 2)), some (9, true)⟩
 (.op ⟨some 11, .call 33 [.tmp 10], some (9, true)⟩
 (.op ⟨some 12, .p (.pick (.tmp 9) (.tmp 11) (.const (.bool false))), none⟩
 (.op ⟨some 0, .p (.mov (.tmp 12)), none⟩ .done)))))))))
 (.ret)))))⟩

theorem cF24 : compF Try.prog aF24.cfg.pm aF24.cfg.lz Try.f24 = some aF24 := by kernel_rfl
theorem kF24 : aF24.ok = true := by kernel_rfl

-- (*decoupage/scroll.Out).Byte
def aF25 : AFun := ⟨⟨8, [], false⟩, [],
 .reg (.op ⟨some 4, .p (.mov (.tmp 0)), none⟩
 (.op ⟨some 5, .p (.mov (.tmp 1)), none⟩
 (.op ⟨some 6, .p (.conv .u64 (.tmp 5)), none⟩
 (.op ⟨some 7, .call 68 [.tmp 4, .tmp 6, .const (.int .i64 1)], none⟩ .done))))⟩

theorem cF25 : compF Try.prog aF25.cfg.pm aF25.cfg.lz Try.f25 = some aF25 := by kernel_rfl
theorem kF25 : aF25.ok = true := by kernel_rfl

-- (*decoupage/scroll.Out).Four
def aF26 : AFun := ⟨⟨8, [], false⟩, [],
 .reg (.op ⟨some 4, .p (.mov (.tmp 0)), none⟩
 (.op ⟨some 5, .p (.mov (.tmp 1)), none⟩
 (.op ⟨some 6, .p (.conv .u64 (.tmp 5)), none⟩
 (.op ⟨some 7, .call 68 [.tmp 4, .tmp 6, .const (.int .i64 4)], none⟩ .done))))⟩

theorem cF26 : compF Try.prog aF26.cfg.pm aF26.cfg.lz Try.f26 = some aF26 := by kernel_rfl
theorem kF26 : aF26.ok = true := by kernel_rfl

-- (*decoupage/scroll.Out).Eight
def aF27 : AFun := ⟨⟨8, [], false⟩, [],
 .reg (.op ⟨some 4, .p (.mov (.tmp 0)), none⟩
 (.op ⟨some 5, .p (.mov (.tmp 1)), none⟩
 (.op ⟨some 6, .p (.conv .u64 (.tmp 5)), none⟩
 (.op ⟨some 7, .call 68 [.tmp 4, .tmp 6, .const (.int .i64 8)], none⟩ .done))))⟩

theorem cF27 : compF Try.prog aF27.cfg.pm aF27.cfg.lz Try.f27 = some aF27 := by kernel_rfl
theorem kF27 : aF27.ok = true := by kernel_rfl

-- (decoupage/decoupagelaw05.Piece).bytes
def aF28 : AFun := ⟨⟨22, [], false⟩, [.tmp 2],
 .seq (.reg (.op ⟨some 1, .h (.box (.tmp 0)), none⟩
 (.op ⟨some 2, .p (.mov (.const (.slice none 0 0))), none⟩ .done)))
 (.seq (.seq (.reg (.op ⟨some 3, .p (.fieldAddr 0 (.tmp 1)), none⟩
 (.op ⟨some 4, .h (.load 1 false (.tmp 3)), none⟩ .done)))
 (.block 0 (.seq (.reg (.op ⟨some 6, .p (.int2 .eql (.tmp 4) (.const (.int .u8 0))), none⟩
 (.op ⟨some 5, .p (.mov (.tmp 6)), none⟩ .done)))
 (.cond (.tmp 5) (.seq (.reg (.op ⟨some 7, .p (.fieldAddr 1 (.tmp 1)), none⟩
 (.op ⟨some 8, .h (.load 1 false (.tmp 7)), none⟩
 (.op ⟨some 9, .p (.conv .u8 (.tmp 8)), none⟩
 (.op ⟨some 10, .h (.buildSlice 1 1 [.int .u8 0] [(0, 1, .tmp 9)]), none⟩
 (.op ⟨some 2, .p (.mov (.tmp 10)), none⟩ .done))))))
 (.ret))
 (.seq (.reg (.op ⟨some 12, .p (.int2 .eql (.tmp 4) (.const (.int .u8 1))), none⟩
 (.op ⟨some 11, .p (.mov (.tmp 12)), none⟩ .done)))
 (.cond (.tmp 11) (.seq (.reg (.op ⟨some 13, .p (.fieldAddr 1 (.tmp 1)), none⟩
 (.op ⟨some 14, .h (.load 1 false (.tmp 13)), none⟩
 (.op ⟨some 15, .p (.conv .u32 (.tmp 14)), none⟩
 (.op ⟨some 16, .p (.conv .u64 (.tmp 15)), none⟩
 (.op ⟨some 17, .call 49 [.tmp 16, .const (.int .i64 4)], none⟩
 (.op ⟨some 2, .p (.mov (.tmp 17)), none⟩ .done)))))))
 (.ret))
 (.skip)))))))
 (.seq (.reg (.op ⟨some 18, .p (.fieldAddr 1 (.tmp 1)), none⟩
 (.op ⟨some 19, .h (.load 1 false (.tmp 18)), none⟩
 (.op ⟨some 20, .p (.conv .u64 (.tmp 19)), none⟩
 (.op ⟨some 21, .call 49 [.tmp 20, .const (.int .i64 8)], none⟩
 (.op ⟨some 2, .p (.mov (.tmp 21)), none⟩ .done))))))
 (.ret)))⟩

theorem cF28 : compF Try.prog aF28.cfg.pm aF28.cfg.lz Try.f28 = some aF28 := by kernel_rfl
theorem kF28 : aF28.ok = true := by kernel_rfl

-- (*decoupage/scroll.Out).Bytes
def aF29 : AFun := ⟨⟨10, [], false⟩, [.tmp 2],
 .seq (.reg (.op ⟨some 2, .p (.mov (.const (.slice none 0 0))), none⟩ .done))
 (.seq (.seq (.reg (.op ⟨some 3, .p (.mov (.tmp 0)), none⟩
 (.op ⟨some 4, .p (.eqn 0 false (.tmp 3)), none⟩ .done)))
 (.cond (.tmp 4) (.seq (.reg (.op ⟨some 2, .p (.mov (.const (.slice none 0 0))), none⟩ .done))
 (.ret))
 (.skip)))
 (.seq (.reg (.op ⟨some 5, .p (.mov (.tmp 0)), none⟩
 (.op ⟨some 6, .p (.nilchk (.tmp 5)), none⟩
 (.op ⟨some 7, .p (.fieldAddr 0 (.tmp 6)), none⟩
 (.op ⟨some 8, .h (.load 1 false (.tmp 7)), none⟩
 (.op ⟨some 9, .call 69 [.tmp 8], none⟩
 (.op ⟨some 2, .p (.mov (.tmp 9)), none⟩ .done)))))))
 (.ret)))⟩

theorem cF29 : compF Try.prog aF29.cfg.pm aF29.cfg.lz Try.f29 = some aF29 := by kernel_rfl
theorem kF29 : aF29.ok = true := by kernel_rfl

-- decoupage/scroll.NewIn
def aF30 : AFun := ⟨⟨7, [], false⟩, [.tmp 2],
 .seq (.reg (.op ⟨some 2, .p (.mov (.const (.pointer none))), none⟩ .done))
 (.seq (.reg (.op ⟨some 3, .p (.mov (.tmp 0)), none⟩
 (.op ⟨some 4, .call 69 [.tmp 3], none⟩
 (.op ⟨some 5, .p (.build [.slice none 0 0, .bool false] [(0, 1, .tmp 4)]), none⟩
 (.op ⟨some 6, .h (.box (.tmp 5)), none⟩
 (.op ⟨some 2, .p (.mov (.tmp 6)), none⟩ .done))))))
 (.ret))⟩

theorem cF30 : compF Try.prog aF30.cfg.pm aF30.cfg.lz Try.f30 = some aF30 := by kernel_rfl
theorem kF30 : aF30.ok = true := by kernel_rfl

-- (*decoupage/scroll.In).Eight
def aF31 : AFun := ⟨⟨6, [], false⟩, [.tmp 2],
 .seq (.reg (.op ⟨some 2, .p (.mov (.const (.int .i64 0))), none⟩ .done))
 (.seq (.reg (.op ⟨some 3, .p (.mov (.tmp 0)), none⟩
 (.op ⟨some 4, .call 70 [.tmp 3, .const (.int .i64 8)], none⟩
 (.op ⟨some 5, .p (.conv .i64 (.tmp 4)), none⟩
 (.op ⟨some 2, .p (.mov (.tmp 5)), none⟩ .done)))))
 (.ret))⟩

theorem cF31 : compF Try.prog aF31.cfg.pm aF31.cfg.lz Try.f31 = some aF31 := by kernel_rfl
theorem kF31 : aF31.ok = true := by kernel_rfl

-- (*decoupage/scroll.In).Byte
def aF32 : AFun := ⟨⟨6, [], false⟩, [.tmp 2],
 .seq (.reg (.op ⟨some 2, .p (.mov (.const (.int .u8 0))), none⟩ .done))
 (.seq (.reg (.op ⟨some 3, .p (.mov (.tmp 0)), none⟩
 (.op ⟨some 4, .call 70 [.tmp 3, .const (.int .i64 1)], none⟩
 (.op ⟨some 5, .p (.conv .u8 (.tmp 4)), none⟩
 (.op ⟨some 2, .p (.mov (.tmp 5)), none⟩ .done)))))
 (.ret))⟩

theorem cF32 : compF Try.prog aF32.cfg.pm aF32.cfg.lz Try.f32 = some aF32 := by kernel_rfl
theorem kF32 : aF32.ok = true := by kernel_rfl

-- (*decoupage/scroll.In).Done
def aF33 : AFun := ⟨⟨20, [], false⟩, [.tmp 2],
 .seq (.reg (.op ⟨some 2, .p (.mov (.const (.bool false))), none⟩ .done))
 (.seq (.reg (.op ⟨some 3, .p (.mov (.tmp 0)), none⟩
 (.op ⟨some 4, .p (.eqn 0 true (.tmp 3)), none⟩
 (.op ⟨some 5, .p (.mov (.tmp 4)), none⟩
 (.op ⟨some 6, .p (.mov (.tmp 0)), some (5, true)⟩
 (.op ⟨some 7, .p (.nilchk (.tmp 6)), some (5, true)⟩
 (.op ⟨some 8, .p (.fieldAddr 1 (.tmp 7)), some (5, true)⟩
 (.op ⟨some 9, .h (.load 1 false (.tmp 8)), some (5, true)⟩
 (.op ⟨some 10, .p (.un .not (.tmp 9)), some (5, true)⟩
 (.op ⟨some 11, .p (.pick (.tmp 5) (.tmp 10) (.const (.bool false))), none⟩
 (.op ⟨some 12, .p (.mov (.tmp 11)), none⟩
 (.op ⟨some 13, .p (.mov (.tmp 0)), some (12, true)⟩
 (.op ⟨some 14, .p (.nilchk (.tmp 13)), some (12, true)⟩
 (.op ⟨some 15, .p (.fieldAddr 0 (.tmp 14)), some (12, true)⟩
 (.op ⟨some 16, .h (.load 1 false (.tmp 15)), some (12, true)⟩
 (.op ⟨some 17, .p (.lenS (.tmp 16)), some (12, true)⟩
 (.op ⟨some 18, .p (.int2 .eql (.tmp 17) (.const (.int .i64 0))), some (12, true)⟩
 (.op ⟨some 19, .p (.pick (.tmp 12) (.tmp 18) (.const (.bool false))), none⟩
 (.op ⟨some 2, .p (.mov (.tmp 19)), none⟩ .done)))))))))))))))))))
 (.ret))⟩

theorem cF33 : compF Try.prog aF33.cfg.pm aF33.cfg.lz Try.f33 = some aF33 := by kernel_rfl
theorem kF33 : aF33.ok = true := by kernel_rfl

-- (*decoupage/scroll.In).Bad
def aF34 : AFun := ⟨⟨11, [], false⟩, [.tmp 2],
 .seq (.reg (.op ⟨some 2, .p (.mov (.const (.bool false))), none⟩ .done))
 (.seq (.reg (.op ⟨some 3, .p (.mov (.tmp 0)), none⟩
 (.op ⟨some 4, .p (.eqn 0 true (.tmp 3)), none⟩
 (.op ⟨some 5, .p (.mov (.tmp 4)), none⟩
 (.op ⟨some 6, .p (.mov (.tmp 0)), some (5, true)⟩
 (.op ⟨some 7, .p (.nilchk (.tmp 6)), some (5, true)⟩
 (.op ⟨some 8, .p (.fieldAddr 1 (.tmp 7)), some (5, true)⟩
 (.op ⟨some 9, .h (.load 1 false (.tmp 8)), some (5, true)⟩
 (.op ⟨some 10, .p (.pick (.tmp 5) (.tmp 9) (.const (.bool false))), none⟩
 (.op ⟨some 2, .p (.mov (.tmp 10)), none⟩ .done))))))))))
 (.ret))⟩

theorem cF34 : compF Try.prog aF34.cfg.pm aF34.cfg.lz Try.f34 = some aF34 := by kernel_rfl
theorem kF34 : aF34.ok = true := by kernel_rfl

-- (decoupage/decoupageref05.In).Take
def aF35 : AFun := ⟨⟨38, [], false⟩, [.tmp 4, .cell 5 2 true],
 .seq (.reg (.op ⟨some 2, .h (.box (.tmp 0)), none⟩
 (.op ⟨some 4, .p (.mov (.const (.int .u64 0))), none⟩
 (.op ⟨some 5, .h (.alloc [.slice none 0 0, .bool false]), none⟩ .done))))
 (.seq (.seq (.reg (.op ⟨some 8, .p (.fieldAddr 1 (.tmp 2)), none⟩
 (.op ⟨some 9, .h (.load 1 false (.tmp 8)), none⟩
 (.op ⟨some 10, .p (.mov (.tmp 9)), none⟩
 (.op ⟨some 11, .p (.fieldAddr 0 (.tmp 2)), some (10, false)⟩
 (.op ⟨some 12, .h (.load 1 false (.tmp 11)), some (10, false)⟩
 (.op ⟨some 13, .p (.lenS (.tmp 12)), some (10, false)⟩
 (.op ⟨some 14, .p (.mov (.tmp 1)), some (10, false)⟩
 (.op ⟨some 15, .p (.int2 .lss (.tmp 13) (.tmp 14)), some (10, false)⟩
 (.op ⟨some 16, .p (.pick (.tmp 10) (.const (.bool true)) (.tmp 15)), none⟩ .done))))))))))
 (.cond (.tmp 16) (.seq (.reg (.op ⟨some 17, .p (.build [.slice none 0 0, .bool false] [(1, 1, .const (.bool true))]), none⟩
 (.op ⟨some 4, .p (.mov (.const (.int .u64 0))), none⟩
 (.op ⟨none, .h (.store 2 (.tmp 5) (.tmp 17)), none⟩ .done))))
 (.ret))
 (.skip)))
 (.seq (.reg (.op ⟨some 6, .p (.mov (.const (.int .u64 0))), none⟩ .done))
 (.seq (.seq (.reg (.op ⟨some 18, .p (.mov (.tmp 1)), none⟩
 (.op ⟨some 19, .p (.mov (.const (.int .i64 0))), none⟩ .done)))
 (.block 0 (.loop (.seq (.reg (.op ⟨some 20, .p (.int2 .lss (.tmp 19) (.tmp 18)), none⟩ .done))
 (.seq (.cond (.tmp 20) (.skip)
 (.exit 0))
 (.seq (.block 1 (.seq (.reg (.op ⟨some 21, .p (.mov (.tmp 19)), none⟩
 (.op ⟨some 7, .p (.mov (.tmp 21)), none⟩ .done)))
 (.reg (.op ⟨some 22, .p (.mov (.tmp 6)), none⟩
 (.op ⟨some 23, .p (.int2 .mul (.tmp 22) (.const (.int .u64 256))), none⟩
 (.op ⟨some 24, .p (.fieldAddr 0 (.tmp 2)), none⟩
 (.op ⟨some 25, .h (.load 1 false (.tmp 24)), none⟩
 (.op ⟨some 26, .p (.mov (.tmp 7)), none⟩
 (.op ⟨some 27, .p (.idxS 1 (.tmp 25) (.tmp 26)), none⟩
 (.op ⟨some 28, .h (.load 1 false (.tmp 27)), none⟩
 (.op ⟨some 29, .p (.conv .u64 (.tmp 28)), none⟩
 (.op ⟨some 30, .p (.int2 .add (.tmp 23) (.tmp 29)), none⟩
 (.op ⟨some 6, .p (.mov (.tmp 30)), none⟩ .done)))))))))))))
 (.reg (.op ⟨some 31, .p (.int2 .add (.tmp 19) (.const (.int .i64 1))), none⟩
 (.op ⟨some 19, .p (.mov (.tmp 31)), none⟩ .done)))))))))
 (.seq (.reg (.op ⟨some 32, .p (.mov (.tmp 6)), none⟩
 (.op ⟨some 33, .p (.fieldAddr 0 (.tmp 2)), none⟩
 (.op ⟨some 35, .p (.mov (.tmp 1)), none⟩
 (.op ⟨some 4, .p (.mov (.tmp 32)), none⟩
 (.op ⟨some 34, .h (.load 1 false (.tmp 33)), none⟩
 (.op ⟨some 36, .p (.sliceS 1 (.tmp 34) (some (.tmp 35)) none), none⟩
 (.op ⟨some 37, .p (.build [.slice none 0 0, .bool false] [(0, 1, .tmp 36)]), none⟩
 (.op ⟨none, .h (.store 2 (.tmp 5) (.tmp 37)), none⟩
 (.done))))))))))
 (.ret)))))⟩

theorem cF35 : compF Try.prog aF35.cfg.pm aF35.cfg.lz Try.f35 = some aF35 := by kernel_rfl
theorem kF35 : aF35.ok = true := by kernel_rfl

-- (*decoupage/scroll.In).Four
def aF36 : AFun := ⟨⟨6, [], false⟩, [.tmp 2],
 .seq (.reg (.op ⟨some 2, .p (.mov (.const (.int .u32 0))), none⟩ .done))
 (.seq (.reg (.op ⟨some 3, .p (.mov (.tmp 0)), none⟩
 (.op ⟨some 4, .call 70 [.tmp 3, .const (.int .i64 4)], none⟩
 (.op ⟨some 5, .p (.conv .u32 (.tmp 4)), none⟩
 (.op ⟨some 2, .p (.mov (.tmp 5)), none⟩ .done)))))
 (.ret))⟩

theorem cF36 : compF Try.prog aF36.cfg.pm aF36.cfg.lz Try.f36 = some aF36 := by kernel_rfl
theorem kF36 : aF36.ok = true := by kernel_rfl

-- (*decoupage/scroll.In).Fail
def aF37 : AFun := ⟨⟨10, [], false⟩, [],
 .seq (.reg (.op ⟨some 2, .p (.mov (.tmp 0)), none⟩
 (.op ⟨some 3, .p (.eqn 0 true (.tmp 2)), none⟩ .done)))
 (.cond (.tmp 3) (.reg (.op ⟨some 4, .p (.mov (.tmp 0)), none⟩
 (.op ⟨some 5, .p (.mov (.tmp 0)), none⟩
 (.op ⟨some 6, .p (.nilchk (.tmp 4)), none⟩
 (.op ⟨some 7, .p (.fieldAddr 0 (.tmp 6)), none⟩
 (.op ⟨none, .h (.store 1 (.tmp 7) (.const (.slice none 0 0))), none⟩
 (.op ⟨some 8, .p (.nilchk (.tmp 5)), none⟩
 (.op ⟨some 9, .p (.fieldAddr 1 (.tmp 8)), none⟩
 (.op ⟨none, .h (.store 1 (.tmp 9) (.const (.bool true))), none⟩ .done)))))))))
 (.skip))⟩

theorem cF37 : compF Try.prog aF37.cfg.pm aF37.cfg.lz Try.f37 = some aF37 := by kernel_rfl
theorem kF37 : aF37.ok = true := by kernel_rfl

-- (*decoupage/scroll.In).Left
def aF38 : AFun := ⟨⟨10, [], false⟩, [.tmp 2],
 .seq (.reg (.op ⟨some 2, .p (.mov (.const (.int .i64 0))), none⟩ .done))
 (.seq (.seq (.reg (.op ⟨some 3, .p (.mov (.tmp 0)), none⟩
 (.op ⟨some 4, .p (.eqn 0 false (.tmp 3)), none⟩ .done)))
 (.cond (.tmp 4) (.seq (.reg (.op ⟨some 2, .p (.mov (.const (.int .i64 0))), none⟩ .done))
 (.ret))
 (.skip)))
 (.seq (.reg (.op ⟨some 5, .p (.mov (.tmp 0)), none⟩
 (.op ⟨some 6, .p (.nilchk (.tmp 5)), none⟩
 (.op ⟨some 7, .p (.fieldAddr 0 (.tmp 6)), none⟩
 (.op ⟨some 8, .h (.load 1 false (.tmp 7)), none⟩
 (.op ⟨some 9, .p (.lenS (.tmp 8)), none⟩
 (.op ⟨some 2, .p (.mov (.tmp 9)), none⟩ .done)))))))
 (.ret)))⟩

theorem cF38 : compF Try.prog aF38.cfg.pm aF38.cfg.lz Try.f38 = some aF38 := by kernel_rfl
theorem kF38 : aF38.ok = true := by kernel_rfl

-- decoupage/decoupageref06.Bytes
def aF39 : AFun := ⟨⟨88, [], false⟩, [.tmp 2],
 .seq (.reg (.op ⟨some 1, .h (.box (.tmp 0)), none⟩
 (.op ⟨some 2, .p (.mov (.const (.slice none 0 0))), none⟩ .done)))
 (.seq (.reg (.op ⟨some 8, .p (.fieldAddr 1 (.tmp 1)), none⟩
 (.op ⟨some 9, .h (.load 1 false (.tmp 8)), none⟩
 (.op ⟨some 10, .p (.int2 .mul (.tmp 9) (.const (.int .i64 2))), none⟩
 (.op ⟨some 3, .p (.mov (.tmp 10)), none⟩ .done)))))
 (.seq (.seq (.reg (.op ⟨some 11, .p (.fieldAddr 0 (.tmp 1)), none⟩
 (.op ⟨some 12, .h (.load 1 false (.tmp 11)), none⟩ .done)))
 (.cond (.tmp 12) (.reg (.op ⟨some 13, .p (.mov (.tmp 3)), none⟩
 (.op ⟨some 14, .p (.int2 .add (.tmp 13) (.const (.int .i64 1))), none⟩
 (.op ⟨some 3, .p (.mov (.tmp 14)), none⟩ .done))))
 (.skip)))
 (.seq (.seq (.reg (.op ⟨some 15, .p (.fieldAddr 42 (.tmp 1)), none⟩
 (.op ⟨some 16, .h (.load 1 false (.tmp 15)), none⟩ .done)))
 (.cond (.tmp 16) (.reg (.op ⟨some 17, .p (.mov (.tmp 3)), none⟩
 (.op ⟨some 18, .p (.int2 .add (.tmp 17) (.const (.int .i64 8))), none⟩
 (.op ⟨some 3, .p (.mov (.tmp 18)), none⟩ .done))))
 (.skip)))
 (.seq (.seq (.reg (.op ⟨some 19, .p (.fieldAddr 43 (.tmp 1)), none⟩
 (.op ⟨some 20, .h (.load 1 false (.tmp 19)), none⟩ .done)))
 (.cond (.tmp 20) (.reg (.op ⟨some 21, .p (.mov (.tmp 3)), none⟩
 (.op ⟨some 22, .p (.int2 .add (.tmp 21) (.const (.int .i64 16))), none⟩
 (.op ⟨some 3, .p (.mov (.tmp 22)), none⟩ .done))))
 (.skip)))
 (.seq (.seq (.reg (.op ⟨some 23, .p (.fieldAddr 45 (.tmp 1)), none⟩
 (.op ⟨some 24, .h (.load 1 false (.tmp 23)), none⟩ .done)))
 (.cond (.tmp 24) (.reg (.op ⟨some 25, .p (.mov (.tmp 3)), none⟩
 (.op ⟨some 26, .p (.int2 .add (.tmp 25) (.const (.int .i64 32))), none⟩
 (.op ⟨some 3, .p (.mov (.tmp 26)), none⟩ .done))))
 (.skip)))
 (.seq (.reg (.op ⟨some 27, .p (.mov (.tmp 3)), none⟩
 (.op ⟨some 28, .p (.conv .u8 (.tmp 27)), none⟩
 (.op ⟨some 29, .h (.buildSlice 1 1 [.int .u8 0] [(0, 1, .tmp 28)]), none⟩
 (.op ⟨some 4, .p (.mov (.tmp 29)), none⟩ .done)))))
 (.seq (.reg (.op ⟨some 30, .h (.load 48 true (.tmp 1)), none⟩
 (.op ⟨some 31, .call 66 [.tmp 30], none⟩
 (.op ⟨some 5, .p (.mov (.tmp 31)), none⟩ .done))))
 (.seq (.seq (.reg (.op ⟨some 32, .p (.mov (.tmp 5)), none⟩
 (.op ⟨some 33, .p (.lenS (.tmp 32)), none⟩
 (.op ⟨some 34, .p (.mov (.const (.int .i64 0))), none⟩ .done))))
 (.block 0 (.loop (.seq (.reg (.op ⟨some 35, .p (.int2 .lss (.tmp 34) (.tmp 33)), none⟩ .done))
 (.seq (.cond (.tmp 35) (.skip)
 (.exit 0))
 (.seq (.block 1 (.seq (.reg (.op ⟨some 36, .p (.mov (.tmp 34)), none⟩
 (.op ⟨some 6, .p (.mov (.tmp 36)), none⟩ .done)))
 (.seq (.reg (.op ⟨some 37, .p (.mov (.tmp 4)), none⟩
 (.op ⟨some 38, .p (.mov (.tmp 5)), none⟩
 (.op ⟨some 39, .p (.mov (.tmp 6)), none⟩
 (.op ⟨some 40, .p (.idxS 2 (.tmp 38) (.tmp 39)), none⟩
 (.op ⟨some 41, .p (.fieldAddr 0 (.tmp 40)), none⟩
 (.op ⟨some 42, .h (.load 1 false (.tmp 41)), none⟩
 (.op ⟨some 43, .p (.conv .u8 (.tmp 42)), none⟩
 (.op ⟨some 44, .h (.buildSlice 1 1 [.int .u8 0] [(0, 1, .tmp 43)]), none⟩
 (.op ⟨some 45, .h (.append 1 1 (.tmp 37) (.tmp 44)), none⟩
 (.op ⟨some 4, .p (.mov (.tmp 45)), none⟩ .done)))))))))))
 (.seq (.reg (.op ⟨some 46, .p (.mov (.tmp 5)), none⟩
 (.op ⟨some 47, .p (.mov (.tmp 6)), none⟩
 (.op ⟨some 48, .p (.idxS 2 (.tmp 46) (.tmp 47)), none⟩
 (.op ⟨some 49, .p (.fieldAddr 0 (.tmp 48)), none⟩
 (.op ⟨some 50, .h (.load 1 false (.tmp 49)), none⟩
 (.op ⟨some 51, .p (.int2 .neq (.tmp 50) (.const (.int .i64 0))), none⟩ .done)))))))
 (.cond (.tmp 51) (.reg (.op ⟨some 52, .p (.mov (.tmp 4)), none⟩
 (.op ⟨some 53, .p (.mov (.tmp 5)), none⟩
 (.op ⟨some 54, .p (.mov (.tmp 6)), none⟩
 (.op ⟨some 55, .p (.idxS 2 (.tmp 53) (.tmp 54)), none⟩
 (.op ⟨some 56, .p (.fieldAddr 1 (.tmp 55)), none⟩
 (.op ⟨some 57, .h (.load 1 false (.tmp 56)), none⟩
 (.op ⟨some 58, .call 71 [.tmp 57], none⟩
 (.op ⟨some 59, .h (.append 1 1 (.tmp 52) (.tmp 58)), none⟩
 (.op ⟨some 4, .p (.mov (.tmp 59)), none⟩ .done))))))))))
 (.skip))))))
 (.reg (.op ⟨some 60, .p (.int2 .add (.tmp 34) (.const (.int .i64 1))), none⟩
 (.op ⟨some 34, .p (.mov (.tmp 60)), none⟩ .done)))))))))
 (.seq (.seq (.reg (.op ⟨some 61, .p (.mov (.const (.int .i64 0))), none⟩ .done))
 (.block 2 (.loop (.seq (.reg (.op ⟨some 62, .p (.int2 .lss (.tmp 61) (.const (.int .i64 4))), none⟩ .done))
 (.seq (.cond (.tmp 62) (.skip)
 (.exit 2))
 (.seq (.block 3 (.seq (.reg (.op ⟨some 63, .p (.mov (.tmp 61)), none⟩
 (.op ⟨some 7, .p (.mov (.tmp 63)), none⟩ .done)))
 (.reg (.op ⟨some 64, .p (.mov (.tmp 4)), none⟩
 (.op ⟨some 65, .p (.mov (.tmp 7)), none⟩
 (.op ⟨some 66, .p (.fieldAddr 38 (.tmp 1)), none⟩
 (.op ⟨some 67, .p (.idxA 4 1 (.tmp 66) (.tmp 65)), none⟩
 (.op ⟨some 68, .h (.load 1 false (.tmp 67)), none⟩
 (.op ⟨some 69, .call 71 [.tmp 68], none⟩
 (.op ⟨some 70, .h (.append 1 1 (.tmp 64) (.tmp 69)), none⟩
 (.op ⟨some 4, .p (.mov (.tmp 70)), none⟩ .done)))))))))))
 (.reg (.op ⟨some 71, .p (.int2 .add (.tmp 61) (.const (.int .i64 1))), none⟩
 (.op ⟨some 61, .p (.mov (.tmp 71)), none⟩ .done)))))))))
 (.seq (.seq (.reg (.op ⟨some 72, .p (.fieldAddr 43 (.tmp 1)), none⟩
 (.op ⟨some 73, .h (.load 1 false (.tmp 72)), none⟩ .done)))
 (.cond (.tmp 73) (.reg (.op ⟨some 74, .p (.mov (.tmp 4)), none⟩
 (.op ⟨some 75, .p (.fieldAddr 44 (.tmp 1)), none⟩
 (.op ⟨some 76, .h (.load 1 false (.tmp 75)), none⟩
 (.op ⟨some 77, .call 71 [.tmp 76], none⟩
 (.op ⟨some 78, .h (.append 1 1 (.tmp 74) (.tmp 77)), none⟩
 (.op ⟨some 4, .p (.mov (.tmp 78)), none⟩ .done)))))))
 (.skip)))
 (.seq (.reg (.op ⟨some 79, .p (.mov (.tmp 4)), none⟩
 (.op ⟨some 80, .p (.fieldAddr 46 (.tmp 1)), none⟩
 (.op ⟨some 84, .p (.fieldAddr 47 (.tmp 1)), none⟩
 (.both (.op ⟨some 81, .h (.load 1 false (.tmp 80)), none⟩
 (.both (.op ⟨some 82, .call 71 [.tmp 81], none⟩
 (.both (.op ⟨some 83, .h (.append 1 1 (.tmp 79) (.tmp 82)), none⟩
 (.op ⟨some 85, .h (.load 1 false (.tmp 84)), none⟩
 (.op ⟨some 86, .call 71 [.tmp 85], none⟩
 (.op ⟨some 87, .h (.append 1 1 (.tmp 83) (.tmp 86)), none⟩
 (.op ⟨some 2, .p (.mov (.tmp 87)), none⟩
 (.done))))))
 (.op ⟨some 85, .h (.load 1 false (.tmp 84)), none⟩
 (.op ⟨some 83, .h (.append 1 1 (.tmp 79) (.tmp 82)), none⟩
 (.op ⟨some 86, .call 71 [.tmp 85], none⟩
 (.op ⟨some 87, .h (.append 1 1 (.tmp 83) (.tmp 86)), none⟩
 (.op ⟨some 2, .p (.mov (.tmp 87)), none⟩
 (.done))))))))
 (.op ⟨some 85, .h (.load 1 false (.tmp 84)), none⟩
 (.op ⟨some 82, .call 71 [.tmp 81], none⟩
 (.op ⟨some 83, .h (.append 1 1 (.tmp 79) (.tmp 82)), none⟩
 (.op ⟨some 86, .call 71 [.tmp 85], none⟩
 (.op ⟨some 87, .h (.append 1 1 (.tmp 83) (.tmp 86)), none⟩
 (.op ⟨some 2, .p (.mov (.tmp 87)), none⟩
 (.done)))))))))
 (.op ⟨some 85, .h (.load 1 false (.tmp 84)), none⟩
 (.op ⟨some 81, .h (.load 1 false (.tmp 80)), none⟩
 (.op ⟨some 82, .call 71 [.tmp 81], none⟩
 (.op ⟨some 83, .h (.append 1 1 (.tmp 79) (.tmp 82)), none⟩
 (.op ⟨some 86, .call 71 [.tmp 85], none⟩
 (.op ⟨some 87, .h (.append 1 1 (.tmp 83) (.tmp 86)), none⟩
 (.op ⟨some 2, .p (.mov (.tmp 87)), none⟩
 (.done)))))))))))))
 (.ret))))))))))))⟩

theorem cF39 : compF Try.prog aF39.cfg.pm aF39.cfg.lz Try.f39 = some aF39 := by kernel_rfl
theorem kF39 : aF39.ok = true := by kernel_rfl

-- decoupage/style.Get
def aF40 : AFun := ⟨⟨85, [], false⟩, [.cell 2 48 true],
 .seq (.reg (.op ⟨some 2, .h (.alloc [.bool false, .int .i64 0, .int .i64 0, .int .i64 0, .int .i64 0, .int .i64 0, .int .i64 0, .int .i64 0, .int .i64 0, .int .i64 0, .int .i64 0, .int .i64 0, .int .i64 0, .int .i64 0, .int .i64 0, .int .i64 0, .int .i64 0, .int .i64 0, .int .i64 0, .int .i64 0, .int .i64 0, .int .i64 0, .int .i64 0, .int .i64 0, .int .i64 0, .int .i64 0, .int .i64 0, .int .i64 0, .int .i64 0, .int .i64 0, .int .i64 0, .int .i64 0, .int .i64 0, .int .i64 0, .int .i64 0, .int .i64 0, .int .i64 0, .int .i64 0, .int .i64 0, .int .i64 0, .int .i64 0, .int .i64 0, .bool false, .bool false, .int .i64 0, .bool false, .int .i64 0, .int .i64 0]), none⟩ .done))
 (.seq (.reg (.op ⟨some 8, .p (.mov (.tmp 0)), none⟩
 (.op ⟨some 9, .call 32 [.tmp 8], none⟩
 (.op ⟨some 10, .p (.conv .i64 (.tmp 9)), none⟩
 (.op ⟨some 3, .p (.mov (.tmp 10)), none⟩ .done)))))
 (.seq (.reg (.op ⟨some 11, .p (.mov (.tmp 3)), none⟩
 (.op ⟨some 12, .p (.int2 .and (.tmp 11) (.const (.int .i64 1))), none⟩
 (.op ⟨some 13, .p (.int2 .neq (.tmp 12) (.const (.int .i64 0))), none⟩
 (.op ⟨some 14, .p (.mov (.tmp 3)), none⟩
 (.op ⟨some 15, .p (.int2 .quo (.tmp 14) (.const (.int .i64 2))), none⟩
 (.op ⟨some 16, .p (.int2 .rem (.tmp 15) (.const (.int .i64 4))), none⟩
 (.op ⟨some 17, .p (.mov (.tmp 3)), none⟩
 (.op ⟨some 18, .p (.int2 .and (.tmp 17) (.const (.int .i64 8))), none⟩
 (.op ⟨some 19, .p (.int2 .neq (.tmp 18) (.const (.int .i64 0))), none⟩
 (.op ⟨some 20, .p (.mov (.tmp 3)), none⟩
 (.op ⟨some 21, .p (.int2 .and (.tmp 20) (.const (.int .i64 16))), none⟩
 (.op ⟨some 22, .p (.int2 .neq (.tmp 21) (.const (.int .i64 0))), none⟩
 (.op ⟨some 23, .p (.mov (.tmp 3)), none⟩
 (.op ⟨some 24, .p (.int2 .and (.tmp 23) (.const (.int .i64 32))), none⟩
 (.op ⟨some 25, .p (.int2 .neq (.tmp 24) (.const (.int .i64 0))), none⟩
 (.op ⟨some 26, .p (.build [.bool false, .int .i64 0, .int .i64 0, .int .i64 0, .int .i64 0, .int .i64 0, .int .i64 0, .int .i64 0, .int .i64 0, .int .i64 0, .int .i64 0, .int .i64 0, .int .i64 0, .int .i64 0, .int .i64 0, .int .i64 0, .int .i64 0, .int .i64 0, .int .i64 0, .int .i64 0, .int .i64 0, .int .i64 0, .int .i64 0, .int .i64 0, .int .i64 0, .int .i64 0, .int .i64 0, .int .i64 0, .int .i64 0, .int .i64 0, .int .i64 0, .int .i64 0, .int .i64 0, .int .i64 0, .int .i64 0, .int .i64 0, .int .i64 0, .int .i64 0, .int .i64 0, .int .i64 0, .int .i64 0, .int .i64 0, .bool false, .bool false, .int .i64 0, .bool false, .int .i64 0, .int .i64 0] [(0, 1, .tmp 13), (1, 1, .tmp 16), (42, 1, .tmp 19), (43, 1, .tmp 22), (45, 1, .tmp 25)]), none⟩
 (.op ⟨some 4, .h (.alloc [.bool false, .int .i64 0, .int .i64 0, .int .i64 0, .int .i64 0, .int .i64 0, .int .i64 0, .int .i64 0, .int .i64 0, .int .i64 0, .int .i64 0, .int .i64 0, .int .i64 0, .int .i64 0, .int .i64 0, .int .i64 0, .int .i64 0, .int .i64 0, .int .i64 0, .int .i64 0, .int .i64 0, .int .i64 0, .int .i64 0, .int .i64 0, .int .i64 0, .int .i64 0, .int .i64 0, .int .i64 0, .int .i64 0, .int .i64 0, .int .i64 0, .int .i64 0, .int .i64 0, .int .i64 0, .int .i64 0, .int .i64 0, .int .i64 0, .int .i64 0, .int .i64 0, .int .i64 0, .int .i64 0, .int .i64 0, .bool false, .bool false, .int .i64 0, .bool false, .int .i64 0, .int .i64 0]), none⟩
 (.op ⟨none, .h (.store 48 (.tmp 4) (.tmp 26)), none⟩ .done)))))))))))))))))))
 (.seq (.seq (.reg (.op ⟨some 27, .call 64 [.tmp 4], none⟩
 (.op ⟨some 28, .p (.lenS (.tmp 27)), none⟩
 (.op ⟨some 29, .p (.mov (.const (.int .i64 0))), none⟩ .done))))
 (.block 0 (.loop (.seq (.reg (.op ⟨some 30, .p (.int2 .lss (.tmp 29) (.tmp 28)), none⟩ .done))
 (.seq (.cond (.tmp 30) (.skip)
 (.exit 0))
 (.seq (.block 1 (.seq (.reg (.op ⟨some 31, .p (.idxS 1 (.tmp 27) (.tmp 29)), none⟩
 (.op ⟨some 32, .h (.load 1 false (.tmp 31)), none⟩
 (.op ⟨some 6, .p (.mov (.tmp 32)), none⟩ .done))))
 (.seq (.reg (.op ⟨some 33, .p (.mov (.tmp 6)), none⟩
 (.op ⟨some 34, .p (.mov (.tmp 0)), none⟩
 (.op ⟨some 35, .call 32 [.tmp 34], none⟩
 (.op ⟨some 36, .p (.conv .i64 (.tmp 35)), none⟩
 (.op ⟨some 37, .p (.nilchk (.tmp 33)), none⟩
 (.op ⟨some 38, .p (.fieldAddr 0 (.tmp 37)), none⟩
 (.op ⟨none, .h (.store 1 (.tmp 38) (.tmp 36)), none⟩ .done))))))))
 (.seq (.reg (.op ⟨some 39, .p (.mov (.tmp 6)), none⟩
 (.op ⟨some 40, .p (.nilchk (.tmp 39)), none⟩
 (.op ⟨some 41, .p (.fieldAddr 0 (.tmp 40)), none⟩
 (.op ⟨some 42, .h (.load 1 false (.tmp 41)), none⟩
 (.op ⟨some 43, .p (.int2 .neq (.tmp 42) (.const (.int .i64 0))), none⟩ .done))))))
 (.cond (.tmp 43) (.reg (.op ⟨some 44, .p (.mov (.tmp 6)), none⟩
 (.op ⟨some 45, .p (.mov (.tmp 0)), none⟩
 (.op ⟨some 46, .call 31 [.tmp 45], none⟩
 (.op ⟨some 47, .p (.nilchk (.tmp 44)), none⟩
 (.op ⟨some 48, .p (.fieldAddr 1 (.tmp 47)), none⟩
 (.op ⟨none, .h (.store 1 (.tmp 48) (.tmp 46)), none⟩ .done)))))))
 (.skip))))))
 (.reg (.op ⟨some 49, .p (.int2 .add (.tmp 29) (.const (.int .i64 1))), none⟩
 (.op ⟨some 29, .p (.mov (.tmp 49)), none⟩ .done)))))))))
 (.seq (.seq (.reg (.op ⟨some 50, .p (.mov (.const (.int .i64 0))), none⟩ .done))
 (.block 2 (.loop (.seq (.reg (.op ⟨some 51, .p (.int2 .lss (.tmp 50) (.const (.int .i64 4))), none⟩ .done))
 (.seq (.cond (.tmp 51) (.skip)
 (.exit 2))
 (.seq (.block 3 (.seq (.reg (.op ⟨some 52, .p (.mov (.tmp 50)), none⟩
 (.op ⟨some 7, .p (.mov (.tmp 52)), none⟩ .done)))
 (.reg (.op ⟨some 53, .p (.mov (.tmp 7)), none⟩
 (.op ⟨some 54, .p (.mov (.tmp 0)), none⟩
 (.op ⟨some 55, .call 31 [.tmp 54], none⟩
 (.op ⟨some 56, .p (.fieldAddr 38 (.tmp 4)), none⟩
 (.op ⟨some 57, .p (.idxA 4 1 (.tmp 56) (.tmp 53)), none⟩
 (.op ⟨none, .h (.store 1 (.tmp 57) (.tmp 55)), none⟩ .done)))))))))
 (.reg (.op ⟨some 58, .p (.int2 .add (.tmp 50) (.const (.int .i64 1))), none⟩
 (.op ⟨some 50, .p (.mov (.tmp 58)), none⟩ .done)))))))))
 (.seq (.seq (.reg (.op ⟨some 59, .p (.fieldAddr 43 (.tmp 4)), none⟩
 (.op ⟨some 60, .h (.load 1 false (.tmp 59)), none⟩ .done)))
 (.cond (.tmp 60) (.reg (.op ⟨some 61, .p (.mov (.tmp 0)), none⟩
 (.op ⟨some 62, .call 31 [.tmp 61], none⟩
 (.op ⟨some 63, .p (.fieldAddr 44 (.tmp 4)), none⟩
 (.op ⟨none, .h (.store 1 (.tmp 63) (.tmp 62)), none⟩ .done)))))
 (.skip)))
 (.seq (.reg (.op ⟨some 64, .p (.mov (.tmp 0)), none⟩
 (.op ⟨some 65, .call 31 [.tmp 64], none⟩
 (.op ⟨some 66, .p (.mov (.tmp 0)), none⟩
 (.op ⟨some 67, .call 31 [.tmp 66], none⟩
 (.op ⟨some 68, .p (.fieldAddr 46 (.tmp 4)), none⟩
 (.op ⟨none, .h (.store 1 (.tmp 68) (.tmp 65)), none⟩
 (.op ⟨some 69, .p (.fieldAddr 47 (.tmp 4)), none⟩
 (.op ⟨none, .h (.store 1 (.tmp 69) (.tmp 67)), none⟩ .done)))))))))
 (.seq (.seq (.reg (.op ⟨some 70, .p (.mov (.tmp 0)), none⟩
 (.op ⟨some 71, .call 34 [.tmp 70], none⟩
 (.op ⟨some 72, .p (.mov (.tmp 71)), none⟩
 (.op ⟨some 73, .p (.mov (.tmp 3)), some (72, false)⟩
 (.op ⟨some 74, .p (.int2 .geq (.tmp 73) (.const (.int .i64 64))), some (72, false)⟩
 (.op ⟨some 75, .p (.pick (.tmp 72) (.const (.bool true)) (.tmp 74)), none⟩
 (.op ⟨some 76, .p (.mov (.tmp 75)), none⟩
 (.op ⟨some 77, .h (.load 48 true (.tmp 4)), some (76, false)⟩
 (.op ⟨some 78, .call 20 [.tmp 77], some (76, false)⟩
 (.op ⟨some 79, .p (.un .not (.tmp 78)), some (76, false)⟩
 (.op ⟨some 80, .p (.pick (.tmp 76) (.const (.bool true)) (.tmp 79)), none⟩ .done))))))))))))
 (.cond (.tmp 80) (.seq (.reg (.op ⟨some 81, .p (.mov (.tmp 0)), none⟩
 (.op ⟨some 82, .call 37 [.tmp 81], none⟩ .done)))
 (.seq (.reg (.op ⟨some 83, .p (.build [.bool false, .int .i64 0, .int .i64 0, .int .i64 0, .int .i64 0, .int .i64 0, .int .i64 0, .int .i64 0, .int .i64 0, .int .i64 0, .int .i64 0, .int .i64 0, .int .i64 0, .int .i64 0, .int .i64 0, .int .i64 0, .int .i64 0, .int .i64 0, .int .i64 0, .int .i64 0, .int .i64 0, .int .i64 0, .int .i64 0, .int .i64 0, .int .i64 0, .int .i64 0, .int .i64 0, .int .i64 0, .int .i64 0, .int .i64 0, .int .i64 0, .int .i64 0, .int .i64 0, .int .i64 0, .int .i64 0, .int .i64 0, .int .i64 0, .int .i64 0, .int .i64 0, .int .i64 0, .int .i64 0, .int .i64 0, .bool false, .bool false, .int .i64 0, .bool false, .int .i64 0, .int .i64 0] []), none⟩
 (.op ⟨none, .h (.store 48 (.tmp 2) (.tmp 83)), none⟩ .done)))
 (.ret)))
 (.skip)))
 (.seq (.reg (.op ⟨some 84, .h (.load 48 true (.tmp 4)), none⟩
 (.op ⟨none, .h (.store 48 (.tmp 2) (.tmp 84)), none⟩ .done)))
 (.ret)))))))))⟩

theorem cF40 : compF Try.prog aF40.cfg.pm aF40.cfg.lz Try.f40 = some aF40 := by kernel_rfl
theorem kF40 : aF40.ok = true := by kernel_rfl

-- decoupage/decoupageref06.From
def aF41 : AFun := ⟨⟨133, [], false⟩, [.cell 2 48 true, .cell 3 2 true],
 .seq (.reg (.op ⟨some 1, .h (.box (.tmp 0)), none⟩
 (.op ⟨some 2, .h (.alloc [.bool false, .int .i64 0, .int .i64 0, .int .i64 0, .int .i64 0, .int .i64 0, .int .i64 0, .int .i64 0, .int .i64 0, .int .i64 0, .int .i64 0, .int .i64 0, .int .i64 0, .int .i64 0, .int .i64 0, .int .i64 0, .int .i64 0, .int .i64 0, .int .i64 0, .int .i64 0, .int .i64 0, .int .i64 0, .int .i64 0, .int .i64 0, .int .i64 0, .int .i64 0, .int .i64 0, .int .i64 0, .int .i64 0, .int .i64 0, .int .i64 0, .int .i64 0, .int .i64 0, .int .i64 0, .int .i64 0, .int .i64 0, .int .i64 0, .int .i64 0, .int .i64 0, .int .i64 0, .int .i64 0, .int .i64 0, .bool false, .bool false, .int .i64 0, .bool false, .int .i64 0, .int .i64 0]), none⟩
 (.op ⟨some 3, .h (.alloc [.slice none 0 0, .bool false]), none⟩ .done))))
 (.seq (.reg (.op ⟨some 8, .h (.load 2 true (.tmp 1)), none⟩
 (.op ⟨some 9, .call 35 [.tmp 8, .const (.int .i64 1)], none⟩
 (.op ⟨some 7, .p (.mov (.tmp 9)), none⟩
 (.op ⟨some 10, .p (.extract (.tmp 7) 0), none⟩
 (.op ⟨some 11, .p (.extract (.tmp 7) 1), none⟩
 (.op ⟨some 4, .p (.mov (.tmp 10)), none⟩
 (.op ⟨none, .h (.store 2 (.tmp 1) (.tmp 11)), none⟩ .done))))))))
 (.seq (.reg (.op ⟨some 12, .p (.mov (.tmp 4)), none⟩
 (.op ⟨some 13, .p (.int2 .rem (.tmp 12) (.const (.int .u64 2))), none⟩
 (.op ⟨some 14, .p (.int2 .eql (.tmp 13) (.const (.int .u64 1))), none⟩
 (.op ⟨some 15, .p (.mov (.tmp 4)), none⟩
 (.op ⟨some 16, .p (.int2 .quo (.tmp 15) (.const (.int .u64 2))), none⟩
 (.op ⟨some 17, .p (.int2 .rem (.tmp 16) (.const (.int .u64 4))), none⟩
 (.op ⟨some 18, .p (.conv .i64 (.tmp 17)), none⟩
 (.op ⟨some 19, .p (.mov (.tmp 4)), none⟩
 (.op ⟨some 20, .p (.int2 .quo (.tmp 19) (.const (.int .u64 8))), none⟩
 (.op ⟨some 21, .p (.int2 .rem (.tmp 20) (.const (.int .u64 2))), none⟩
 (.op ⟨some 22, .p (.int2 .eql (.tmp 21) (.const (.int .u64 1))), none⟩
 (.op ⟨some 23, .p (.mov (.tmp 4)), none⟩
 (.op ⟨some 24, .p (.int2 .quo (.tmp 23) (.const (.int .u64 16))), none⟩
 (.op ⟨some 25, .p (.int2 .rem (.tmp 24) (.const (.int .u64 2))), none⟩
 (.op ⟨some 26, .p (.int2 .eql (.tmp 25) (.const (.int .u64 1))), none⟩
 (.op ⟨some 27, .p (.mov (.tmp 4)), none⟩
 (.op ⟨some 28, .p (.int2 .quo (.tmp 27) (.const (.int .u64 32))), none⟩
 (.op ⟨some 29, .p (.int2 .rem (.tmp 28) (.const (.int .u64 2))), none⟩
 (.op ⟨some 30, .p (.int2 .eql (.tmp 29) (.const (.int .u64 1))), none⟩
 (.op ⟨some 31, .p (.build [.bool false, .int .i64 0, .int .i64 0, .int .i64 0, .int .i64 0, .int .i64 0, .int .i64 0, .int .i64 0, .int .i64 0, .int .i64 0, .int .i64 0, .int .i64 0, .int .i64 0, .int .i64 0, .int .i64 0, .int .i64 0, .int .i64 0, .int .i64 0, .int .i64 0, .int .i64 0, .int .i64 0, .int .i64 0, .int .i64 0, .int .i64 0, .int .i64 0, .int .i64 0, .int .i64 0, .int .i64 0, .int .i64 0, .int .i64 0, .int .i64 0, .int .i64 0, .int .i64 0, .int .i64 0, .int .i64 0, .int .i64 0, .int .i64 0, .int .i64 0, .int .i64 0, .int .i64 0, .int .i64 0, .int .i64 0, .bool false, .bool false, .int .i64 0, .bool false, .int .i64 0, .int .i64 0] [(0, 1, .tmp 14), (1, 1, .tmp 18), (42, 1, .tmp 22), (43, 1, .tmp 26), (45, 1, .tmp 30)]), none⟩
 (.op ⟨some 5, .h (.alloc [.bool false, .int .i64 0, .int .i64 0, .int .i64 0, .int .i64 0, .int .i64 0, .int .i64 0, .int .i64 0, .int .i64 0, .int .i64 0, .int .i64 0, .int .i64 0, .int .i64 0, .int .i64 0, .int .i64 0, .int .i64 0, .int .i64 0, .int .i64 0, .int .i64 0, .int .i64 0, .int .i64 0, .int .i64 0, .int .i64 0, .int .i64 0, .int .i64 0, .int .i64 0, .int .i64 0, .int .i64 0, .int .i64 0, .int .i64 0, .int .i64 0, .int .i64 0, .int .i64 0, .int .i64 0, .int .i64 0, .int .i64 0, .int .i64 0, .int .i64 0, .int .i64 0, .int .i64 0, .int .i64 0, .int .i64 0, .bool false, .bool false, .int .i64 0, .bool false, .int .i64 0, .int .i64 0]), none⟩
 (.op ⟨none, .h (.store 48 (.tmp 5) (.tmp 31)), none⟩ .done)))))))))))))))))))))))
 (.seq (.reg (.op ⟨some 33, .h (.load 2 true (.tmp 1)), none⟩
 (.op ⟨some 34, .call 72 [.tmp 33], none⟩
 (.op ⟨some 32, .p (.mov (.tmp 34)), none⟩
 (.op ⟨some 35, .p (.extract (.tmp 32) 0), none⟩
 (.op ⟨some 36, .p (.extract (.tmp 32) 1), none⟩
 (.op ⟨some 37, .p (.fieldAddr 2 (.tmp 5)), none⟩
 (.op ⟨none, .h (.store 8 (.tmp 37) (.tmp 35)), none⟩
 (.op ⟨none, .h (.store 2 (.tmp 1) (.tmp 36)), none⟩ .done)))))))))
 (.seq (.reg (.op ⟨some 39, .h (.load 2 true (.tmp 1)), none⟩
 (.op ⟨some 40, .call 73 [.tmp 39], none⟩
 (.op ⟨some 38, .p (.mov (.tmp 40)), none⟩
 (.op ⟨some 41, .p (.extract (.tmp 38) 0), none⟩
 (.op ⟨some 42, .p (.extract (.tmp 38) 1), none⟩
 (.op ⟨some 43, .p (.fieldAddr 10 (.tmp 5)), none⟩
 (.op ⟨none, .h (.store 2 (.tmp 43) (.tmp 41)), none⟩
 (.op ⟨none, .h (.store 2 (.tmp 1) (.tmp 42)), none⟩ .done)))))))))
 (.seq (.reg (.op ⟨some 45, .h (.load 2 true (.tmp 1)), none⟩
 (.op ⟨some 46, .call 73 [.tmp 45], none⟩
 (.op ⟨some 44, .p (.mov (.tmp 46)), none⟩
 (.op ⟨some 47, .p (.extract (.tmp 44) 0), none⟩
 (.op ⟨some 48, .p (.extract (.tmp 44) 1), none⟩
 (.op ⟨some 49, .p (.fieldAddr 12 (.tmp 5)), none⟩
 (.op ⟨none, .h (.store 2 (.tmp 49) (.tmp 47)), none⟩
 (.op ⟨none, .h (.store 2 (.tmp 1) (.tmp 48)), none⟩ .done)))))))))
 (.seq (.reg (.op ⟨some 51, .h (.load 2 true (.tmp 1)), none⟩
 (.op ⟨some 52, .call 73 [.tmp 51], none⟩
 (.op ⟨some 50, .p (.mov (.tmp 52)), none⟩
 (.op ⟨some 53, .p (.extract (.tmp 50) 0), none⟩
 (.op ⟨some 54, .p (.extract (.tmp 50) 1), none⟩
 (.op ⟨some 55, .p (.fieldAddr 14 (.tmp 5)), none⟩
 (.op ⟨none, .h (.store 2 (.tmp 55) (.tmp 53)), none⟩
 (.op ⟨none, .h (.store 2 (.tmp 1) (.tmp 54)), none⟩ .done)))))))))
 (.seq (.reg (.op ⟨some 57, .h (.load 2 true (.tmp 1)), none⟩
 (.op ⟨some 58, .call 73 [.tmp 57], none⟩
 (.op ⟨some 56, .p (.mov (.tmp 58)), none⟩
 (.op ⟨some 59, .p (.extract (.tmp 56) 0), none⟩
 (.op ⟨some 60, .p (.extract (.tmp 56) 1), none⟩
 (.op ⟨some 61, .p (.fieldAddr 16 (.tmp 5)), none⟩
 (.op ⟨none, .h (.store 2 (.tmp 61) (.tmp 59)), none⟩
 (.op ⟨none, .h (.store 2 (.tmp 1) (.tmp 60)), none⟩ .done)))))))))
 (.seq (.reg (.op ⟨some 63, .h (.load 2 true (.tmp 1)), none⟩
 (.op ⟨some 64, .call 73 [.tmp 63], none⟩
 (.op ⟨some 62, .p (.mov (.tmp 64)), none⟩
 (.op ⟨some 65, .p (.extract (.tmp 62) 0), none⟩
 (.op ⟨some 66, .p (.extract (.tmp 62) 1), none⟩
 (.op ⟨some 67, .p (.fieldAddr 18 (.tmp 5)), none⟩
 (.op ⟨none, .h (.store 2 (.tmp 67) (.tmp 65)), none⟩
 (.op ⟨none, .h (.store 2 (.tmp 1) (.tmp 66)), none⟩ .done)))))))))
 (.seq (.reg (.op ⟨some 69, .h (.load 2 true (.tmp 1)), none⟩
 (.op ⟨some 70, .call 73 [.tmp 69], none⟩
 (.op ⟨some 68, .p (.mov (.tmp 70)), none⟩
 (.op ⟨some 71, .p (.extract (.tmp 68) 0), none⟩
 (.op ⟨some 72, .p (.extract (.tmp 68) 1), none⟩
 (.op ⟨some 73, .p (.fieldAddr 20 (.tmp 5)), none⟩
 (.op ⟨none, .h (.store 2 (.tmp 73) (.tmp 71)), none⟩
 (.op ⟨none, .h (.store 2 (.tmp 1) (.tmp 72)), none⟩ .done)))))))))
 (.seq (.reg (.op ⟨some 75, .h (.load 2 true (.tmp 1)), none⟩
 (.op ⟨some 76, .call 72 [.tmp 75], none⟩
 (.op ⟨some 74, .p (.mov (.tmp 76)), none⟩
 (.op ⟨some 77, .p (.extract (.tmp 74) 0), none⟩
 (.op ⟨some 78, .p (.extract (.tmp 74) 1), none⟩
 (.op ⟨some 79, .p (.fieldAddr 22 (.tmp 5)), none⟩
 (.op ⟨none, .h (.store 8 (.tmp 79) (.tmp 77)), none⟩
 (.op ⟨none, .h (.store 2 (.tmp 1) (.tmp 78)), none⟩ .done)))))))))
 (.seq (.reg (.op ⟨some 81, .h (.load 2 true (.tmp 1)), none⟩
 (.op ⟨some 82, .call 72 [.tmp 81], none⟩
 (.op ⟨some 80, .p (.mov (.tmp 82)), none⟩
 (.op ⟨some 83, .p (.extract (.tmp 80) 0), none⟩
 (.op ⟨some 84, .p (.extract (.tmp 80) 1), none⟩
 (.op ⟨some 85, .p (.fieldAddr 30 (.tmp 5)), none⟩
 (.op ⟨none, .h (.store 8 (.tmp 85) (.tmp 83)), none⟩
 (.op ⟨none, .h (.store 2 (.tmp 1) (.tmp 84)), none⟩ .done)))))))))
 (.seq (.seq (.reg (.op ⟨some 86, .p (.mov (.const (.int .i64 0))), none⟩ .done))
 (.block 0 (.loop (.seq (.reg (.op ⟨some 87, .p (.int2 .lss (.tmp 86) (.const (.int .i64 4))), none⟩ .done))
 (.seq (.cond (.tmp 87) (.skip)
 (.exit 0))
 (.seq (.block 1 (.seq (.reg (.op ⟨some 88, .p (.mov (.tmp 86)), none⟩
 (.op ⟨some 6, .p (.mov (.tmp 88)), none⟩ .done)))
 (.reg (.op ⟨some 90, .p (.mov (.tmp 6)), none⟩
 (.op ⟨some 91, .h (.load 2 true (.tmp 1)), none⟩
 (.op ⟨some 92, .call 74 [.tmp 91], none⟩
 (.op ⟨some 89, .p (.mov (.tmp 92)), none⟩
 (.op ⟨some 93, .p (.extract (.tmp 89) 0), none⟩
 (.op ⟨some 94, .p (.extract (.tmp 89) 1), none⟩
 (.op ⟨some 95, .p (.fieldAddr 38 (.tmp 5)), none⟩
 (.op ⟨some 96, .p (.idxA 4 1 (.tmp 95) (.tmp 90)), none⟩
 (.op ⟨none, .h (.store 1 (.tmp 96) (.tmp 93)), none⟩
 (.op ⟨none, .h (.store 2 (.tmp 1) (.tmp 94)), none⟩ .done)))))))))))))
 (.reg (.op ⟨some 97, .p (.int2 .add (.tmp 86) (.const (.int .i64 1))), none⟩
 (.op ⟨some 86, .p (.mov (.tmp 97)), none⟩ .done)))))))))
 (.seq (.seq (.reg (.op ⟨some 98, .p (.fieldAddr 43 (.tmp 5)), none⟩
 (.op ⟨some 99, .h (.load 1 false (.tmp 98)), none⟩ .done)))
 (.cond (.tmp 99) (.reg (.op ⟨some 101, .h (.load 2 true (.tmp 1)), none⟩
 (.op ⟨some 102, .call 74 [.tmp 101], none⟩
 (.op ⟨some 100, .p (.mov (.tmp 102)), none⟩
 (.op ⟨some 103, .p (.extract (.tmp 100) 0), none⟩
 (.op ⟨some 104, .p (.extract (.tmp 100) 1), none⟩
 (.op ⟨some 105, .p (.fieldAddr 44 (.tmp 5)), none⟩
 (.op ⟨none, .h (.store 1 (.tmp 105) (.tmp 103)), none⟩
 (.op ⟨none, .h (.store 2 (.tmp 1) (.tmp 104)), none⟩ .done)))))))))
 (.skip)))
 (.seq (.reg (.op ⟨some 107, .h (.load 2 true (.tmp 1)), none⟩
 (.op ⟨some 108, .call 74 [.tmp 107], none⟩
 (.op ⟨some 106, .p (.mov (.tmp 108)), none⟩
 (.op ⟨some 109, .p (.extract (.tmp 106) 0), none⟩
 (.op ⟨some 110, .p (.extract (.tmp 106) 1), none⟩
 (.op ⟨some 111, .p (.fieldAddr 46 (.tmp 5)), none⟩
 (.op ⟨none, .h (.store 1 (.tmp 111) (.tmp 109)), none⟩
 (.op ⟨none, .h (.store 2 (.tmp 1) (.tmp 110)), none⟩ .done)))))))))
 (.seq (.reg (.op ⟨some 113, .h (.load 2 true (.tmp 1)), none⟩
 (.op ⟨some 114, .call 74 [.tmp 113], none⟩
 (.op ⟨some 112, .p (.mov (.tmp 114)), none⟩
 (.op ⟨some 115, .p (.extract (.tmp 112) 0), none⟩
 (.op ⟨some 116, .p (.extract (.tmp 112) 1), none⟩
 (.op ⟨some 117, .p (.fieldAddr 47 (.tmp 5)), none⟩
 (.op ⟨none, .h (.store 1 (.tmp 117) (.tmp 115)), none⟩
 (.op ⟨none, .h (.store 2 (.tmp 1) (.tmp 116)), none⟩ .done)))))))))
 (.seq (.seq (.reg (.op ⟨some 118, .p (.fieldAddr 1 (.tmp 1)), none⟩
 (.op ⟨some 119, .h (.load 1 false (.tmp 118)), none⟩
 (.op ⟨some 120, .p (.mov (.tmp 119)), none⟩
 (.op ⟨some 121, .p (.mov (.tmp 4)), some (120, false)⟩
 (.op ⟨some 122, .p (.int2 .gtr (.tmp 121) (.const (.int .u64 63))), some (120, false)⟩
 (.op ⟨some 123, .p (.pick (.tmp 120) (.const (.bool true)) (.tmp 122)), none⟩
 (.op ⟨some 124, .p (.mov (.tmp 123)), none⟩
 (.op ⟨some 125, .h (.load 48 true (.tmp 5)), some (124, false)⟩
 (.op ⟨some 126, .call 21 [.tmp 125], some (124, false)⟩
 (.op ⟨some 127, .p (.un .not (.tmp 126)), some (124, false)⟩
 (.op ⟨some 128, .p (.pick (.tmp 124) (.const (.bool true)) (.tmp 127)), none⟩ .done))))))))))))
 (.cond (.tmp 128) (.seq (.reg (.op ⟨some 129, .p (.build [.bool false, .int .i64 0, .int .i64 0, .int .i64 0, .int .i64 0, .int .i64 0, .int .i64 0, .int .i64 0, .int .i64 0, .int .i64 0, .int .i64 0, .int .i64 0, .int .i64 0, .int .i64 0, .int .i64 0, .int .i64 0, .int .i64 0, .int .i64 0, .int .i64 0, .int .i64 0, .int .i64 0, .int .i64 0, .int .i64 0, .int .i64 0, .int .i64 0, .int .i64 0, .int .i64 0, .int .i64 0, .int .i64 0, .int .i64 0, .int .i64 0, .int .i64 0, .int .i64 0, .int .i64 0, .int .i64 0, .int .i64 0, .int .i64 0, .int .i64 0, .int .i64 0, .int .i64 0, .int .i64 0, .int .i64 0, .bool false, .bool false, .int .i64 0, .bool false, .int .i64 0, .int .i64 0] []), none⟩
 (.op ⟨some 130, .p (.build [.slice none 0 0, .bool false] [(1, 1, .const (.bool true))]), none⟩
 (.op ⟨none, .h (.store 48 (.tmp 2) (.tmp 129)), none⟩
 (.op ⟨none, .h (.store 2 (.tmp 3) (.tmp 130)), none⟩ .done)))))
 (.ret))
 (.skip)))
 (.seq (.reg (.both (.op ⟨some 131, .h (.load 48 true (.tmp 5)), none⟩
 (.both (.op ⟨some 132, .h (.load 2 true (.tmp 1)), none⟩
 (.op ⟨none, .h (.store 48 (.tmp 2) (.tmp 131)), none⟩
 (.op ⟨none, .h (.store 2 (.tmp 3) (.tmp 132)), none⟩
 (.done))))
 (.op ⟨none, .h (.store 48 (.tmp 2) (.tmp 131)), none⟩
 (.op ⟨some 132, .h (.load 2 true (.tmp 1)), none⟩
 (.op ⟨none, .h (.store 2 (.tmp 3) (.tmp 132)), none⟩
 (.done))))))
 (.op ⟨some 132, .h (.load 2 true (.tmp 1)), none⟩
 (.op ⟨some 131, .h (.load 48 true (.tmp 5)), none⟩
 (.op ⟨none, .h (.store 48 (.tmp 2) (.tmp 131)), none⟩
 (.op ⟨none, .h (.store 2 (.tmp 3) (.tmp 132)), none⟩
 (.done)))))))
 (.ret))))))))))))))))))⟩

theorem cF41 : compF Try.prog aF41.cfg.pm aF41.cfg.lz Try.f41 = some aF41 := by kernel_rfl
theorem kF41 : aF41.ok = true := by kernel_rfl

-- decoupage/decoupagelaw30.awake
def aF42 : AFun := ⟨⟨18, [], false⟩, [.tmp 0],
 .seq (.reg (.op ⟨some 0, .p (.mov (.const (.bool false))), none⟩ .done))
 (.seq (.reg (.op ⟨some 4, .call 45 [.const (.slice none 0 0)], none⟩
 (.op ⟨some 3, .p (.mov (.tmp 4)), none⟩
 (.op ⟨some 5, .p (.extract (.tmp 3) 0), none⟩
 (.op ⟨some 6, .p (.extract (.tmp 3) 1), none⟩
 (.op ⟨some 1, .p (.mov (.tmp 5)), none⟩
 (.op ⟨some 2, .p (.mov (.tmp 6)), none⟩ .done)))))))
 (.seq (.reg (.op ⟨some 7, .p (.mov (.tmp 2)), none⟩
 (.op ⟨some 8, .p (.int2 .eql (.tmp 7) (.const (.int .i64 0))), none⟩
 (.op ⟨some 9, .p (.mov (.tmp 8)), none⟩
 (.op ⟨some 10, .p (.mov (.tmp 1)), some (9, true)⟩
 (.op ⟨some 11, .p (.lenS (.tmp 10)), some (9, true)⟩
 (.op ⟨some 12, .p (.int2 .eql (.tmp 11) (.const (.int .i64 4))), some (9, true)⟩
 (.op ⟨some 13, .p (.pick (.tmp 9) (.tmp 12) (.const (.bool false))), none⟩
 (.op ⟨some 14, .p (.mov (.tmp 13)), none⟩
 (.op ⟨some 15, .p (.build [.int .i64 0, .int .i64 0, .int .i64 0, .int .i64 0, .int .i64 0, .int .i64 0, .int .i64 0, .int .i64 0, .int .i64 0, .int .i64 0, .int .i64 0, .int .i64 0, .int .i64 0, .int .i64 0, .int .i64 0] [(14, 1, .const (.int .i64 1))]), some (14, true)⟩
 (.op ⟨some 16, .call 44 [.tmp 15], some (14, true)⟩
 (.op ⟨some 17, .p (.pick (.tmp 14) (.tmp 16) (.const (.bool false))), none⟩
 (.op ⟨some 0, .p (.mov (.tmp 17)), none⟩ .done)))))))))))))
 (.ret)))⟩

theorem cF42 : compF Try.prog aF42.cfg.pm aF42.cfg.lz Try.f42 = some aF42 := by kernel_rfl
theorem kF42 : aF42.ok = true := by kernel_rfl

-- decoupage/decoupageref30.Right
def aF43 : AFun := ⟨⟨61, [], false⟩, [.tmp 2],
 .seq (.reg (.op ⟨some 1, .h (.box (.tmp 0)), none⟩
 (.op ⟨some 2, .p (.mov (.const (.bool false))), none⟩ .done)))
 (.seq (.seq (.reg (.op ⟨some 7, .p (.fieldAddr 2 (.tmp 1)), none⟩
 (.op ⟨some 8, .h (.load 4 true (.tmp 7)), none⟩
 (.op ⟨some 9, .p (.fieldAddr 6 (.tmp 1)), none⟩
 (.op ⟨some 10, .h (.load 4 true (.tmp 9)), none⟩
 (.op ⟨some 11, .p (.fieldAddr 10 (.tmp 1)), none⟩
 (.op ⟨some 12, .h (.load 4 true (.tmp 11)), none⟩
 (.op ⟨some 13, .p (.build [.int .i64 0, .int .i64 0, .int .i64 0, .int .i64 0, .int .i64 0, .int .i64 0, .int .i64 0, .int .i64 0, .int .i64 0, .int .i64 0, .int .i64 0, .int .i64 0] [(0, 4, .tmp 8), (4, 4, .tmp 10), (8, 4, .tmp 12)]), none⟩
 (.op ⟨some 14, .p (.mov (.const (.int .i64 0))), none⟩ .done)))))))))
 (.block 0 (.loop (.seq (.reg (.op ⟨some 15, .p (.int2 .lss (.tmp 14) (.const (.int .i64 3))), none⟩ .done))
 (.seq (.cond (.tmp 15) (.skip)
 (.exit 0))
 (.seq (.block 1 (.seq (.reg (.op ⟨some 16, .p (.idxV 3 4 true (.tmp 13) (.tmp 14)), none⟩
 (.op ⟨some 4, .h (.alloc [.int .i64 0, .int .i64 0, .int .i64 0, .int .i64 0]), none⟩
 (.op ⟨none, .h (.store 4 (.tmp 4) (.tmp 16)), none⟩ .done))))
 (.seq (.reg (.op ⟨some 17, .h (.load 4 true (.tmp 4)), none⟩
 (.op ⟨some 18, .call 75 [.tmp 17], none⟩
 (.op ⟨some 5, .h (.alloc [.int .i64 0, .int .i64 0, .int .i64 0, .int .i64 0]), none⟩
 (.op ⟨none, .h (.store 4 (.tmp 5) (.tmp 18)), none⟩ .done)))))
 (.seq (.reg (.op ⟨some 19, .p (.mov (.const (.int .i64 0))), none⟩ .done))
 (.block 2 (.loop (.seq (.reg (.op ⟨some 20, .p (.int2 .lss (.tmp 19) (.const (.int .i64 4))), none⟩ .done))
 (.seq (.cond (.tmp 20) (.skip)
 (.exit 2))
 (.seq (.block 3 (.seq (.reg (.op ⟨some 21, .p (.mov (.tmp 19)), none⟩
 (.op ⟨some 6, .p (.mov (.tmp 21)), none⟩ .done)))
 (.seq (.reg (.op ⟨some 22, .p (.mov (.tmp 6)), none⟩
 (.op ⟨some 23, .p (.idxA 4 1 (.tmp 5) (.tmp 22)), none⟩
 (.op ⟨some 24, .h (.load 1 false (.tmp 23)), none⟩
 (.op ⟨some 25, .call 76 [.tmp 24], none⟩
 (.op ⟨some 26, .p (.un .not (.tmp 25)), none⟩ .done))))))
 (.cond (.tmp 26) (.seq (.reg (.op ⟨some 2, .p (.mov (.const (.bool false))), none⟩ .done))
 (.ret))
 (.skip)))))
 (.reg (.op ⟨some 27, .p (.int2 .add (.tmp 19) (.const (.int .i64 1))), none⟩
 (.op ⟨some 19, .p (.mov (.tmp 27)), none⟩ .done))))))))))))
 (.reg (.op ⟨some 28, .p (.int2 .add (.tmp 14) (.const (.int .i64 1))), none⟩
 (.op ⟨some 14, .p (.mov (.tmp 28)), none⟩ .done)))))))))
 (.seq (.seq (.reg (.op ⟨some 29, .p (.fieldAddr 1 (.tmp 1)), none⟩
 (.op ⟨some 30, .h (.load 1 false (.tmp 29)), none⟩
 (.op ⟨some 31, .p (.int2 .neq (.tmp 30) (.const (.int .i64 1))), none⟩
 (.op ⟨some 32, .p (.mov (.tmp 31)), none⟩
 (.op ⟨some 33, .p (.fieldAddr 1 (.tmp 1)), some (32, true)⟩
 (.op ⟨some 34, .h (.load 1 false (.tmp 33)), some (32, true)⟩
 (.op ⟨some 35, .p (.int2 .neq (.tmp 34) (.const (.int .i64 0))), some (32, true)⟩
 (.op ⟨some 36, .p (.mov (.tmp 35)), some (32, true)⟩
 (.op ⟨some 37, .p (.fieldAddr 6 (.tmp 1)), some (36, false)⟩
 (.op ⟨some 38, .h (.load 4 true (.tmp 37)), some (36, false)⟩
 (.op ⟨some 39, .p (.build [.int .i64 0, .int .i64 0, .int .i64 0, .int .i64 0] []), some (36, false)⟩
 (.op ⟨some 40, .p (.eqa [true, true, true, true] true (.tmp 38) (.tmp 39)), some (36, false)⟩
 (.op ⟨some 41, .p (.pick (.tmp 36) (.const (.bool true)) (.tmp 40)), some (32, true)⟩
 (.op ⟨some 42, .p (.pick (.tmp 32) (.tmp 41) (.const (.bool false))), none⟩ .done)))))))))))))))
 (.cond (.tmp 42) (.seq (.reg (.op ⟨some 2, .p (.mov (.const (.bool false))), none⟩ .done))
 (.ret))
 (.skip)))
 (.seq (.reg (.op ⟨some 43, .p (.fieldAddr 0 (.tmp 1)), none⟩
 (.op ⟨some 44, .h (.load 1 false (.tmp 43)), none⟩
 (.op ⟨some 45, .p (.int2 .geq (.tmp 44) (.const (.int .i64 0))), none⟩
 (.op ⟨some 46, .p (.mov (.tmp 45)), none⟩
 (.op ⟨some 47, .p (.fieldAddr 0 (.tmp 1)), some (46, true)⟩
 (.op ⟨some 48, .h (.load 1 false (.tmp 47)), some (46, true)⟩
 (.op ⟨some 49, .p (.int2 .leq (.tmp 48) (.const (.int .i64 65535))), some (46, true)⟩
 (.op ⟨some 50, .p (.pick (.tmp 46) (.tmp 49) (.const (.bool false))), none⟩
 (.op ⟨some 51, .p (.mov (.tmp 50)), none⟩
 (.op ⟨some 52, .p (.fieldAddr 14 (.tmp 1)), some (51, true)⟩
 (.op ⟨some 53, .h (.load 1 false (.tmp 52)), some (51, true)⟩
 (.op ⟨some 54, .p (.int2 .geq (.tmp 53) (.const (.int .i64 1))), some (51, true)⟩
 (.op ⟨some 55, .p (.pick (.tmp 51) (.tmp 54) (.const (.bool false))), none⟩
 (.op ⟨some 56, .p (.mov (.tmp 55)), none⟩
 (.op ⟨some 57, .p (.fieldAddr 14 (.tmp 1)), some (56, true)⟩
 (.op ⟨some 58, .h (.load 1 false (.tmp 57)), some (56, true)⟩
 (.op ⟨some 59, .p (.int2 .leq (.tmp 58) (.const (.int .i64 16777216))), some (56, true)⟩
 (.op ⟨some 60, .p (.pick (.tmp 56) (.tmp 59) (.const (.bool false))), none⟩
 (.op ⟨some 2, .p (.mov (.tmp 60)), none⟩ .done))))))))))))))))))))
 (.ret))))⟩

theorem cF43 : compF Try.prog aF43.cfg.pm aF43.cfg.lz Try.f43 = some aF43 := by kernel_rfl
theorem kF43 : aF43.ok = true := by kernel_rfl

-- decoupage/plate.Right
def aF44 : AFun := ⟨⟨53, [], false⟩, [.tmp 2],
 .seq (.reg (.op ⟨some 1, .h (.box (.tmp 0)), none⟩
 (.op ⟨some 2, .p (.mov (.const (.bool false))), none⟩ .done)))
 (.seq (.seq (.reg (.op ⟨some 3, .p (.fieldAddr 0 (.tmp 1)), none⟩
 (.op ⟨some 4, .h (.load 1 false (.tmp 3)), none⟩
 (.op ⟨some 5, .p (.int2 .lss (.tmp 4) (.const (.int .i64 0))), none⟩
 (.op ⟨some 6, .p (.mov (.tmp 5)), none⟩
 (.op ⟨some 7, .p (.fieldAddr 0 (.tmp 1)), some (6, false)⟩
 (.op ⟨some 8, .h (.load 1 false (.tmp 7)), some (6, false)⟩
 (.op ⟨some 9, .p (.int2 .gtr (.tmp 8) (.const (.int .i64 65535))), some (6, false)⟩
 (.op ⟨some 10, .p (.pick (.tmp 6) (.const (.bool true)) (.tmp 9)), none⟩
 (.op ⟨some 11, .p (.mov (.tmp 10)), none⟩
 (.op ⟨some 12, .p (.fieldAddr 14 (.tmp 1)), some (11, false)⟩
 (.op ⟨some 13, .h (.load 1 false (.tmp 12)), some (11, false)⟩
 (.op ⟨some 14, .p (.int2 .lss (.tmp 13) (.const (.int .i64 1))), some (11, false)⟩
 (.op ⟨some 15, .p (.pick (.tmp 11) (.const (.bool true)) (.tmp 14)), none⟩
 (.op ⟨some 16, .p (.mov (.tmp 15)), none⟩
 (.op ⟨some 17, .p (.fieldAddr 14 (.tmp 1)), some (16, false)⟩
 (.op ⟨some 18, .h (.load 1 false (.tmp 17)), some (16, false)⟩
 (.op ⟨some 19, .p (.int2 .gtr (.tmp 18) (.const (.int .i64 16777216))), some (16, false)⟩
 (.op ⟨some 20, .p (.pick (.tmp 16) (.const (.bool true)) (.tmp 19)), none⟩
 (.op ⟨some 21, .p (.mov (.tmp 20)), none⟩
 (.op ⟨some 22, .p (.fieldAddr 2 (.tmp 1)), some (21, false)⟩
 (.op ⟨some 23, .h (.load 4 true (.tmp 22)), some (21, false)⟩
 (.op ⟨some 24, .call 77 [.tmp 23], some (21, false)⟩
 (.op ⟨some 25, .p (.un .not (.tmp 24)), some (21, false)⟩
 (.op ⟨some 26, .p (.pick (.tmp 21) (.const (.bool true)) (.tmp 25)), none⟩
 (.op ⟨some 27, .p (.mov (.tmp 26)), none⟩
 (.op ⟨some 28, .p (.fieldAddr 6 (.tmp 1)), some (27, false)⟩
 (.op ⟨some 29, .h (.load 4 true (.tmp 28)), some (27, false)⟩
 (.op ⟨some 30, .call 77 [.tmp 29], some (27, false)⟩
 (.op ⟨some 31, .p (.un .not (.tmp 30)), some (27, false)⟩
 (.op ⟨some 32, .p (.pick (.tmp 27) (.const (.bool true)) (.tmp 31)), none⟩
 (.op ⟨some 33, .p (.mov (.tmp 32)), none⟩
 (.op ⟨some 34, .p (.fieldAddr 10 (.tmp 1)), some (33, false)⟩
 (.op ⟨some 35, .h (.load 4 true (.tmp 34)), some (33, false)⟩
 (.op ⟨some 36, .call 77 [.tmp 35], some (33, false)⟩
 (.op ⟨some 37, .p (.un .not (.tmp 36)), some (33, false)⟩
 (.op ⟨some 38, .p (.pick (.tmp 33) (.const (.bool true)) (.tmp 37)), none⟩ .done)))))))))))))))))))))))))))))))))))))
 (.cond (.tmp 38) (.seq (.reg (.op ⟨some 2, .p (.mov (.const (.bool false))), none⟩ .done))
 (.ret))
 (.skip)))
 (.seq (.reg (.op ⟨some 39, .p (.fieldAddr 1 (.tmp 1)), none⟩
 (.op ⟨some 40, .h (.load 1 false (.tmp 39)), none⟩
 (.op ⟨some 41, .p (.int2 .eql (.tmp 40) (.const (.int .i64 1))), none⟩
 (.op ⟨some 42, .p (.mov (.tmp 41)), none⟩
 (.op ⟨some 43, .p (.fieldAddr 1 (.tmp 1)), some (42, false)⟩
 (.op ⟨some 44, .h (.load 1 false (.tmp 43)), some (42, false)⟩
 (.op ⟨some 45, .p (.int2 .eql (.tmp 44) (.const (.int .i64 0))), some (42, false)⟩
 (.op ⟨some 46, .p (.mov (.tmp 45)), some (42, false)⟩
 (.op ⟨some 47, .p (.fieldAddr 6 (.tmp 1)), some (46, true)⟩
 (.op ⟨some 48, .h (.load 4 true (.tmp 47)), some (46, true)⟩
 (.op ⟨some 49, .p (.build [.int .i64 0, .int .i64 0, .int .i64 0, .int .i64 0] []), some (46, true)⟩
 (.op ⟨some 50, .p (.eqa [true, true, true, true] false (.tmp 48) (.tmp 49)), some (46, true)⟩
 (.op ⟨some 51, .p (.pick (.tmp 46) (.tmp 50) (.const (.bool false))), some (42, false)⟩
 (.op ⟨some 52, .p (.pick (.tmp 42) (.const (.bool true)) (.tmp 51)), none⟩
 (.op ⟨some 2, .p (.mov (.tmp 52)), none⟩ .done))))))))))))))))
 (.ret)))⟩

theorem cF44 : compF Try.prog aF44.cfg.pm aF44.cfg.lz Try.f44 = some aF44 := by kernel_rfl
theorem kF44 : aF44.ok = true := by kernel_rfl

-- decoupage/plate.Encode
def aF45 : AFun := ⟨⟨44, [], false⟩, [.tmp 2, .tmp 3],
 .seq (.reg (.op ⟨some 2, .p (.mov (.const (.slice none 0 0))), none⟩
 (.op ⟨some 3, .p (.mov (.const (.int .i64 0))), none⟩ .done)))
 (.seq (.seq (.reg (.op ⟨some 7, .p (.mov (.tmp 0)), none⟩
 (.op ⟨some 8, .call 78 [.tmp 7, .func 79], none⟩ .done)))
 (.cond (.tmp 8) (.seq (.reg (.op ⟨some 2, .p (.mov (.const (.slice none 0 0))), none⟩
 (.op ⟨some 3, .p (.mov (.const (.int .i64 1))), none⟩ .done)))
 (.ret))
 (.skip)))
 (.seq (.reg (.op ⟨some 4, .h (.alloc [.slice none 0 0]), none⟩ .done))
 (.seq (.reg (.op ⟨some 9, .p (.mov (.tmp 0)), none⟩
 (.op ⟨some 10, .p (.lenS (.tmp 9)), none⟩
 (.op ⟨some 11, .p (.conv .u32 (.tmp 10)), none⟩
 (.op ⟨some 12, .call 26 [.tmp 4, .tmp 11], none⟩ .done)))))
 (.seq (.seq (.reg (.op ⟨some 13, .p (.mov (.tmp 0)), none⟩
 (.op ⟨some 14, .p (.lenS (.tmp 13)), none⟩
 (.op ⟨some 15, .p (.mov (.const (.int .i64 0))), none⟩ .done))))
 (.block 0 (.loop (.seq (.reg (.op ⟨some 16, .p (.int2 .lss (.tmp 15) (.tmp 14)), none⟩ .done))
 (.seq (.cond (.tmp 16) (.skip)
 (.exit 0))
 (.seq (.block 1 (.seq (.reg (.op ⟨some 17, .p (.idxS 15 (.tmp 13) (.tmp 15)), none⟩
 (.op ⟨some 18, .h (.load 15 true (.tmp 17)), none⟩
 (.op ⟨some 6, .h (.alloc [.int .i64 0, .int .i64 0, .int .i64 0, .int .i64 0, .int .i64 0, .int .i64 0, .int .i64 0, .int .i64 0, .int .i64 0, .int .i64 0, .int .i64 0, .int .i64 0, .int .i64 0, .int .i64 0, .int .i64 0]), none⟩
 (.op ⟨none, .h (.store 15 (.tmp 6) (.tmp 18)), none⟩ .done)))))
 (.seq (.reg (.op ⟨some 19, .p (.fieldAddr 0 (.tmp 6)), none⟩
 (.op ⟨some 20, .h (.load 1 false (.tmp 19)), none⟩
 (.op ⟨some 21, .p (.conv .u32 (.tmp 20)), none⟩
 (.op ⟨some 22, .call 26 [.tmp 4, .tmp 21], none⟩ .done)))))
 (.seq (.reg (.op ⟨some 23, .p (.fieldAddr 1 (.tmp 6)), none⟩
 (.op ⟨some 24, .h (.load 1 false (.tmp 23)), none⟩
 (.op ⟨some 25, .p (.conv .u8 (.tmp 24)), none⟩
 (.op ⟨some 26, .call 25 [.tmp 4, .tmp 25], none⟩ .done)))))
 (.seq (.reg (.op ⟨some 27, .p (.fieldAddr 2 (.tmp 6)), none⟩
 (.op ⟨some 28, .h (.load 4 true (.tmp 27)), none⟩
 (.op ⟨some 29, .call 80 [.tmp 4, .tmp 28], none⟩ .done))))
 (.seq (.seq (.reg (.op ⟨some 30, .p (.fieldAddr 1 (.tmp 6)), none⟩
 (.op ⟨some 31, .h (.load 1 false (.tmp 30)), none⟩
 (.op ⟨some 32, .p (.int2 .eql (.tmp 31) (.const (.int .i64 1))), none⟩ .done))))
 (.cond (.tmp 32) (.reg (.op ⟨some 33, .p (.fieldAddr 6 (.tmp 6)), none⟩
 (.op ⟨some 34, .h (.load 4 true (.tmp 33)), none⟩
 (.op ⟨some 35, .call 80 [.tmp 4, .tmp 34], none⟩ .done))))
 (.skip)))
 (.seq (.reg (.op ⟨some 36, .p (.fieldAddr 10 (.tmp 6)), none⟩
 (.op ⟨some 37, .h (.load 4 true (.tmp 36)), none⟩
 (.op ⟨some 38, .call 80 [.tmp 4, .tmp 37], none⟩ .done))))
 (.reg (.op ⟨some 39, .p (.fieldAddr 14 (.tmp 6)), none⟩
 (.op ⟨some 40, .h (.load 1 false (.tmp 39)), none⟩
 (.op ⟨some 41, .call 27 [.tmp 4, .tmp 40], none⟩ .done)))))))))))
 (.reg (.op ⟨some 42, .p (.int2 .add (.tmp 15) (.const (.int .i64 1))), none⟩
 (.op ⟨some 15, .p (.mov (.tmp 42)), none⟩ .done)))))))))
 (.seq (.reg (.op ⟨some 43, .call 29 [.tmp 4], none⟩
 (.op ⟨some 2, .p (.mov (.tmp 43)), none⟩
 (.op ⟨some 3, .p (.mov (.const (.int .i64 0))), none⟩ .done))))
 (.ret))))))⟩

theorem cF45 : compF Try.prog aF45.cfg.pm aF45.cfg.lz Try.f45 = some aF45 := by kernel_rfl
theorem kF45 : aF45.ok = true := by kernel_rfl

-- decoupage/plate.Decode
def aF46 : AFun := ⟨⟨53, [], false⟩, [.tmp 2, .tmp 3],
 .seq (.reg (.op ⟨some 2, .p (.mov (.const (.slice none 0 0))), none⟩
 (.op ⟨some 3, .p (.mov (.const (.int .i64 0))), none⟩ .done)))
 (.seq (.reg (.op ⟨some 8, .p (.mov (.tmp 0)), none⟩
 (.op ⟨some 9, .call 30 [.tmp 8], none⟩
 (.op ⟨some 4, .p (.mov (.tmp 9)), none⟩ .done))))
 (.seq (.reg (.op ⟨some 10, .p (.mov (.tmp 4)), none⟩
 (.op ⟨some 11, .call 36 [.tmp 10], none⟩
 (.op ⟨some 5, .p (.mov (.tmp 11)), none⟩ .done))))
 (.seq (.reg (.op ⟨some 6, .p (.mov (.const (.slice none 0 0))), none⟩ .done))
 (.seq (.seq (.reg (.op ⟨some 12, .p (.mov (.tmp 5)), none⟩
 (.op ⟨some 13, .p (.mov (.const (.int .u32 0))), none⟩ .done)))
 (.block 0 (.loop (.seq (.reg (.op ⟨some 14, .p (.int2 .lss (.tmp 13) (.tmp 12)), none⟩ .done))
 (.seq (.cond (.tmp 14) (.skip)
 (.exit 0))
 (.seq (.block 1 (.seq (.reg (.op ⟨some 15, .p (.mov (.tmp 4)), none⟩
 (.op ⟨some 16, .call 36 [.tmp 15], none⟩
 (.op ⟨some 17, .p (.conv .i64 (.tmp 16)), none⟩
 (.op ⟨some 18, .p (.mov (.tmp 4)), none⟩
 (.op ⟨some 19, .call 32 [.tmp 18], none⟩
 (.op ⟨some 20, .p (.conv .i64 (.tmp 19)), none⟩
 (.op ⟨some 21, .p (.build [.int .i64 0, .int .i64 0, .int .i64 0, .int .i64 0, .int .i64 0, .int .i64 0, .int .i64 0, .int .i64 0, .int .i64 0, .int .i64 0, .int .i64 0, .int .i64 0, .int .i64 0, .int .i64 0, .int .i64 0] [(0, 1, .tmp 17), (1, 1, .tmp 20)]), none⟩
 (.op ⟨some 7, .h (.alloc [.int .i64 0, .int .i64 0, .int .i64 0, .int .i64 0, .int .i64 0, .int .i64 0, .int .i64 0, .int .i64 0, .int .i64 0, .int .i64 0, .int .i64 0, .int .i64 0, .int .i64 0, .int .i64 0, .int .i64 0]), none⟩
 (.op ⟨none, .h (.store 15 (.tmp 7) (.tmp 21)), none⟩ .done))))))))))
 (.seq (.reg (.op ⟨some 22, .p (.mov (.tmp 4)), none⟩
 (.op ⟨some 23, .call 81 [.tmp 22], none⟩
 (.op ⟨some 24, .p (.fieldAddr 2 (.tmp 7)), none⟩
 (.op ⟨none, .h (.store 4 (.tmp 24) (.tmp 23)), none⟩ .done)))))
 (.seq (.seq (.reg (.op ⟨some 25, .p (.fieldAddr 1 (.tmp 7)), none⟩
 (.op ⟨some 26, .h (.load 1 false (.tmp 25)), none⟩
 (.op ⟨some 27, .p (.int2 .eql (.tmp 26) (.const (.int .i64 1))), none⟩ .done))))
 (.cond (.tmp 27) (.reg (.op ⟨some 28, .p (.mov (.tmp 4)), none⟩
 (.op ⟨some 29, .call 81 [.tmp 28], none⟩
 (.op ⟨some 30, .p (.fieldAddr 6 (.tmp 7)), none⟩
 (.op ⟨none, .h (.store 4 (.tmp 30) (.tmp 29)), none⟩ .done)))))
 (.skip)))
 (.seq (.reg (.op ⟨some 31, .p (.mov (.tmp 4)), none⟩
 (.op ⟨some 32, .call 81 [.tmp 31], none⟩
 (.op ⟨some 33, .p (.fieldAddr 10 (.tmp 7)), none⟩
 (.op ⟨none, .h (.store 4 (.tmp 33) (.tmp 32)), none⟩ .done)))))
 (.seq (.reg (.op ⟨some 34, .p (.mov (.tmp 4)), none⟩
 (.op ⟨some 35, .call 31 [.tmp 34], none⟩
 (.op ⟨some 36, .p (.fieldAddr 14 (.tmp 7)), none⟩
 (.op ⟨none, .h (.store 1 (.tmp 36) (.tmp 35)), none⟩ .done)))))
 (.seq (.seq (.reg (.op ⟨some 37, .p (.mov (.tmp 4)), none⟩
 (.op ⟨some 38, .call 34 [.tmp 37], none⟩
 (.op ⟨some 39, .p (.mov (.tmp 38)), none⟩
 (.op ⟨some 40, .h (.load 15 true (.tmp 7)), some (39, false)⟩
 (.op ⟨some 41, .call 44 [.tmp 40], some (39, false)⟩
 (.op ⟨some 42, .p (.un .not (.tmp 41)), some (39, false)⟩
 (.op ⟨some 43, .p (.pick (.tmp 39) (.const (.bool true)) (.tmp 42)), none⟩ .done))))))))
 (.cond (.tmp 43) (.seq (.reg (.op ⟨some 2, .p (.mov (.const (.slice none 0 0))), none⟩
 (.op ⟨some 3, .p (.mov (.const (.int .i64 2))), none⟩ .done)))
 (.ret))
 (.skip)))
 (.reg (.op ⟨some 44, .p (.mov (.tmp 6)), none⟩
 (.op ⟨some 45, .h (.load 15 true (.tmp 7)), none⟩
 (.op ⟨some 46, .h (.buildSlice 15 1 [.int .i64 0, .int .i64 0, .int .i64 0, .int .i64 0, .int .i64 0, .int .i64 0, .int .i64 0, .int .i64 0, .int .i64 0, .int .i64 0, .int .i64 0, .int .i64 0, .int .i64 0, .int .i64 0, .int .i64 0] [(0, 15, .tmp 45)]), none⟩
 (.op ⟨some 47, .h (.append 15 120 (.tmp 44) (.tmp 46)), none⟩
 (.op ⟨some 6, .p (.mov (.tmp 47)), none⟩ .done)))))))))))))
 (.reg (.op ⟨some 48, .p (.int2 .add (.tmp 13) (.const (.int .u32 1))), none⟩
 (.op ⟨some 13, .p (.mov (.tmp 48)), none⟩ .done)))))))))
 (.seq (.seq (.reg (.op ⟨some 49, .p (.mov (.tmp 4)), none⟩
 (.op ⟨some 50, .call 33 [.tmp 49], none⟩
 (.op ⟨some 51, .p (.un .not (.tmp 50)), none⟩ .done))))
 (.cond (.tmp 51) (.seq (.reg (.op ⟨some 2, .p (.mov (.const (.slice none 0 0))), none⟩
 (.op ⟨some 3, .p (.mov (.const (.int .i64 2))), none⟩ .done)))
 (.ret))
 (.skip)))
 (.seq (.reg (.op ⟨some 52, .p (.mov (.tmp 6)), none⟩
 (.op ⟨some 2, .p (.mov (.tmp 52)), none⟩
 (.op ⟨some 3, .p (.mov (.const (.int .i64 0))), none⟩ .done))))
 (.ret)))))))⟩

theorem cF46 : compF Try.prog aF46.cfg.pm aF46.cfg.lz Try.f46 = some aF46 := by kernel_rfl
theorem kF46 : aF46.ok = true := by kernel_rfl

-- decoupage/decoupageref30.Bytes
def aF47 : AFun := ⟨⟨55, [], false⟩, [.tmp 2],
 .seq (.reg (.op ⟨some 2, .p (.mov (.const (.slice none 0 0))), none⟩ .done))
 (.seq (.reg (.op ⟨some 6, .p (.mov (.tmp 0)), none⟩
 (.op ⟨some 7, .p (.lenS (.tmp 6)), none⟩
 (.op ⟨some 8, .p (.conv .u64 (.tmp 7)), none⟩
 (.op ⟨some 9, .call 49 [.tmp 8, .const (.int .i64 4)], none⟩
 (.op ⟨some 3, .p (.mov (.tmp 9)), none⟩ .done))))))
 (.seq (.seq (.reg (.op ⟨some 10, .p (.mov (.tmp 0)), none⟩
 (.op ⟨some 11, .p (.lenS (.tmp 10)), none⟩
 (.op ⟨some 12, .p (.mov (.const (.int .i64 0))), none⟩ .done))))
 (.block 0 (.loop (.seq (.reg (.op ⟨some 13, .p (.int2 .lss (.tmp 12) (.tmp 11)), none⟩ .done))
 (.seq (.cond (.tmp 13) (.skip)
 (.exit 0))
 (.seq (.block 1 (.seq (.reg (.op ⟨some 14, .p (.mov (.tmp 12)), none⟩
 (.op ⟨some 4, .p (.mov (.tmp 14)), none⟩ .done)))
 (.seq (.reg (.op ⟨some 15, .p (.mov (.tmp 0)), none⟩
 (.op ⟨some 16, .p (.mov (.tmp 4)), none⟩
 (.op ⟨some 17, .p (.idxS 15 (.tmp 15) (.tmp 16)), none⟩
 (.op ⟨some 18, .h (.load 15 true (.tmp 17)), none⟩
 (.op ⟨some 5, .h (.alloc [.int .i64 0, .int .i64 0, .int .i64 0, .int .i64 0, .int .i64 0, .int .i64 0, .int .i64 0, .int .i64 0, .int .i64 0, .int .i64 0, .int .i64 0, .int .i64 0, .int .i64 0, .int .i64 0, .int .i64 0]), none⟩
 (.op ⟨none, .h (.store 15 (.tmp 5) (.tmp 18)), none⟩ .done)))))))
 (.seq (.reg (.op ⟨some 19, .p (.mov (.tmp 3)), none⟩
 (.op ⟨some 20, .p (.fieldAddr 0 (.tmp 5)), none⟩
 (.op ⟨some 25, .p (.fieldAddr 1 (.tmp 5)), none⟩
 (.both (.op ⟨some 21, .h (.load 1 false (.tmp 20)), none⟩
 (.op ⟨some 22, .p (.conv .u64 (.tmp 21)), none⟩
 (.both (.op ⟨some 23, .call 49 [.tmp 22, .const (.int .i64 4)], none⟩
 (.both (.op ⟨some 24, .h (.append 1 1 (.tmp 19) (.tmp 23)), none⟩
 (.op ⟨some 26, .h (.load 1 false (.tmp 25)), none⟩
 (.op ⟨some 27, .p (.conv .u8 (.tmp 26)), none⟩
 (.op ⟨some 28, .h (.buildSlice 1 1 [.int .u8 0] [(0, 1, .tmp 27)]), none⟩
 (.op ⟨some 29, .h (.append 1 1 (.tmp 24) (.tmp 28)), none⟩
 (.op ⟨some 3, .p (.mov (.tmp 29)), none⟩
 (.done)))))))
 (.op ⟨some 26, .h (.load 1 false (.tmp 25)), none⟩
 (.op ⟨some 27, .p (.conv .u8 (.tmp 26)), none⟩
 (.both (.op ⟨some 24, .h (.append 1 1 (.tmp 19) (.tmp 23)), none⟩
 (.op ⟨some 28, .h (.buildSlice 1 1 [.int .u8 0] [(0, 1, .tmp 27)]), none⟩
 (.op ⟨some 29, .h (.append 1 1 (.tmp 24) (.tmp 28)), none⟩
 (.op ⟨some 3, .p (.mov (.tmp 29)), none⟩
 (.done)))))
 (.op ⟨some 28, .h (.buildSlice 1 1 [.int .u8 0] [(0, 1, .tmp 27)]), none⟩
 (.op ⟨some 24, .h (.append 1 1 (.tmp 19) (.tmp 23)), none⟩
 (.op ⟨some 29, .h (.append 1 1 (.tmp 24) (.tmp 28)), none⟩
 (.op ⟨some 3, .p (.mov (.tmp 29)), none⟩
 (.done))))))))))
 (.op ⟨some 26, .h (.load 1 false (.tmp 25)), none⟩
 (.op ⟨some 27, .p (.conv .u8 (.tmp 26)), none⟩
 (.both (.op ⟨some 23, .call 49 [.tmp 22, .const (.int .i64 4)], none⟩
 (.both (.op ⟨some 24, .h (.append 1 1 (.tmp 19) (.tmp 23)), none⟩
 (.op ⟨some 28, .h (.buildSlice 1 1 [.int .u8 0] [(0, 1, .tmp 27)]), none⟩
 (.op ⟨some 29, .h (.append 1 1 (.tmp 24) (.tmp 28)), none⟩
 (.op ⟨some 3, .p (.mov (.tmp 29)), none⟩
 (.done)))))
 (.op ⟨some 28, .h (.buildSlice 1 1 [.int .u8 0] [(0, 1, .tmp 27)]), none⟩
 (.op ⟨some 24, .h (.append 1 1 (.tmp 19) (.tmp 23)), none⟩
 (.op ⟨some 29, .h (.append 1 1 (.tmp 24) (.tmp 28)), none⟩
 (.op ⟨some 3, .p (.mov (.tmp 29)), none⟩
 (.done)))))))
 (.op ⟨some 28, .h (.buildSlice 1 1 [.int .u8 0] [(0, 1, .tmp 27)]), none⟩
 (.op ⟨some 23, .call 49 [.tmp 22, .const (.int .i64 4)], none⟩
 (.op ⟨some 24, .h (.append 1 1 (.tmp 19) (.tmp 23)), none⟩
 (.op ⟨some 29, .h (.append 1 1 (.tmp 24) (.tmp 28)), none⟩
 (.op ⟨some 3, .p (.mov (.tmp 29)), none⟩
 (.done))))))))))))
 (.op ⟨some 26, .h (.load 1 false (.tmp 25)), none⟩
 (.op ⟨some 27, .p (.conv .u8 (.tmp 26)), none⟩
 (.both (.op ⟨some 21, .h (.load 1 false (.tmp 20)), none⟩
 (.op ⟨some 22, .p (.conv .u64 (.tmp 21)), none⟩
 (.both (.op ⟨some 23, .call 49 [.tmp 22, .const (.int .i64 4)], none⟩
 (.both (.op ⟨some 24, .h (.append 1 1 (.tmp 19) (.tmp 23)), none⟩
 (.op ⟨some 28, .h (.buildSlice 1 1 [.int .u8 0] [(0, 1, .tmp 27)]), none⟩
 (.op ⟨some 29, .h (.append 1 1 (.tmp 24) (.tmp 28)), none⟩
 (.op ⟨some 3, .p (.mov (.tmp 29)), none⟩
 (.done)))))
 (.op ⟨some 28, .h (.buildSlice 1 1 [.int .u8 0] [(0, 1, .tmp 27)]), none⟩
 (.op ⟨some 24, .h (.append 1 1 (.tmp 19) (.tmp 23)), none⟩
 (.op ⟨some 29, .h (.append 1 1 (.tmp 24) (.tmp 28)), none⟩
 (.op ⟨some 3, .p (.mov (.tmp 29)), none⟩
 (.done)))))))
 (.op ⟨some 28, .h (.buildSlice 1 1 [.int .u8 0] [(0, 1, .tmp 27)]), none⟩
 (.op ⟨some 23, .call 49 [.tmp 22, .const (.int .i64 4)], none⟩
 (.op ⟨some 24, .h (.append 1 1 (.tmp 19) (.tmp 23)), none⟩
 (.op ⟨some 29, .h (.append 1 1 (.tmp 24) (.tmp 28)), none⟩
 (.op ⟨some 3, .p (.mov (.tmp 29)), none⟩
 (.done)))))))))
 (.op ⟨some 28, .h (.buildSlice 1 1 [.int .u8 0] [(0, 1, .tmp 27)]), none⟩
 (.op ⟨some 21, .h (.load 1 false (.tmp 20)), none⟩
 (.op ⟨some 22, .p (.conv .u64 (.tmp 21)), none⟩
 (.op ⟨some 23, .call 49 [.tmp 22, .const (.int .i64 4)], none⟩
 (.op ⟨some 24, .h (.append 1 1 (.tmp 19) (.tmp 23)), none⟩
 (.op ⟨some 29, .h (.append 1 1 (.tmp 24) (.tmp 28)), none⟩
 (.op ⟨some 3, .p (.mov (.tmp 29)), none⟩
 (.done))))))))))))))))
 (.seq (.reg (.op ⟨some 30, .p (.mov (.tmp 3)), none⟩
 (.op ⟨some 31, .p (.fieldAddr 2 (.tmp 5)), none⟩
 (.op ⟨some 32, .h (.load 4 true (.tmp 31)), none⟩
 (.op ⟨some 33, .call 82 [.tmp 32], none⟩
 (.op ⟨some 34, .h (.append 1 1 (.tmp 30) (.tmp 33)), none⟩
 (.op ⟨some 3, .p (.mov (.tmp 34)), none⟩ .done)))))))
 (.seq (.seq (.reg (.op ⟨some 35, .p (.fieldAddr 1 (.tmp 5)), none⟩
 (.op ⟨some 36, .h (.load 1 false (.tmp 35)), none⟩
 (.op ⟨some 37, .p (.int2 .eql (.tmp 36) (.const (.int .i64 1))), none⟩ .done))))
 (.cond (.tmp 37) (.reg (.op ⟨some 38, .p (.mov (.tmp 3)), none⟩
 (.op ⟨some 39, .p (.fieldAddr 6 (.tmp 5)), none⟩
 (.op ⟨some 40, .h (.load 4 true (.tmp 39)), none⟩
 (.op ⟨some 41, .call 82 [.tmp 40], none⟩
 (.op ⟨some 42, .h (.append 1 1 (.tmp 38) (.tmp 41)), none⟩
 (.op ⟨some 3, .p (.mov (.tmp 42)), none⟩ .done)))))))
 (.skip)))
 (.reg (.op ⟨some 43, .p (.mov (.tmp 3)), none⟩
 (.op ⟨some 44, .p (.fieldAddr 10 (.tmp 5)), none⟩
 (.op ⟨some 48, .p (.fieldAddr 14 (.tmp 5)), none⟩
 (.both (.op ⟨some 45, .h (.load 4 true (.tmp 44)), none⟩
 (.both (.op ⟨some 46, .call 82 [.tmp 45], none⟩
 (.both (.op ⟨some 47, .h (.append 1 1 (.tmp 43) (.tmp 46)), none⟩
 (.op ⟨some 49, .h (.load 1 false (.tmp 48)), none⟩
 (.op ⟨some 50, .p (.conv .u64 (.tmp 49)), none⟩
 (.op ⟨some 51, .call 49 [.tmp 50, .const (.int .i64 8)], none⟩
 (.op ⟨some 52, .h (.append 1 1 (.tmp 47) (.tmp 51)), none⟩
 (.op ⟨some 3, .p (.mov (.tmp 52)), none⟩
 (.done)))))))
 (.op ⟨some 49, .h (.load 1 false (.tmp 48)), none⟩
 (.op ⟨some 50, .p (.conv .u64 (.tmp 49)), none⟩
 (.op ⟨some 47, .h (.append 1 1 (.tmp 43) (.tmp 46)), none⟩
 (.op ⟨some 51, .call 49 [.tmp 50, .const (.int .i64 8)], none⟩
 (.op ⟨some 52, .h (.append 1 1 (.tmp 47) (.tmp 51)), none⟩
 (.op ⟨some 3, .p (.mov (.tmp 52)), none⟩
 (.done)))))))))
 (.op ⟨some 49, .h (.load 1 false (.tmp 48)), none⟩
 (.op ⟨some 50, .p (.conv .u64 (.tmp 49)), none⟩
 (.op ⟨some 46, .call 82 [.tmp 45], none⟩
 (.op ⟨some 47, .h (.append 1 1 (.tmp 43) (.tmp 46)), none⟩
 (.op ⟨some 51, .call 49 [.tmp 50, .const (.int .i64 8)], none⟩
 (.op ⟨some 52, .h (.append 1 1 (.tmp 47) (.tmp 51)), none⟩
 (.op ⟨some 3, .p (.mov (.tmp 52)), none⟩
 (.done))))))))))
 (.op ⟨some 49, .h (.load 1 false (.tmp 48)), none⟩
 (.op ⟨some 50, .p (.conv .u64 (.tmp 49)), none⟩
 (.op ⟨some 45, .h (.load 4 true (.tmp 44)), none⟩
 (.op ⟨some 46, .call 82 [.tmp 45], none⟩
 (.op ⟨some 47, .h (.append 1 1 (.tmp 43) (.tmp 46)), none⟩
 (.op ⟨some 51, .call 49 [.tmp 50, .const (.int .i64 8)], none⟩
 (.op ⟨some 52, .h (.append 1 1 (.tmp 47) (.tmp 51)), none⟩
 (.op ⟨some 3, .p (.mov (.tmp 52)), none⟩
 (.done))))))))))))))))))))
 (.reg (.op ⟨some 53, .p (.int2 .add (.tmp 12) (.const (.int .i64 1))), none⟩
 (.op ⟨some 12, .p (.mov (.tmp 53)), none⟩ .done)))))))))
 (.seq (.reg (.op ⟨some 54, .p (.mov (.tmp 3)), none⟩
 (.op ⟨some 2, .p (.mov (.tmp 54)), none⟩ .done)))
 (.ret))))⟩

theorem cF47 : compF Try.prog aF47.cfg.pm aF47.cfg.lz Try.f47 = some aF47 := by kernel_rfl
theorem kF47 : aF47.ok = true := by kernel_rfl

end Go.Proofs.Ytbgnaeagdneikaa
