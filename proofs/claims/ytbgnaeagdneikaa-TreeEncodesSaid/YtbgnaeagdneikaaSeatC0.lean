/- The compiled code of functions of the seat, printed by a program of mine (gen.py), checked by the kernel. -/
import Derived.Test.YtbgnaeagdneikaaCoreAi
import Derived.Test.YtbgnaeagdneikaaProg
import Derived.KernelRfl
namespace Go.Proofs.Ytbgnaeagdneikaa
open Go Go.Proofs.Ytbgnaeagdneikaa.Abs
set_option maxRecDepth 100000

-- decoupage/decoupagelaw06.StyleForms
def aF3 : AFun := ⟨⟨23, [], false⟩, [.tmp 2],
 .seq (.reg (.op ⟨some 1, .h (.box (.tmp 0)), none⟩
 (.op ⟨some 2, .p (.mov (.const (.bool false))), none⟩ .done)))
 (.seq (.reg (.op ⟨some 3, .call 19 [], none⟩
 (.op ⟨some 4, .p (.mov (.tmp 3)), none⟩
 (.both (.op ⟨some 5, .h (.load 48 true (.tmp 1)), some (4, true)⟩
 (.both (.op ⟨some 6, .call 20 [.tmp 5], some (4, true)⟩
 (.op ⟨some 7, .h (.load 48 true (.tmp 1)), some (4, true)⟩
 (.op ⟨some 8, .call 21 [.tmp 7], some (4, true)⟩
 (.op ⟨some 9, .p (.eqb false (.tmp 6) (.tmp 8)), some (4, true)⟩
 (.op ⟨some 10, .p (.pick (.tmp 4) (.tmp 9) (.const (.bool false))), none⟩
 (.op ⟨some 11, .p (.mov (.tmp 10)), none⟩
 (.op ⟨some 12, .h (.load 48 true (.tmp 1)), some (11, true)⟩
 (.op ⟨some 13, .call 21 [.tmp 12], some (11, true)⟩
 (.op ⟨some 14, .p (.un .not (.tmp 13)), some (11, true)⟩
 (.op ⟨some 15, .p (.mov (.tmp 14)), some (11, true)⟩
 (.both (.op ⟨some 16, .h (.load 48 true (.tmp 1)), some (15, false)⟩
 (.both (.op ⟨some 17, .call 22 [.tmp 16], some (15, false)⟩
 (.op ⟨some 18, .h (.load 48 true (.tmp 1)), some (15, false)⟩
 (.op ⟨some 19, .call 23 [.tmp 18], some (15, false)⟩
 (.op ⟨some 20, .p (.eqb false (.tmp 17) (.tmp 19)), some (15, false)⟩
 (.op ⟨some 21, .p (.pick (.tmp 15) (.const (.bool true)) (.tmp 20)), some (11, true)⟩
 (.op ⟨some 22, .p (.pick (.tmp 11) (.tmp 21) (.const (.bool false))), none⟩
 (.op ⟨some 2, .p (.mov (.tmp 22)), none⟩
 (.done))))))))
 (.op ⟨some 18, .h (.load 48 true (.tmp 1)), some (15, false)⟩
 (.op ⟨some 17, .call 22 [.tmp 16], some (15, false)⟩
 (.op ⟨some 19, .call 23 [.tmp 18], some (15, false)⟩
 (.op ⟨some 20, .p (.eqb false (.tmp 17) (.tmp 19)), some (15, false)⟩
 (.op ⟨some 21, .p (.pick (.tmp 15) (.const (.bool true)) (.tmp 20)), some (11, true)⟩
 (.op ⟨some 22, .p (.pick (.tmp 11) (.tmp 21) (.const (.bool false))), none⟩
 (.op ⟨some 2, .p (.mov (.tmp 22)), none⟩
 (.done))))))))))
 (.op ⟨some 18, .h (.load 48 true (.tmp 1)), some (15, false)⟩
 (.op ⟨some 16, .h (.load 48 true (.tmp 1)), some (15, false)⟩
 (.op ⟨some 17, .call 22 [.tmp 16], some (15, false)⟩
 (.op ⟨some 19, .call 23 [.tmp 18], some (15, false)⟩
 (.op ⟨some 20, .p (.eqb false (.tmp 17) (.tmp 19)), some (15, false)⟩
 (.op ⟨some 21, .p (.pick (.tmp 15) (.const (.bool true)) (.tmp 20)), some (11, true)⟩
 (.op ⟨some 22, .p (.pick (.tmp 11) (.tmp 21) (.const (.bool false))), none⟩
 (.op ⟨some 2, .p (.mov (.tmp 22)), none⟩
 (.done))))))))))))))))))))
 (.op ⟨some 7, .h (.load 48 true (.tmp 1)), some (4, true)⟩
 (.op ⟨some 6, .call 20 [.tmp 5], some (4, true)⟩
 (.op ⟨some 8, .call 21 [.tmp 7], some (4, true)⟩
 (.op ⟨some 9, .p (.eqb false (.tmp 6) (.tmp 8)), some (4, true)⟩
 (.op ⟨some 10, .p (.pick (.tmp 4) (.tmp 9) (.const (.bool false))), none⟩
 (.op ⟨some 11, .p (.mov (.tmp 10)), none⟩
 (.op ⟨some 12, .h (.load 48 true (.tmp 1)), some (11, true)⟩
 (.op ⟨some 13, .call 21 [.tmp 12], some (11, true)⟩
 (.op ⟨some 14, .p (.un .not (.tmp 13)), some (11, true)⟩
 (.op ⟨some 15, .p (.mov (.tmp 14)), some (11, true)⟩
 (.both (.op ⟨some 16, .h (.load 48 true (.tmp 1)), some (15, false)⟩
 (.both (.op ⟨some 17, .call 22 [.tmp 16], some (15, false)⟩
 (.op ⟨some 18, .h (.load 48 true (.tmp 1)), some (15, false)⟩
 (.op ⟨some 19, .call 23 [.tmp 18], some (15, false)⟩
 (.op ⟨some 20, .p (.eqb false (.tmp 17) (.tmp 19)), some (15, false)⟩
 (.op ⟨some 21, .p (.pick (.tmp 15) (.const (.bool true)) (.tmp 20)), some (11, true)⟩
 (.op ⟨some 22, .p (.pick (.tmp 11) (.tmp 21) (.const (.bool false))), none⟩
 (.op ⟨some 2, .p (.mov (.tmp 22)), none⟩
 (.done))))))))
 (.op ⟨some 18, .h (.load 48 true (.tmp 1)), some (15, false)⟩
 (.op ⟨some 17, .call 22 [.tmp 16], some (15, false)⟩
 (.op ⟨some 19, .call 23 [.tmp 18], some (15, false)⟩
 (.op ⟨some 20, .p (.eqb false (.tmp 17) (.tmp 19)), some (15, false)⟩
 (.op ⟨some 21, .p (.pick (.tmp 15) (.const (.bool true)) (.tmp 20)), some (11, true)⟩
 (.op ⟨some 22, .p (.pick (.tmp 11) (.tmp 21) (.const (.bool false))), none⟩
 (.op ⟨some 2, .p (.mov (.tmp 22)), none⟩
 (.done))))))))))
 (.op ⟨some 18, .h (.load 48 true (.tmp 1)), some (15, false)⟩
 (.op ⟨some 16, .h (.load 48 true (.tmp 1)), some (15, false)⟩
 (.op ⟨some 17, .call 22 [.tmp 16], some (15, false)⟩
 (.op ⟨some 19, .call 23 [.tmp 18], some (15, false)⟩
 (.op ⟨some 20, .p (.eqb false (.tmp 17) (.tmp 19)), some (15, false)⟩
 (.op ⟨some 21, .p (.pick (.tmp 15) (.const (.bool true)) (.tmp 20)), some (11, true)⟩
 (.op ⟨some 22, .p (.pick (.tmp 11) (.tmp 21) (.const (.bool false))), none⟩
 (.op ⟨some 2, .p (.mov (.tmp 22)), none⟩
 (.done))))))))))))))))))))))
 (.op ⟨some 7, .h (.load 48 true (.tmp 1)), some (4, true)⟩
 (.op ⟨some 5, .h (.load 48 true (.tmp 1)), some (4, true)⟩
 (.op ⟨some 6, .call 20 [.tmp 5], some (4, true)⟩
 (.op ⟨some 8, .call 21 [.tmp 7], some (4, true)⟩
 (.op ⟨some 9, .p (.eqb false (.tmp 6) (.tmp 8)), some (4, true)⟩
 (.op ⟨some 10, .p (.pick (.tmp 4) (.tmp 9) (.const (.bool false))), none⟩
 (.op ⟨some 11, .p (.mov (.tmp 10)), none⟩
 (.op ⟨some 12, .h (.load 48 true (.tmp 1)), some (11, true)⟩
 (.op ⟨some 13, .call 21 [.tmp 12], some (11, true)⟩
 (.op ⟨some 14, .p (.un .not (.tmp 13)), some (11, true)⟩
 (.op ⟨some 15, .p (.mov (.tmp 14)), some (11, true)⟩
 (.both (.op ⟨some 16, .h (.load 48 true (.tmp 1)), some (15, false)⟩
 (.both (.op ⟨some 17, .call 22 [.tmp 16], some (15, false)⟩
 (.op ⟨some 18, .h (.load 48 true (.tmp 1)), some (15, false)⟩
 (.op ⟨some 19, .call 23 [.tmp 18], some (15, false)⟩
 (.op ⟨some 20, .p (.eqb false (.tmp 17) (.tmp 19)), some (15, false)⟩
 (.op ⟨some 21, .p (.pick (.tmp 15) (.const (.bool true)) (.tmp 20)), some (11, true)⟩
 (.op ⟨some 22, .p (.pick (.tmp 11) (.tmp 21) (.const (.bool false))), none⟩
 (.op ⟨some 2, .p (.mov (.tmp 22)), none⟩
 (.done))))))))
 (.op ⟨some 18, .h (.load 48 true (.tmp 1)), some (15, false)⟩
 (.op ⟨some 17, .call 22 [.tmp 16], some (15, false)⟩
 (.op ⟨some 19, .call 23 [.tmp 18], some (15, false)⟩
 (.op ⟨some 20, .p (.eqb false (.tmp 17) (.tmp 19)), some (15, false)⟩
 (.op ⟨some 21, .p (.pick (.tmp 15) (.const (.bool true)) (.tmp 20)), some (11, true)⟩
 (.op ⟨some 22, .p (.pick (.tmp 11) (.tmp 21) (.const (.bool false))), none⟩
 (.op ⟨some 2, .p (.mov (.tmp 22)), none⟩
 (.done))))))))))
 (.op ⟨some 18, .h (.load 48 true (.tmp 1)), some (15, false)⟩
 (.op ⟨some 16, .h (.load 48 true (.tmp 1)), some (15, false)⟩
 (.op ⟨some 17, .call 22 [.tmp 16], some (15, false)⟩
 (.op ⟨some 19, .call 23 [.tmp 18], some (15, false)⟩
 (.op ⟨some 20, .p (.eqb false (.tmp 17) (.tmp 19)), some (15, false)⟩
 (.op ⟨some 21, .p (.pick (.tmp 15) (.const (.bool true)) (.tmp 20)), some (11, true)⟩
 (.op ⟨some 22, .p (.pick (.tmp 11) (.tmp 21) (.const (.bool false))), none⟩
 (.op ⟨some 2, .p (.mov (.tmp 22)), none⟩
 (.done)))))))))))))))))))))))))
 (.ret))⟩

theorem cF3 : compF Try.prog aF3.cfg.pm aF3.cfg.lz Try.f3 = some aF3 := by kernel_rfl
theorem kF3 : aF3.ok = true := by kernel_rfl

-- decoupage/decoupagelaw05.ScrollPuts
def aF4 : AFun := ⟨⟨76, [], false⟩, [.tmp 2],
 .seq (.reg (.op ⟨some 2, .p (.mov (.const (.bool false))), none⟩ .done))
 (.seq (.seq (.reg (.op ⟨some 8, .call 24 [], none⟩
 (.op ⟨some 9, .p (.un .not (.tmp 8)), none⟩
 (.op ⟨some 10, .p (.mov (.tmp 9)), none⟩
 (.op ⟨some 11, .p (.mov (.tmp 0)), some (10, false)⟩
 (.op ⟨some 12, .p (.lenS (.tmp 11)), some (10, false)⟩
 (.op ⟨some 13, .p (.int2 .gtr (.tmp 12) (.const (.int .i64 200))), some (10, false)⟩
 (.op ⟨some 14, .p (.pick (.tmp 10) (.const (.bool true)) (.tmp 13)), none⟩ .done))))))))
 (.cond (.tmp 14) (.seq (.reg (.op ⟨some 15, .call 24 [], none⟩
 (.op ⟨some 2, .p (.mov (.tmp 15)), none⟩ .done)))
 (.ret))
 (.skip)))
 (.seq (.reg (.op ⟨some 3, .h (.alloc [.slice none 0 0]), none⟩ .done))
 (.seq (.reg (.op ⟨some 4, .p (.mov (.const (.slice none 0 0))), none⟩ .done))
 (.seq (.seq (.reg (.op ⟨some 16, .p (.mov (.tmp 0)), none⟩
 (.op ⟨some 17, .p (.lenS (.tmp 16)), none⟩
 (.op ⟨some 18, .p (.mov (.const (.int .i64 0))), none⟩ .done))))
 (.block 0 (.loop (.seq (.reg (.op ⟨some 19, .p (.int2 .lss (.tmp 18) (.tmp 17)), none⟩ .done))
 (.seq (.cond (.tmp 19) (.skip)
 (.exit 0))
 (.seq (.block 1 (.seq (.reg (.op ⟨some 20, .p (.mov (.tmp 18)), none⟩
 (.op ⟨some 5, .p (.mov (.tmp 20)), none⟩ .done)))
 (.seq (.seq (.reg (.op ⟨some 21, .p (.mov (.tmp 0)), none⟩
 (.op ⟨some 22, .p (.mov (.tmp 5)), none⟩
 (.op ⟨some 23, .p (.idxS 2 (.tmp 21) (.tmp 22)), none⟩
 (.op ⟨some 24, .p (.fieldAddr 0 (.tmp 23)), none⟩
 (.op ⟨some 25, .h (.load 1 false (.tmp 24)), none⟩ .done))))))
 (.block 2 (.seq (.reg (.op ⟨some 33, .p (.int2 .eql (.tmp 25) (.const (.int .u8 0))), none⟩
 (.op ⟨some 32, .p (.mov (.tmp 33)), none⟩ .done)))
 (.cond (.tmp 32) (.reg (.op ⟨some 34, .p (.mov (.tmp 0)), none⟩
 (.op ⟨some 35, .p (.mov (.tmp 5)), none⟩
 (.op ⟨some 36, .p (.idxS 2 (.tmp 34) (.tmp 35)), none⟩
 (.op ⟨some 37, .p (.fieldAddr 1 (.tmp 36)), none⟩
 (.op ⟨some 38, .h (.load 1 false (.tmp 37)), none⟩
 (.op ⟨some 39, .p (.conv .u8 (.tmp 38)), none⟩
 (.op ⟨some 40, .call 25 [.tmp 3, .tmp 39], none⟩ .done))))))))
 (.seq (.reg (.op ⟨some 42, .p (.int2 .eql (.tmp 25) (.const (.int .u8 1))), none⟩
 (.op ⟨some 41, .p (.mov (.tmp 42)), none⟩ .done)))
 (.cond (.tmp 41) (.reg (.op ⟨some 43, .p (.mov (.tmp 0)), none⟩
 (.op ⟨some 44, .p (.mov (.tmp 5)), none⟩
 (.op ⟨some 45, .p (.idxS 2 (.tmp 43) (.tmp 44)), none⟩
 (.op ⟨some 46, .p (.fieldAddr 1 (.tmp 45)), none⟩
 (.op ⟨some 47, .h (.load 1 false (.tmp 46)), none⟩
 (.op ⟨some 48, .p (.conv .u32 (.tmp 47)), none⟩
 (.op ⟨some 49, .call 26 [.tmp 3, .tmp 48], none⟩ .done))))))))
 (.reg (.op ⟨some 26, .p (.mov (.tmp 0)), none⟩
 (.op ⟨some 27, .p (.mov (.tmp 5)), none⟩
 (.op ⟨some 28, .p (.idxS 2 (.tmp 26) (.tmp 27)), none⟩
 (.op ⟨some 29, .p (.fieldAddr 1 (.tmp 28)), none⟩
 (.op ⟨some 30, .h (.load 1 false (.tmp 29)), none⟩
 (.op ⟨some 31, .call 27 [.tmp 3, .tmp 30], none⟩ .done)))))))))))))
 (.reg (.op ⟨some 50, .p (.mov (.tmp 4)), none⟩
 (.op ⟨some 51, .p (.mov (.tmp 0)), none⟩
 (.op ⟨some 52, .p (.mov (.tmp 5)), none⟩
 (.op ⟨some 53, .p (.idxS 2 (.tmp 51) (.tmp 52)), none⟩
 (.op ⟨some 54, .h (.load 2 true (.tmp 53)), none⟩
 (.op ⟨some 55, .call 28 [.tmp 54], none⟩
 (.op ⟨some 56, .h (.append 1 1 (.tmp 50) (.tmp 55)), none⟩
 (.op ⟨some 4, .p (.mov (.tmp 56)), none⟩ .done))))))))))))
 (.reg (.op ⟨some 57, .p (.int2 .add (.tmp 18) (.const (.int .i64 1))), none⟩
 (.op ⟨some 18, .p (.mov (.tmp 57)), none⟩ .done)))))))))
 (.seq (.reg (.op ⟨some 58, .call 29 [.tmp 3], none⟩
 (.op ⟨some 6, .p (.mov (.tmp 58)), none⟩ .done)))
 (.seq (.seq (.reg (.op ⟨some 59, .p (.mov (.tmp 6)), none⟩
 (.op ⟨some 60, .p (.lenS (.tmp 59)), none⟩
 (.op ⟨some 61, .p (.mov (.const (.int .i64 0))), none⟩ .done))))
 (.block 3 (.loop (.seq (.reg (.op ⟨some 62, .p (.int2 .lss (.tmp 61) (.tmp 60)), none⟩ .done))
 (.seq (.cond (.tmp 62) (.skip)
 (.exit 3))
 (.seq (.block 4 (.seq (.reg (.op ⟨some 63, .p (.mov (.tmp 61)), none⟩
 (.op ⟨some 7, .p (.mov (.tmp 63)), none⟩ .done)))
 (.reg (.op ⟨some 64, .p (.mov (.tmp 6)), none⟩
 (.op ⟨some 65, .p (.mov (.tmp 7)), none⟩
 (.op ⟨some 66, .p (.idxS 1 (.tmp 64) (.tmp 65)), none⟩
 (.op ⟨some 67, .h (.load 1 false (.tmp 66)), none⟩
 (.op ⟨some 68, .p (.int2 .add (.tmp 67) (.const (.int .u8 1))), none⟩
 (.op ⟨some 69, .p (.idxS 1 (.tmp 64) (.tmp 65)), none⟩
 (.op ⟨none, .h (.store 1 (.tmp 69) (.tmp 68)), none⟩ .done))))))))))
 (.reg (.op ⟨some 70, .p (.int2 .add (.tmp 61) (.const (.int .i64 1))), none⟩
 (.op ⟨some 61, .p (.mov (.tmp 70)), none⟩ .done)))))))))
 (.seq (.reg (.op ⟨some 73, .p (.mov (.tmp 4)), none⟩
 (.both (.op ⟨some 71, .call 29 [.tmp 3], none⟩
 (.both (.op ⟨some 72, .h (.b2s (.tmp 71)), none⟩
 (.op ⟨some 74, .h (.b2s (.tmp 73)), none⟩
 (.op ⟨some 75, .p (.eqs false (.tmp 72) (.tmp 74)), none⟩
 (.op ⟨some 2, .p (.mov (.tmp 75)), none⟩
 (.done)))))
 (.op ⟨some 74, .h (.b2s (.tmp 73)), none⟩
 (.op ⟨some 72, .h (.b2s (.tmp 71)), none⟩
 (.op ⟨some 75, .p (.eqs false (.tmp 72) (.tmp 74)), none⟩
 (.op ⟨some 2, .p (.mov (.tmp 75)), none⟩
 (.done)))))))
 (.op ⟨some 74, .h (.b2s (.tmp 73)), none⟩
 (.op ⟨some 71, .call 29 [.tmp 3], none⟩
 (.op ⟨some 72, .h (.b2s (.tmp 71)), none⟩
 (.op ⟨some 75, .p (.eqs false (.tmp 72) (.tmp 74)), none⟩
 (.op ⟨some 2, .p (.mov (.tmp 75)), none⟩
 (.done)))))))))
 (.ret))))))))⟩

theorem cF4 : compF Try.prog aF4.cfg.pm aF4.cfg.lz Try.f4 = some aF4 := by kernel_rfl
theorem kF4 : aF4.ok = true := by kernel_rfl

-- decoupage/decoupagelaw05.ScrollBack
def aF5 : AFun := ⟨⟨66, [], false⟩, [.tmp 2],
 .seq (.reg (.op ⟨some 2, .p (.mov (.const (.bool false))), none⟩ .done))
 (.seq (.seq (.reg (.op ⟨some 7, .call 24 [], none⟩
 (.op ⟨some 8, .p (.un .not (.tmp 7)), none⟩
 (.op ⟨some 9, .p (.mov (.tmp 8)), none⟩
 (.op ⟨some 10, .p (.mov (.tmp 0)), some (9, false)⟩
 (.op ⟨some 11, .p (.lenS (.tmp 10)), some (9, false)⟩
 (.op ⟨some 12, .p (.int2 .gtr (.tmp 11) (.const (.int .i64 100))), some (9, false)⟩
 (.op ⟨some 13, .p (.pick (.tmp 9) (.const (.bool true)) (.tmp 12)), none⟩ .done))))))))
 (.cond (.tmp 13) (.seq (.reg (.op ⟨some 14, .call 24 [], none⟩
 (.op ⟨some 2, .p (.mov (.tmp 14)), none⟩ .done)))
 (.ret))
 (.skip)))
 (.seq (.reg (.op ⟨some 3, .h (.alloc [.slice none 0 0]), none⟩ .done))
 (.seq (.seq (.reg (.op ⟨some 15, .p (.mov (.tmp 0)), none⟩
 (.op ⟨some 16, .p (.lenS (.tmp 15)), none⟩
 (.op ⟨some 17, .p (.mov (.const (.int .i64 0))), none⟩ .done))))
 (.block 0 (.loop (.seq (.reg (.op ⟨some 18, .p (.int2 .lss (.tmp 17) (.tmp 16)), none⟩ .done))
 (.seq (.cond (.tmp 18) (.skip)
 (.exit 0))
 (.seq (.block 1 (.seq (.reg (.op ⟨some 19, .p (.mov (.tmp 17)), none⟩
 (.op ⟨some 4, .p (.mov (.tmp 19)), none⟩ .done)))
 (.seq (.reg (.op ⟨some 20, .p (.mov (.tmp 0)), none⟩
 (.op ⟨some 21, .p (.mov (.tmp 4)), none⟩
 (.op ⟨some 22, .p (.idxS 2 (.tmp 20) (.tmp 21)), none⟩
 (.op ⟨some 23, .p (.fieldAddr 1 (.tmp 22)), none⟩
 (.op ⟨some 24, .h (.load 1 false (.tmp 23)), none⟩
 (.op ⟨some 25, .call 27 [.tmp 3, .tmp 24], none⟩ .done)))))))
 (.reg (.op ⟨some 26, .p (.mov (.tmp 0)), none⟩
 (.op ⟨some 27, .p (.mov (.tmp 4)), none⟩
 (.op ⟨some 28, .p (.idxS 2 (.tmp 26) (.tmp 27)), none⟩
 (.op ⟨some 29, .p (.fieldAddr 0 (.tmp 28)), none⟩
 (.op ⟨some 30, .h (.load 1 false (.tmp 29)), none⟩
 (.op ⟨some 31, .call 25 [.tmp 3, .tmp 30], none⟩ .done))))))))))
 (.reg (.op ⟨some 32, .p (.int2 .add (.tmp 17) (.const (.int .i64 1))), none⟩
 (.op ⟨some 17, .p (.mov (.tmp 32)), none⟩ .done)))))))))
 (.seq (.reg (.op ⟨some 33, .call 29 [.tmp 3], none⟩
 (.op ⟨some 34, .call 30 [.tmp 33], none⟩
 (.op ⟨some 5, .p (.mov (.tmp 34)), none⟩ .done))))
 (.seq (.seq (.reg (.op ⟨some 35, .p (.mov (.tmp 0)), none⟩
 (.op ⟨some 36, .p (.lenS (.tmp 35)), none⟩
 (.op ⟨some 37, .p (.mov (.const (.int .i64 0))), none⟩ .done))))
 (.block 2 (.loop (.seq (.reg (.op ⟨some 38, .p (.int2 .lss (.tmp 37) (.tmp 36)), none⟩ .done))
 (.seq (.cond (.tmp 38) (.skip)
 (.exit 2))
 (.seq (.block 3 (.seq (.reg (.op ⟨some 39, .p (.mov (.tmp 37)), none⟩
 (.op ⟨some 6, .p (.mov (.tmp 39)), none⟩ .done)))
 (.seq (.reg (.op ⟨some 40, .p (.mov (.tmp 5)), none⟩
 (.op ⟨some 42, .p (.mov (.tmp 0)), none⟩
 (.op ⟨some 43, .p (.mov (.tmp 6)), none⟩
 (.op ⟨some 44, .p (.idxS 2 (.tmp 42) (.tmp 43)), none⟩
 (.op ⟨some 45, .p (.fieldAddr 1 (.tmp 44)), none⟩
 (.both (.op ⟨some 41, .call 31 [.tmp 40], none⟩
 (.op ⟨some 46, .h (.load 1 false (.tmp 45)), none⟩
 (.op ⟨some 47, .p (.int2 .neq (.tmp 41) (.tmp 46)), none⟩
 (.op ⟨some 48, .p (.mov (.tmp 47)), none⟩
 (.op ⟨some 49, .p (.mov (.tmp 5)), some (48, false)⟩
 (.op ⟨some 51, .p (.mov (.tmp 0)), some (48, false)⟩
 (.op ⟨some 52, .p (.mov (.tmp 6)), some (48, false)⟩
 (.op ⟨some 53, .p (.idxS 2 (.tmp 51) (.tmp 52)), some (48, false)⟩
 (.op ⟨some 54, .p (.fieldAddr 0 (.tmp 53)), some (48, false)⟩
 (.both (.op ⟨some 50, .call 32 [.tmp 49], some (48, false)⟩
 (.op ⟨some 55, .h (.load 1 false (.tmp 54)), some (48, false)⟩
 (.op ⟨some 56, .p (.int2 .neq (.tmp 50) (.tmp 55)), some (48, false)⟩
 (.op ⟨some 57, .p (.pick (.tmp 48) (.const (.bool true)) (.tmp 56)), none⟩
 (.done)))))
 (.op ⟨some 55, .h (.load 1 false (.tmp 54)), some (48, false)⟩
 (.op ⟨some 50, .call 32 [.tmp 49], some (48, false)⟩
 (.op ⟨some 56, .p (.int2 .neq (.tmp 50) (.tmp 55)), some (48, false)⟩
 (.op ⟨some 57, .p (.pick (.tmp 48) (.const (.bool true)) (.tmp 56)), none⟩
 (.done)))))))))))))))
 (.op ⟨some 46, .h (.load 1 false (.tmp 45)), none⟩
 (.op ⟨some 41, .call 31 [.tmp 40], none⟩
 (.op ⟨some 47, .p (.int2 .neq (.tmp 41) (.tmp 46)), none⟩
 (.op ⟨some 48, .p (.mov (.tmp 47)), none⟩
 (.op ⟨some 49, .p (.mov (.tmp 5)), some (48, false)⟩
 (.op ⟨some 51, .p (.mov (.tmp 0)), some (48, false)⟩
 (.op ⟨some 52, .p (.mov (.tmp 6)), some (48, false)⟩
 (.op ⟨some 53, .p (.idxS 2 (.tmp 51) (.tmp 52)), some (48, false)⟩
 (.op ⟨some 54, .p (.fieldAddr 0 (.tmp 53)), some (48, false)⟩
 (.both (.op ⟨some 50, .call 32 [.tmp 49], some (48, false)⟩
 (.op ⟨some 55, .h (.load 1 false (.tmp 54)), some (48, false)⟩
 (.op ⟨some 56, .p (.int2 .neq (.tmp 50) (.tmp 55)), some (48, false)⟩
 (.op ⟨some 57, .p (.pick (.tmp 48) (.const (.bool true)) (.tmp 56)), none⟩
 (.done)))))
 (.op ⟨some 55, .h (.load 1 false (.tmp 54)), some (48, false)⟩
 (.op ⟨some 50, .call 32 [.tmp 49], some (48, false)⟩
 (.op ⟨some 56, .p (.int2 .neq (.tmp 50) (.tmp 55)), some (48, false)⟩
 (.op ⟨some 57, .p (.pick (.tmp 48) (.const (.bool true)) (.tmp 56)), none⟩
 (.done))))))))))))))))))))))
 (.cond (.tmp 57) (.seq (.reg (.op ⟨some 2, .p (.mov (.const (.bool false))), none⟩ .done))
 (.ret))
 (.skip)))))
 (.reg (.op ⟨some 58, .p (.int2 .add (.tmp 37) (.const (.int .i64 1))), none⟩
 (.op ⟨some 37, .p (.mov (.tmp 58)), none⟩ .done)))))))))
 (.seq (.reg (.op ⟨some 59, .p (.mov (.tmp 5)), none⟩
 (.op ⟨some 60, .call 33 [.tmp 59], none⟩
 (.op ⟨some 61, .p (.mov (.tmp 60)), none⟩
 (.op ⟨some 62, .p (.mov (.tmp 5)), some (61, true)⟩
 (.op ⟨some 63, .call 34 [.tmp 62], some (61, true)⟩
 (.op ⟨some 64, .p (.un .not (.tmp 63)), some (61, true)⟩
 (.op ⟨some 65, .p (.pick (.tmp 61) (.tmp 64) (.const (.bool false))), none⟩
 (.op ⟨some 2, .p (.mov (.tmp 65)), none⟩ .done)))))))))
 (.ret)))))))⟩

theorem cF5 : compF Try.prog aF5.cfg.pm aF5.cfg.lz Try.f5 = some aF5 := by kernel_rfl
theorem kF5 : aF5.ok = true := by kernel_rfl

-- decoupage/decoupagelaw05.ScrollTakes
def aF6 : AFun := ⟨⟨108, [], false⟩, [.tmp 4],
 .seq (.reg (.op ⟨some 4, .p (.mov (.const (.bool false))), none⟩ .done))
 (.seq (.seq (.reg (.op ⟨some 10, .call 24 [], none⟩
 (.op ⟨some 11, .p (.un .not (.tmp 10)), none⟩
 (.op ⟨some 12, .p (.mov (.tmp 11)), none⟩
 (.op ⟨some 13, .p (.mov (.tmp 0)), some (12, false)⟩
 (.op ⟨some 14, .p (.lenS (.tmp 13)), some (12, false)⟩
 (.op ⟨some 15, .p (.int2 .gtr (.tmp 14) (.const (.int .i64 500))), some (12, false)⟩
 (.op ⟨some 16, .p (.pick (.tmp 12) (.const (.bool true)) (.tmp 15)), none⟩
 (.op ⟨some 17, .p (.mov (.tmp 16)), none⟩
 (.op ⟨some 18, .p (.mov (.tmp 1)), some (17, false)⟩
 (.op ⟨some 19, .p (.lenS (.tmp 18)), some (17, false)⟩
 (.op ⟨some 20, .p (.int2 .gtr (.tmp 19) (.const (.int .i64 60))), some (17, false)⟩
 (.op ⟨some 21, .p (.pick (.tmp 17) (.const (.bool true)) (.tmp 20)), none⟩ .done)))))))))))))
 (.cond (.tmp 21) (.seq (.reg (.op ⟨some 22, .call 24 [], none⟩
 (.op ⟨some 4, .p (.mov (.tmp 22)), none⟩ .done)))
 (.ret))
 (.skip)))
 (.seq (.reg (.op ⟨some 23, .p (.mov (.tmp 0)), none⟩
 (.op ⟨some 24, .call 30 [.tmp 23], none⟩
 (.op ⟨some 5, .p (.mov (.tmp 24)), none⟩ .done))))
 (.seq (.reg (.op ⟨some 25, .p (.mov (.tmp 0)), none⟩
 (.op ⟨some 26, .p (.build [.slice none 0 0, .bool false] [(0, 1, .tmp 25)]), none⟩
 (.op ⟨some 6, .h (.alloc [.slice none 0 0, .bool false]), none⟩
 (.op ⟨none, .h (.store 2 (.tmp 6) (.tmp 26)), none⟩ .done)))))
 (.seq (.seq (.reg (.op ⟨some 27, .p (.mov (.tmp 1)), none⟩
 (.op ⟨some 28, .p (.lenS (.tmp 27)), none⟩
 (.op ⟨some 29, .p (.mov (.const (.int .i64 0))), none⟩ .done))))
 (.block 0 (.loop (.seq (.reg (.op ⟨some 30, .p (.int2 .lss (.tmp 29) (.tmp 28)), none⟩ .done))
 (.seq (.cond (.tmp 30) (.skip)
 (.exit 0))
 (.seq (.block 1 (.seq (.reg (.op ⟨some 31, .p (.mov (.tmp 29)), none⟩
 (.op ⟨some 7, .p (.mov (.tmp 31)), none⟩ .done)))
 (.seq (.reg (.op ⟨some 8, .p (.mov (.const (.int .u64 0))), none⟩
 (.op ⟨some 9, .p (.mov (.const (.int .u64 0))), none⟩ .done)))
 (.seq (.seq (.reg (.op ⟨some 32, .p (.mov (.tmp 1)), none⟩
 (.op ⟨some 33, .p (.mov (.tmp 7)), none⟩
 (.op ⟨some 34, .p (.idxS 1 (.tmp 32) (.tmp 33)), none⟩
 (.op ⟨some 35, .h (.load 1 false (.tmp 34)), none⟩
 (.op ⟨some 36, .p (.int2 .rem (.tmp 35) (.const (.int .u8 4))), none⟩ .done))))))
 (.block 2 (.seq (.reg (.op ⟨some 46, .p (.int2 .eql (.tmp 36) (.const (.int .u8 0))), none⟩
 (.op ⟨some 45, .p (.mov (.tmp 46)), none⟩ .done)))
 (.cond (.tmp 45) (.seq (.reg (.op ⟨some 47, .p (.mov (.tmp 5)), none⟩
 (.op ⟨some 48, .call 32 [.tmp 47], none⟩
 (.op ⟨some 49, .p (.conv .u64 (.tmp 48)), none⟩
 (.op ⟨some 8, .p (.mov (.tmp 49)), none⟩ .done)))))
 (.reg (.op ⟨some 51, .h (.load 2 true (.tmp 6)), none⟩
 (.op ⟨some 52, .call 35 [.tmp 51, .const (.int .i64 1)], none⟩
 (.op ⟨some 50, .p (.mov (.tmp 52)), none⟩
 (.op ⟨some 53, .p (.extract (.tmp 50) 0), none⟩
 (.op ⟨some 54, .p (.extract (.tmp 50) 1), none⟩
 (.op ⟨some 9, .p (.mov (.tmp 53)), none⟩
 (.op ⟨none, .h (.store 2 (.tmp 6) (.tmp 54)), none⟩ .done)))))))))
 (.seq (.reg (.op ⟨some 56, .p (.int2 .eql (.tmp 36) (.const (.int .u8 1))), none⟩
 (.op ⟨some 55, .p (.mov (.tmp 56)), none⟩ .done)))
 (.cond (.tmp 55) (.seq (.reg (.op ⟨some 57, .p (.mov (.tmp 5)), none⟩
 (.op ⟨some 58, .call 36 [.tmp 57], none⟩
 (.op ⟨some 59, .p (.conv .u64 (.tmp 58)), none⟩
 (.op ⟨some 8, .p (.mov (.tmp 59)), none⟩ .done)))))
 (.reg (.op ⟨some 61, .h (.load 2 true (.tmp 6)), none⟩
 (.op ⟨some 62, .call 35 [.tmp 61, .const (.int .i64 4)], none⟩
 (.op ⟨some 60, .p (.mov (.tmp 62)), none⟩
 (.op ⟨some 63, .p (.extract (.tmp 60) 0), none⟩
 (.op ⟨some 64, .p (.extract (.tmp 60) 1), none⟩
 (.op ⟨some 9, .p (.mov (.tmp 63)), none⟩
 (.op ⟨none, .h (.store 2 (.tmp 6) (.tmp 64)), none⟩ .done)))))))))
 (.seq (.reg (.op ⟨some 66, .p (.int2 .eql (.tmp 36) (.const (.int .u8 2))), none⟩
 (.op ⟨some 65, .p (.mov (.tmp 66)), none⟩ .done)))
 (.cond (.tmp 65) (.seq (.reg (.op ⟨some 67, .p (.mov (.tmp 5)), none⟩
 (.op ⟨some 68, .call 31 [.tmp 67], none⟩
 (.op ⟨some 69, .p (.conv .u64 (.tmp 68)), none⟩
 (.op ⟨some 8, .p (.mov (.tmp 69)), none⟩ .done)))))
 (.reg (.op ⟨some 71, .h (.load 2 true (.tmp 6)), none⟩
 (.op ⟨some 72, .call 35 [.tmp 71, .const (.int .i64 8)], none⟩
 (.op ⟨some 70, .p (.mov (.tmp 72)), none⟩
 (.op ⟨some 73, .p (.extract (.tmp 70) 0), none⟩
 (.op ⟨some 74, .p (.extract (.tmp 70) 1), none⟩
 (.op ⟨some 9, .p (.mov (.tmp 73)), none⟩
 (.op ⟨none, .h (.store 2 (.tmp 6) (.tmp 74)), none⟩ .done)))))))))
 (.seq (.reg (.op ⟨some 37, .p (.mov (.tmp 1)), none⟩
 (.op ⟨some 38, .p (.mov (.tmp 7)), none⟩
 (.op ⟨some 39, .p (.idxS 1 (.tmp 37) (.tmp 38)), none⟩
 (.op ⟨some 40, .h (.load 1 false (.tmp 39)), none⟩
 (.op ⟨some 41, .p (.int2 .gtr (.tmp 40) (.const (.int .u8 250))), none⟩ .done))))))
 (.cond (.tmp 41) (.seq (.reg (.op ⟨some 42, .p (.mov (.tmp 5)), none⟩
 (.op ⟨some 43, .call 37 [.tmp 42], none⟩ .done)))
 (.reg (.op ⟨some 44, .p (.build [.slice none 0 0, .bool false] [(1, 1, .const (.bool true))]), none⟩
 (.op ⟨none, .h (.store 2 (.tmp 6) (.tmp 44)), none⟩ .done))))
 (.skip)))))))))))
 (.seq (.reg (.op ⟨some 75, .p (.mov (.tmp 8)), none⟩
 (.op ⟨some 76, .p (.mov (.tmp 9)), none⟩
 (.op ⟨some 77, .p (.int2 .neq (.tmp 75) (.tmp 76)), none⟩
 (.op ⟨some 78, .p (.mov (.tmp 77)), none⟩
 (.op ⟨some 79, .p (.mov (.tmp 5)), some (78, false)⟩
 (.op ⟨some 81, .p (.fieldAddr 1 (.tmp 6)), some (78, false)⟩
 (.both (.op ⟨some 80, .call 34 [.tmp 79], some (78, false)⟩
 (.op ⟨some 82, .h (.load 1 false (.tmp 81)), some (78, false)⟩
 (.op ⟨some 83, .p (.eqb true (.tmp 80) (.tmp 82)), some (78, false)⟩
 (.op ⟨some 84, .p (.pick (.tmp 78) (.const (.bool true)) (.tmp 83)), none⟩
 (.op ⟨some 85, .p (.mov (.tmp 84)), none⟩
 (.op ⟨some 86, .p (.mov (.tmp 5)), some (85, false)⟩
 (.op ⟨some 88, .p (.fieldAddr 0 (.tmp 6)), some (85, false)⟩
 (.both (.op ⟨some 87, .call 38 [.tmp 86], some (85, false)⟩
 (.op ⟨some 89, .h (.load 1 false (.tmp 88)), some (85, false)⟩
 (.op ⟨some 90, .p (.lenS (.tmp 89)), some (85, false)⟩
 (.op ⟨some 91, .p (.int2 .neq (.tmp 87) (.tmp 90)), some (85, false)⟩
 (.op ⟨some 92, .p (.pick (.tmp 85) (.const (.bool true)) (.tmp 91)), none⟩
 (.op ⟨some 93, .p (.mov (.tmp 92)), none⟩
 (.op ⟨some 94, .p (.mov (.tmp 5)), some (93, false)⟩
 (.op ⟨some 96, .p (.fieldAddr 1 (.tmp 6)), some (93, false)⟩
 (.both (.op ⟨some 95, .call 33 [.tmp 94], some (93, false)⟩
 (.op ⟨some 97, .h (.load 1 false (.tmp 96)), some (93, false)⟩
 (.op ⟨some 98, .p (.un .not (.tmp 97)), some (93, false)⟩
 (.op ⟨some 99, .p (.mov (.tmp 98)), some (93, false)⟩
 (.op ⟨some 100, .p (.fieldAddr 0 (.tmp 6)), some (99, true)⟩
 (.op ⟨some 101, .h (.load 1 false (.tmp 100)), some (99, true)⟩
 (.op ⟨some 102, .p (.lenS (.tmp 101)), some (99, true)⟩
 (.op ⟨some 103, .p (.int2 .eql (.tmp 102) (.const (.int .i64 0))), some (99, true)⟩
 (.op ⟨some 104, .p (.pick (.tmp 99) (.tmp 103) (.const (.bool false))), some (93, false)⟩
 (.op ⟨some 105, .p (.eqb true (.tmp 95) (.tmp 104)), some (93, false)⟩
 (.op ⟨some 106, .p (.pick (.tmp 93) (.const (.bool true)) (.tmp 105)), none⟩
 (.done))))))))))))
 (.op ⟨some 97, .h (.load 1 false (.tmp 96)), some (93, false)⟩
 (.op ⟨some 98, .p (.un .not (.tmp 97)), some (93, false)⟩
 (.op ⟨some 95, .call 33 [.tmp 94], some (93, false)⟩
 (.op ⟨some 99, .p (.mov (.tmp 98)), some (93, false)⟩
 (.op ⟨some 100, .p (.fieldAddr 0 (.tmp 6)), some (99, true)⟩
 (.op ⟨some 101, .h (.load 1 false (.tmp 100)), some (99, true)⟩
 (.op ⟨some 102, .p (.lenS (.tmp 101)), some (99, true)⟩
 (.op ⟨some 103, .p (.int2 .eql (.tmp 102) (.const (.int .i64 0))), some (99, true)⟩
 (.op ⟨some 104, .p (.pick (.tmp 99) (.tmp 103) (.const (.bool false))), some (93, false)⟩
 (.op ⟨some 105, .p (.eqb true (.tmp 95) (.tmp 104)), some (93, false)⟩
 (.op ⟨some 106, .p (.pick (.tmp 93) (.const (.bool true)) (.tmp 105)), none⟩
 (.done)))))))))))))))))))))
 (.op ⟨some 89, .h (.load 1 false (.tmp 88)), some (85, false)⟩
 (.op ⟨some 90, .p (.lenS (.tmp 89)), some (85, false)⟩
 (.op ⟨some 87, .call 38 [.tmp 86], some (85, false)⟩
 (.op ⟨some 91, .p (.int2 .neq (.tmp 87) (.tmp 90)), some (85, false)⟩
 (.op ⟨some 92, .p (.pick (.tmp 85) (.const (.bool true)) (.tmp 91)), none⟩
 (.op ⟨some 93, .p (.mov (.tmp 92)), none⟩
 (.op ⟨some 94, .p (.mov (.tmp 5)), some (93, false)⟩
 (.op ⟨some 96, .p (.fieldAddr 1 (.tmp 6)), some (93, false)⟩
 (.both (.op ⟨some 95, .call 33 [.tmp 94], some (93, false)⟩
 (.op ⟨some 97, .h (.load 1 false (.tmp 96)), some (93, false)⟩
 (.op ⟨some 98, .p (.un .not (.tmp 97)), some (93, false)⟩
 (.op ⟨some 99, .p (.mov (.tmp 98)), some (93, false)⟩
 (.op ⟨some 100, .p (.fieldAddr 0 (.tmp 6)), some (99, true)⟩
 (.op ⟨some 101, .h (.load 1 false (.tmp 100)), some (99, true)⟩
 (.op ⟨some 102, .p (.lenS (.tmp 101)), some (99, true)⟩
 (.op ⟨some 103, .p (.int2 .eql (.tmp 102) (.const (.int .i64 0))), some (99, true)⟩
 (.op ⟨some 104, .p (.pick (.tmp 99) (.tmp 103) (.const (.bool false))), some (93, false)⟩
 (.op ⟨some 105, .p (.eqb true (.tmp 95) (.tmp 104)), some (93, false)⟩
 (.op ⟨some 106, .p (.pick (.tmp 93) (.const (.bool true)) (.tmp 105)), none⟩
 (.done))))))))))))
 (.op ⟨some 97, .h (.load 1 false (.tmp 96)), some (93, false)⟩
 (.op ⟨some 98, .p (.un .not (.tmp 97)), some (93, false)⟩
 (.op ⟨some 95, .call 33 [.tmp 94], some (93, false)⟩
 (.op ⟨some 99, .p (.mov (.tmp 98)), some (93, false)⟩
 (.op ⟨some 100, .p (.fieldAddr 0 (.tmp 6)), some (99, true)⟩
 (.op ⟨some 101, .h (.load 1 false (.tmp 100)), some (99, true)⟩
 (.op ⟨some 102, .p (.lenS (.tmp 101)), some (99, true)⟩
 (.op ⟨some 103, .p (.int2 .eql (.tmp 102) (.const (.int .i64 0))), some (99, true)⟩
 (.op ⟨some 104, .p (.pick (.tmp 99) (.tmp 103) (.const (.bool false))), some (93, false)⟩
 (.op ⟨some 105, .p (.eqb true (.tmp 95) (.tmp 104)), some (93, false)⟩
 (.op ⟨some 106, .p (.pick (.tmp 93) (.const (.bool true)) (.tmp 105)), none⟩
 (.done)))))))))))))))))))))))))))))
 (.op ⟨some 82, .h (.load 1 false (.tmp 81)), some (78, false)⟩
 (.op ⟨some 80, .call 34 [.tmp 79], some (78, false)⟩
 (.op ⟨some 83, .p (.eqb true (.tmp 80) (.tmp 82)), some (78, false)⟩
 (.op ⟨some 84, .p (.pick (.tmp 78) (.const (.bool true)) (.tmp 83)), none⟩
 (.op ⟨some 85, .p (.mov (.tmp 84)), none⟩
 (.op ⟨some 86, .p (.mov (.tmp 5)), some (85, false)⟩
 (.op ⟨some 88, .p (.fieldAddr 0 (.tmp 6)), some (85, false)⟩
 (.both (.op ⟨some 87, .call 38 [.tmp 86], some (85, false)⟩
 (.op ⟨some 89, .h (.load 1 false (.tmp 88)), some (85, false)⟩
 (.op ⟨some 90, .p (.lenS (.tmp 89)), some (85, false)⟩
 (.op ⟨some 91, .p (.int2 .neq (.tmp 87) (.tmp 90)), some (85, false)⟩
 (.op ⟨some 92, .p (.pick (.tmp 85) (.const (.bool true)) (.tmp 91)), none⟩
 (.op ⟨some 93, .p (.mov (.tmp 92)), none⟩
 (.op ⟨some 94, .p (.mov (.tmp 5)), some (93, false)⟩
 (.op ⟨some 96, .p (.fieldAddr 1 (.tmp 6)), some (93, false)⟩
 (.both (.op ⟨some 95, .call 33 [.tmp 94], some (93, false)⟩
 (.op ⟨some 97, .h (.load 1 false (.tmp 96)), some (93, false)⟩
 (.op ⟨some 98, .p (.un .not (.tmp 97)), some (93, false)⟩
 (.op ⟨some 99, .p (.mov (.tmp 98)), some (93, false)⟩
 (.op ⟨some 100, .p (.fieldAddr 0 (.tmp 6)), some (99, true)⟩
 (.op ⟨some 101, .h (.load 1 false (.tmp 100)), some (99, true)⟩
 (.op ⟨some 102, .p (.lenS (.tmp 101)), some (99, true)⟩
 (.op ⟨some 103, .p (.int2 .eql (.tmp 102) (.const (.int .i64 0))), some (99, true)⟩
 (.op ⟨some 104, .p (.pick (.tmp 99) (.tmp 103) (.const (.bool false))), some (93, false)⟩
 (.op ⟨some 105, .p (.eqb true (.tmp 95) (.tmp 104)), some (93, false)⟩
 (.op ⟨some 106, .p (.pick (.tmp 93) (.const (.bool true)) (.tmp 105)), none⟩
 (.done))))))))))))
 (.op ⟨some 97, .h (.load 1 false (.tmp 96)), some (93, false)⟩
 (.op ⟨some 98, .p (.un .not (.tmp 97)), some (93, false)⟩
 (.op ⟨some 95, .call 33 [.tmp 94], some (93, false)⟩
 (.op ⟨some 99, .p (.mov (.tmp 98)), some (93, false)⟩
 (.op ⟨some 100, .p (.fieldAddr 0 (.tmp 6)), some (99, true)⟩
 (.op ⟨some 101, .h (.load 1 false (.tmp 100)), some (99, true)⟩
 (.op ⟨some 102, .p (.lenS (.tmp 101)), some (99, true)⟩
 (.op ⟨some 103, .p (.int2 .eql (.tmp 102) (.const (.int .i64 0))), some (99, true)⟩
 (.op ⟨some 104, .p (.pick (.tmp 99) (.tmp 103) (.const (.bool false))), some (93, false)⟩
 (.op ⟨some 105, .p (.eqb true (.tmp 95) (.tmp 104)), some (93, false)⟩
 (.op ⟨some 106, .p (.pick (.tmp 93) (.const (.bool true)) (.tmp 105)), none⟩
 (.done)))))))))))))))))))))
 (.op ⟨some 89, .h (.load 1 false (.tmp 88)), some (85, false)⟩
 (.op ⟨some 90, .p (.lenS (.tmp 89)), some (85, false)⟩
 (.op ⟨some 87, .call 38 [.tmp 86], some (85, false)⟩
 (.op ⟨some 91, .p (.int2 .neq (.tmp 87) (.tmp 90)), some (85, false)⟩
 (.op ⟨some 92, .p (.pick (.tmp 85) (.const (.bool true)) (.tmp 91)), none⟩
 (.op ⟨some 93, .p (.mov (.tmp 92)), none⟩
 (.op ⟨some 94, .p (.mov (.tmp 5)), some (93, false)⟩
 (.op ⟨some 96, .p (.fieldAddr 1 (.tmp 6)), some (93, false)⟩
 (.both (.op ⟨some 95, .call 33 [.tmp 94], some (93, false)⟩
 (.op ⟨some 97, .h (.load 1 false (.tmp 96)), some (93, false)⟩
 (.op ⟨some 98, .p (.un .not (.tmp 97)), some (93, false)⟩
 (.op ⟨some 99, .p (.mov (.tmp 98)), some (93, false)⟩
 (.op ⟨some 100, .p (.fieldAddr 0 (.tmp 6)), some (99, true)⟩
 (.op ⟨some 101, .h (.load 1 false (.tmp 100)), some (99, true)⟩
 (.op ⟨some 102, .p (.lenS (.tmp 101)), some (99, true)⟩
 (.op ⟨some 103, .p (.int2 .eql (.tmp 102) (.const (.int .i64 0))), some (99, true)⟩
 (.op ⟨some 104, .p (.pick (.tmp 99) (.tmp 103) (.const (.bool false))), some (93, false)⟩
 (.op ⟨some 105, .p (.eqb true (.tmp 95) (.tmp 104)), some (93, false)⟩
 (.op ⟨some 106, .p (.pick (.tmp 93) (.const (.bool true)) (.tmp 105)), none⟩
 (.done))))))))))))
 (.op ⟨some 97, .h (.load 1 false (.tmp 96)), some (93, false)⟩
 (.op ⟨some 98, .p (.un .not (.tmp 97)), some (93, false)⟩
 (.op ⟨some 95, .call 33 [.tmp 94], some (93, false)⟩
 (.op ⟨some 99, .p (.mov (.tmp 98)), some (93, false)⟩
 (.op ⟨some 100, .p (.fieldAddr 0 (.tmp 6)), some (99, true)⟩
 (.op ⟨some 101, .h (.load 1 false (.tmp 100)), some (99, true)⟩
 (.op ⟨some 102, .p (.lenS (.tmp 101)), some (99, true)⟩
 (.op ⟨some 103, .p (.int2 .eql (.tmp 102) (.const (.int .i64 0))), some (99, true)⟩
 (.op ⟨some 104, .p (.pick (.tmp 99) (.tmp 103) (.const (.bool false))), some (93, false)⟩
 (.op ⟨some 105, .p (.eqb true (.tmp 95) (.tmp 104)), some (93, false)⟩
 (.op ⟨some 106, .p (.pick (.tmp 93) (.const (.bool true)) (.tmp 105)), none⟩
 (.done)))))))))))))))))))))))))))))))))))))
 (.cond (.tmp 106) (.seq (.reg (.op ⟨some 4, .p (.mov (.const (.bool false))), none⟩ .done))
 (.ret))
 (.skip)))))))
 (.reg (.op ⟨some 107, .p (.int2 .add (.tmp 29) (.const (.int .i64 1))), none⟩
 (.op ⟨some 29, .p (.mov (.tmp 107)), none⟩ .done)))))))))
 (.seq (.reg (.op ⟨some 4, .p (.mov (.const (.bool true))), none⟩ .done))
 (.ret))))))⟩

theorem cF6 : compF Try.prog aF6.cfg.pm aF6.cfg.lz Try.f6 = some aF6 := by kernel_rfl
theorem kF6 : aF6.ok = true := by kernel_rfl

-- decoupage/decoupagelaw05.ScrollNil
def aF7 : AFun := ⟨⟨42, [], false⟩, [.tmp 2],
 .seq (.reg (.op ⟨some 2, .p (.mov (.const (.bool false))), none⟩ .done))
 (.seq (.reg (.op ⟨some 3, .p (.mov (.const (.pointer none))), none⟩ .done))
 (.seq (.reg (.op ⟨some 5, .p (.mov (.tmp 3)), none⟩
 (.op ⟨some 6, .p (.mov (.tmp 0)), none⟩
 (.op ⟨some 7, .call 27 [.tmp 5, .tmp 6], none⟩ .done))))
 (.seq (.reg (.op ⟨some 4, .p (.mov (.const (.pointer none))), none⟩ .done))
 (.seq (.reg (.op ⟨some 8, .p (.mov (.tmp 4)), none⟩
 (.op ⟨some 9, .call 37 [.tmp 8], none⟩ .done)))
 (.seq (.reg (.op ⟨some 10, .call 24 [], none⟩
 (.op ⟨some 11, .p (.mov (.tmp 10)), none⟩
 (.op ⟨some 12, .p (.mov (.tmp 3)), some (11, true)⟩
 (.op ⟨some 13, .call 29 [.tmp 12], some (11, true)⟩
 (.op ⟨some 14, .p (.lenS (.tmp 13)), some (11, true)⟩
 (.op ⟨some 15, .p (.int2 .eql (.tmp 14) (.const (.int .i64 0))), some (11, true)⟩
 (.op ⟨some 16, .p (.pick (.tmp 11) (.tmp 15) (.const (.bool false))), none⟩
 (.op ⟨some 17, .p (.mov (.tmp 16)), none⟩
 (.op ⟨some 18, .p (.mov (.tmp 4)), some (17, true)⟩
 (.op ⟨some 19, .call 31 [.tmp 18], some (17, true)⟩
 (.op ⟨some 20, .p (.int2 .eql (.tmp 19) (.const (.int .i64 0))), some (17, true)⟩
 (.op ⟨some 21, .p (.pick (.tmp 17) (.tmp 20) (.const (.bool false))), none⟩
 (.op ⟨some 22, .p (.mov (.tmp 21)), none⟩
 (.op ⟨some 23, .p (.mov (.tmp 4)), some (22, true)⟩
 (.op ⟨some 24, .call 32 [.tmp 23], some (22, true)⟩
 (.op ⟨some 25, .p (.int2 .eql (.tmp 24) (.const (.int .u8 0))), some (22, true)⟩
 (.op ⟨some 26, .p (.pick (.tmp 22) (.tmp 25) (.const (.bool false))), none⟩
 (.op ⟨some 27, .p (.mov (.tmp 26)), none⟩
 (.op ⟨some 28, .p (.mov (.tmp 4)), some (27, true)⟩
 (.op ⟨some 29, .call 34 [.tmp 28], some (27, true)⟩
 (.op ⟨some 30, .p (.un .not (.tmp 29)), some (27, true)⟩
 (.op ⟨some 31, .p (.pick (.tmp 27) (.tmp 30) (.const (.bool false))), none⟩
 (.op ⟨some 32, .p (.mov (.tmp 31)), none⟩
 (.op ⟨some 33, .p (.mov (.tmp 4)), some (32, true)⟩
 (.op ⟨some 34, .call 33 [.tmp 33], some (32, true)⟩
 (.op ⟨some 35, .p (.un .not (.tmp 34)), some (32, true)⟩
 (.op ⟨some 36, .p (.pick (.tmp 32) (.tmp 35) (.const (.bool false))), none⟩
 (.op ⟨some 37, .p (.mov (.tmp 36)), none⟩
 (.op ⟨some 38, .p (.mov (.tmp 4)), some (37, true)⟩
 (.op ⟨some 39, .call 38 [.tmp 38], some (37, true)⟩
 (.op ⟨some 40, .p (.int2 .eql (.tmp 39) (.const (.int .i64 0))), some (37, true)⟩
 (.op ⟨some 41, .p (.pick (.tmp 37) (.tmp 40) (.const (.bool false))), none⟩
 (.op ⟨some 2, .p (.mov (.tmp 41)), none⟩ .done))))))))))))))))))))))))))))))))))
 (.ret))))))⟩

theorem cF7 : compF Try.prog aF7.cfg.pm aF7.cfg.lz Try.f7 = some aF7 := by kernel_rfl
theorem kF7 : aF7.ok = true := by kernel_rfl

-- decoupage/decoupagelaw06.awake
def aF19 : AFun := ⟨⟨12, [], false⟩, [.tmp 0],
 .seq (.reg (.op ⟨some 0, .p (.mov (.const (.bool false))), none⟩ .done))
 (.seq (.reg (.op ⟨some 1, .call 55 [], none⟩
 (.op ⟨some 2, .call 20 [.tmp 1], none⟩
 (.op ⟨some 3, .p (.mov (.tmp 2)), none⟩
 (.op ⟨some 4, .call 55 [], some (3, true)⟩
 (.op ⟨some 5, .call 22 [.tmp 4], some (3, true)⟩
 (.op ⟨some 6, .p (.pick (.tmp 3) (.tmp 5) (.const (.bool false))), none⟩
 (.op ⟨some 7, .p (.mov (.tmp 6)), none⟩
 (.op ⟨some 8, .p (.build [.bool false, .int .i64 0, .int .i64 0, .int .i64 0, .int .i64 0, .int .i64 0, .int .i64 0, .int .i64 0, .int .i64 0, .int .i64 0, .int .i64 0, .int .i64 0, .int .i64 0, .int .i64 0, .int .i64 0, .int .i64 0, .int .i64 0, .int .i64 0, .int .i64 0, .int .i64 0, .int .i64 0, .int .i64 0, .int .i64 0, .int .i64 0, .int .i64 0, .int .i64 0, .int .i64 0, .int .i64 0, .int .i64 0, .int .i64 0, .int .i64 0, .int .i64 0, .int .i64 0, .int .i64 0, .int .i64 0, .int .i64 0, .int .i64 0, .int .i64 0, .int .i64 0, .int .i64 0, .int .i64 0, .int .i64 0, .bool false, .bool false, .int .i64 0, .bool false, .int .i64 0, .int .i64 0] []), some (7, true)⟩
 (.op ⟨some 9, .call 20 [.tmp 8], some (7, true)⟩
 (.op ⟨some 10, .p (.un .not (.tmp 9)), some (7, true)⟩
 (.op ⟨some 11, .p (.pick (.tmp 7) (.tmp 10) (.const (.bool false))), none⟩
 (.op ⟨some 0, .p (.mov (.tmp 11)), none⟩ .done)))))))))))))
 (.ret))⟩

theorem cF19 : compF Try.prog aF19.cfg.pm aF19.cfg.lz Try.f19 = some aF19 := by kernel_rfl
theorem kF19 : aF19.ok = true := by kernel_rfl

-- decoupage/style.Formed
def aF20 : AFun := ⟨⟨94, [], false⟩, [.tmp 2],
 .seq (.reg (.op ⟨some 1, .h (.box (.tmp 0)), none⟩
 (.op ⟨some 2, .p (.mov (.const (.bool false))), none⟩ .done)))
 (.seq (.seq (.reg (.op ⟨some 8, .call 64 [.tmp 1], none⟩
 (.op ⟨some 9, .p (.lenS (.tmp 8)), none⟩
 (.op ⟨some 10, .p (.mov (.const (.int .i64 0))), none⟩ .done))))
 (.block 0 (.loop (.seq (.reg (.op ⟨some 11, .p (.int2 .lss (.tmp 10) (.tmp 9)), none⟩ .done))
 (.seq (.cond (.tmp 11) (.skip)
 (.exit 0))
 (.seq (.block 1 (.seq (.reg (.op ⟨some 12, .p (.idxS 1 (.tmp 8) (.tmp 10)), none⟩
 (.op ⟨some 13, .h (.load 1 false (.tmp 12)), none⟩
 (.op ⟨some 4, .p (.mov (.tmp 13)), none⟩ .done))))
 (.seq (.reg (.op ⟨some 14, .p (.mov (.tmp 4)), none⟩
 (.op ⟨some 15, .p (.nilchk (.tmp 14)), none⟩
 (.op ⟨some 16, .h (.load 2 true (.tmp 15)), none⟩
 (.op ⟨some 17, .call 65 [.tmp 16], none⟩
 (.op ⟨some 18, .p (.un .not (.tmp 17)), none⟩ .done))))))
 (.cond (.tmp 18) (.seq (.reg (.op ⟨some 2, .p (.mov (.const (.bool false))), none⟩ .done))
 (.ret))
 (.skip)))))
 (.reg (.op ⟨some 19, .p (.int2 .add (.tmp 10) (.const (.int .i64 1))), none⟩
 (.op ⟨some 10, .p (.mov (.tmp 19)), none⟩ .done)))))))))
 (.seq (.seq (.reg (.op ⟨some 20, .p (.fieldAddr 10 (.tmp 1)), none⟩
 (.op ⟨some 21, .h (.load 2 true (.tmp 20)), none⟩
 (.op ⟨some 22, .p (.fieldAddr 12 (.tmp 1)), none⟩
 (.op ⟨some 23, .h (.load 2 true (.tmp 22)), none⟩
 (.op ⟨some 24, .p (.fieldAddr 14 (.tmp 1)), none⟩
 (.op ⟨some 25, .h (.load 2 true (.tmp 24)), none⟩
 (.op ⟨some 26, .p (.fieldAddr 16 (.tmp 1)), none⟩
 (.op ⟨some 27, .h (.load 2 true (.tmp 26)), none⟩
 (.op ⟨some 28, .p (.fieldAddr 18 (.tmp 1)), none⟩
 (.op ⟨some 29, .h (.load 2 true (.tmp 28)), none⟩
 (.op ⟨some 30, .p (.fieldAddr 20 (.tmp 1)), none⟩
 (.op ⟨some 31, .h (.load 2 true (.tmp 30)), none⟩
 (.op ⟨some 32, .h (.buildSlice 2 6 [.int .i64 0, .int .i64 0, .int .i64 0, .int .i64 0, .int .i64 0, .int .i64 0, .int .i64 0, .int .i64 0, .int .i64 0, .int .i64 0, .int .i64 0, .int .i64 0] [(0, 2, .tmp 21), (2, 2, .tmp 23), (4, 2, .tmp 25), (6, 2, .tmp 27), (8, 2, .tmp 29), (10, 2, .tmp 31)]), none⟩
 (.op ⟨some 33, .p (.lenS (.tmp 32)), none⟩
 (.op ⟨some 34, .p (.mov (.const (.int .i64 0))), none⟩ .done))))))))))))))))
 (.block 2 (.loop (.seq (.reg (.op ⟨some 35, .p (.int2 .lss (.tmp 34) (.tmp 33)), none⟩ .done))
 (.seq (.cond (.tmp 35) (.skip)
 (.exit 2))
 (.seq (.block 3 (.seq (.reg (.op ⟨some 36, .p (.idxS 2 (.tmp 32) (.tmp 34)), none⟩
 (.op ⟨some 37, .h (.load 2 true (.tmp 36)), none⟩
 (.op ⟨some 6, .h (.alloc [.int .i64 0, .int .i64 0]), none⟩
 (.op ⟨none, .h (.store 2 (.tmp 6) (.tmp 37)), none⟩ .done)))))
 (.seq (.reg (.op ⟨some 38, .p (.fieldAddr 1 (.tmp 6)), none⟩
 (.op ⟨some 39, .h (.load 1 false (.tmp 38)), none⟩
 (.op ⟨some 40, .p (.int2 .lss (.tmp 39) (.const (.int .i64 0))), none⟩ .done))))
 (.cond (.tmp 40) (.seq (.reg (.op ⟨some 2, .p (.mov (.const (.bool false))), none⟩ .done))
 (.ret))
 (.skip)))))
 (.reg (.op ⟨some 41, .p (.int2 .add (.tmp 34) (.const (.int .i64 1))), none⟩
 (.op ⟨some 34, .p (.mov (.tmp 41)), none⟩ .done)))))))))
 (.seq (.seq (.reg (.op ⟨some 42, .p (.mov (.const (.int .i64 0))), none⟩ .done))
 (.block 4 (.loop (.seq (.reg (.op ⟨some 43, .p (.int2 .lss (.tmp 42) (.const (.int .i64 4))), none⟩ .done))
 (.seq (.cond (.tmp 43) (.skip)
 (.exit 4))
 (.seq (.block 5 (.seq (.reg (.op ⟨some 44, .p (.mov (.tmp 42)), none⟩
 (.op ⟨some 7, .p (.mov (.tmp 44)), none⟩ .done)))
 (.seq (.reg (.op ⟨some 45, .p (.mov (.tmp 7)), none⟩
 (.op ⟨some 46, .p (.fieldAddr 30 (.tmp 1)), none⟩
 (.op ⟨some 47, .p (.idxA 4 2 (.tmp 46) (.tmp 45)), none⟩
 (.op ⟨some 48, .p (.fieldAddr 0 (.tmp 47)), none⟩
 (.op ⟨some 49, .h (.load 1 false (.tmp 48)), none⟩
 (.op ⟨some 50, .p (.int2 .eql (.tmp 49) (.const (.int .i64 0))), none⟩
 (.op ⟨some 51, .p (.mov (.tmp 50)), none⟩
 (.op ⟨some 52, .p (.mov (.tmp 7)), some (51, false)⟩
 (.op ⟨some 53, .p (.fieldAddr 30 (.tmp 1)), some (51, false)⟩
 (.op ⟨some 54, .p (.idxA 4 2 (.tmp 53) (.tmp 52)), some (51, false)⟩
 (.op ⟨some 55, .p (.fieldAddr 1 (.tmp 54)), some (51, false)⟩
 (.op ⟨some 56, .h (.load 1 false (.tmp 55)), some (51, false)⟩
 (.op ⟨some 57, .p (.int2 .lss (.tmp 56) (.const (.int .i64 0))), some (51, false)⟩
 (.op ⟨some 58, .p (.pick (.tmp 51) (.const (.bool true)) (.tmp 57)), none⟩
 (.op ⟨some 59, .p (.mov (.tmp 58)), none⟩
 (.op ⟨some 60, .p (.mov (.tmp 7)), some (59, false)⟩
 (.op ⟨some 61, .p (.fieldAddr 38 (.tmp 1)), some (59, false)⟩
 (.op ⟨some 62, .p (.idxA 4 1 (.tmp 61) (.tmp 60)), some (59, false)⟩
 (.op ⟨some 63, .h (.load 1 false (.tmp 62)), some (59, false)⟩
 (.op ⟨some 64, .p (.int2 .lss (.tmp 63) (.const (.int .i64 0))), some (59, false)⟩
 (.op ⟨some 65, .p (.pick (.tmp 59) (.const (.bool true)) (.tmp 64)), none⟩ .done))))))))))))))))))))))
 (.cond (.tmp 65) (.seq (.reg (.op ⟨some 2, .p (.mov (.const (.bool false))), none⟩ .done))
 (.ret))
 (.skip)))))
 (.reg (.op ⟨some 66, .p (.int2 .add (.tmp 42) (.const (.int .i64 1))), none⟩
 (.op ⟨some 42, .p (.mov (.tmp 66)), none⟩ .done)))))))))
 (.seq (.reg (.op ⟨some 67, .p (.fieldAddr 1 (.tmp 1)), none⟩
 (.op ⟨some 68, .h (.load 1 false (.tmp 67)), none⟩
 (.op ⟨some 69, .p (.int2 .geq (.tmp 68) (.const (.int .i64 0))), none⟩
 (.op ⟨some 70, .p (.mov (.tmp 69)), none⟩
 (.op ⟨some 71, .p (.fieldAddr 1 (.tmp 1)), some (70, true)⟩
 (.op ⟨some 72, .h (.load 1 false (.tmp 71)), some (70, true)⟩
 (.op ⟨some 73, .p (.int2 .leq (.tmp 72) (.const (.int .i64 3))), some (70, true)⟩
 (.op ⟨some 74, .p (.pick (.tmp 70) (.tmp 73) (.const (.bool false))), none⟩
 (.op ⟨some 75, .p (.mov (.tmp 74)), none⟩
 (.op ⟨some 76, .p (.fieldAddr 46 (.tmp 1)), some (75, true)⟩
 (.op ⟨some 77, .h (.load 1 false (.tmp 76)), some (75, true)⟩
 (.op ⟨some 78, .p (.int2 .geq (.tmp 77) (.const (.int .i64 0))), some (75, true)⟩
 (.op ⟨some 79, .p (.pick (.tmp 75) (.tmp 78) (.const (.bool false))), none⟩
 (.op ⟨some 80, .p (.mov (.tmp 79)), none⟩
 (.op ⟨some 81, .p (.fieldAddr 47 (.tmp 1)), some (80, true)⟩
 (.op ⟨some 82, .h (.load 1 false (.tmp 81)), some (80, true)⟩
 (.op ⟨some 83, .p (.int2 .geq (.tmp 82) (.const (.int .i64 0))), some (80, true)⟩
 (.op ⟨some 84, .p (.pick (.tmp 80) (.tmp 83) (.const (.bool false))), none⟩
 (.op ⟨some 85, .p (.mov (.tmp 84)), none⟩
 (.op ⟨some 86, .p (.fieldAddr 43 (.tmp 1)), some (85, true)⟩
 (.op ⟨some 87, .h (.load 1 false (.tmp 86)), some (85, true)⟩
 (.op ⟨some 88, .p (.mov (.tmp 87)), some (85, true)⟩
 (.op ⟨some 89, .p (.fieldAddr 44 (.tmp 1)), some (88, false)⟩
 (.op ⟨some 90, .h (.load 1 false (.tmp 89)), some (88, false)⟩
 (.op ⟨some 91, .p (.int2 .eql (.tmp 90) (.const (.int .i64 0))), some (88, false)⟩
 (.op ⟨some 92, .p (.pick (.tmp 88) (.const (.bool true)) (.tmp 91)), some (85, true)⟩
 (.op ⟨some 93, .p (.pick (.tmp 85) (.tmp 92) (.const (.bool false))), none⟩
 (.op ⟨some 2, .p (.mov (.tmp 93)), none⟩ .done)))))))))))))))))))))))))))))
 (.ret)))))⟩

theorem cF20 : compF Try.prog aF20.cfg.pm aF20.cfg.lz Try.f20 = some aF20 := by kernel_rfl
theorem kF20 : aF20.ok = true := by kernel_rfl

-- decoupage/decoupageref06.Formed
def aF21 : AFun := ⟨⟨110, [], false⟩, [.tmp 2],
 .seq (.reg (.op ⟨some 1, .h (.box (.tmp 0)), none⟩
 (.op ⟨some 2, .p (.mov (.const (.bool false))), none⟩ .done)))
 (.seq (.reg (.op ⟨some 6, .h (.load 48 true (.tmp 1)), none⟩
 (.op ⟨some 7, .call 66 [.tmp 6], none⟩
 (.op ⟨some 3, .p (.mov (.tmp 7)), none⟩ .done))))
 (.seq (.seq (.reg (.op ⟨some 8, .p (.mov (.tmp 3)), none⟩
 (.op ⟨some 9, .p (.lenS (.tmp 8)), none⟩
 (.op ⟨some 10, .p (.mov (.const (.int .i64 0))), none⟩ .done))))
 (.block 0 (.loop (.seq (.reg (.op ⟨some 11, .p (.int2 .lss (.tmp 10) (.tmp 9)), none⟩ .done))
 (.seq (.cond (.tmp 11) (.skip)
 (.exit 0))
 (.seq (.block 1 (.seq (.reg (.op ⟨some 12, .p (.mov (.tmp 10)), none⟩
 (.op ⟨some 4, .p (.mov (.tmp 12)), none⟩ .done)))
 (.seq (.seq (.reg (.op ⟨some 13, .p (.mov (.tmp 3)), none⟩
 (.op ⟨some 14, .p (.mov (.tmp 4)), none⟩
 (.op ⟨some 15, .p (.idxS 2 (.tmp 13) (.tmp 14)), none⟩
 (.op ⟨some 16, .p (.fieldAddr 0 (.tmp 15)), none⟩
 (.op ⟨some 17, .h (.load 1 false (.tmp 16)), none⟩
 (.op ⟨some 18, .p (.int2 .lss (.tmp 17) (.const (.int .i64 0))), none⟩
 (.op ⟨some 19, .p (.mov (.tmp 18)), none⟩
 (.op ⟨some 20, .p (.mov (.tmp 3)), some (19, false)⟩
 (.op ⟨some 21, .p (.mov (.tmp 4)), some (19, false)⟩
 (.op ⟨some 22, .p (.idxS 2 (.tmp 20) (.tmp 21)), some (19, false)⟩
 (.op ⟨some 23, .p (.fieldAddr 0 (.tmp 22)), some (19, false)⟩
 (.op ⟨some 24, .h (.load 1 false (.tmp 23)), some (19, false)⟩
 (.op ⟨some 25, .p (.int2 .gtr (.tmp 24) (.const (.int .i64 2))), some (19, false)⟩
 (.op ⟨some 26, .p (.pick (.tmp 19) (.const (.bool true)) (.tmp 25)), none⟩
 (.op ⟨some 27, .p (.mov (.tmp 26)), none⟩
 (.op ⟨some 28, .p (.mov (.tmp 3)), some (27, false)⟩
 (.op ⟨some 29, .p (.mov (.tmp 4)), some (27, false)⟩
 (.op ⟨some 30, .p (.idxS 2 (.tmp 28) (.tmp 29)), some (27, false)⟩
 (.op ⟨some 31, .p (.fieldAddr 0 (.tmp 30)), some (27, false)⟩
 (.op ⟨some 32, .h (.load 1 false (.tmp 31)), some (27, false)⟩
 (.op ⟨some 33, .p (.int2 .eql (.tmp 32) (.const (.int .i64 0))), some (27, false)⟩
 (.op ⟨some 34, .p (.mov (.tmp 33)), some (27, false)⟩
 (.op ⟨some 35, .p (.mov (.tmp 3)), some (34, true)⟩
 (.op ⟨some 36, .p (.mov (.tmp 4)), some (34, true)⟩
 (.op ⟨some 37, .p (.idxS 2 (.tmp 35) (.tmp 36)), some (34, true)⟩
 (.op ⟨some 38, .p (.fieldAddr 1 (.tmp 37)), some (34, true)⟩
 (.op ⟨some 39, .h (.load 1 false (.tmp 38)), some (34, true)⟩
 (.op ⟨some 40, .p (.int2 .neq (.tmp 39) (.const (.int .i64 0))), some (34, true)⟩
 (.op ⟨some 41, .p (.pick (.tmp 34) (.tmp 40) (.const (.bool false))), some (27, false)⟩
 (.op ⟨some 42, .p (.pick (.tmp 27) (.const (.bool true)) (.tmp 41)), none⟩ .done)))))))))))))))))))))))))))))))
 (.cond (.tmp 42) (.seq (.reg (.op ⟨some 2, .p (.mov (.const (.bool false))), none⟩ .done))
 (.ret))
 (.skip)))
 (.seq (.reg (.op ⟨some 43, .p (.mov (.tmp 3)), none⟩
 (.op ⟨some 44, .p (.mov (.tmp 4)), none⟩
 (.op ⟨some 45, .p (.idxS 2 (.tmp 43) (.tmp 44)), none⟩
 (.op ⟨some 46, .p (.fieldAddr 1 (.tmp 45)), none⟩
 (.op ⟨some 47, .h (.load 1 false (.tmp 46)), none⟩
 (.op ⟨some 48, .p (.int2 .lss (.tmp 47) (.const (.int .i64 0))), none⟩
 (.op ⟨some 49, .p (.mov (.tmp 48)), none⟩
 (.op ⟨some 50, .p (.mov (.tmp 4)), some (49, true)⟩
 (.op ⟨some 51, .p (.int2 .geq (.tmp 50) (.const (.int .i64 4))), some (49, true)⟩
 (.op ⟨some 52, .p (.mov (.tmp 51)), some (49, true)⟩
 (.op ⟨some 53, .p (.mov (.tmp 4)), some (52, true)⟩
 (.op ⟨some 54, .p (.int2 .lss (.tmp 53) (.const (.int .i64 10))), some (52, true)⟩
 (.op ⟨some 55, .p (.pick (.tmp 52) (.tmp 54) (.const (.bool false))), some (49, true)⟩
 (.op ⟨some 56, .p (.mov (.tmp 55)), some (49, true)⟩
 (.op ⟨some 57, .p (.mov (.tmp 4)), some (56, false)⟩
 (.op ⟨some 58, .p (.int2 .geq (.tmp 57) (.const (.int .i64 14))), some (56, false)⟩
 (.op ⟨some 59, .p (.pick (.tmp 56) (.const (.bool true)) (.tmp 58)), some (49, true)⟩
 (.op ⟨some 60, .p (.pick (.tmp 49) (.tmp 59) (.const (.bool false))), none⟩
 (.op ⟨some 61, .p (.mov (.tmp 60)), none⟩
 (.op ⟨some 62, .p (.mov (.tmp 4)), some (61, false)⟩
 (.op ⟨some 63, .p (.int2 .geq (.tmp 62) (.const (.int .i64 14))), some (61, false)⟩
 (.op ⟨some 64, .p (.mov (.tmp 63)), some (61, false)⟩
 (.op ⟨some 65, .p (.mov (.tmp 3)), some (64, true)⟩
 (.op ⟨some 66, .p (.mov (.tmp 4)), some (64, true)⟩
 (.op ⟨some 67, .p (.idxS 2 (.tmp 65) (.tmp 66)), some (64, true)⟩
 (.op ⟨some 68, .p (.fieldAddr 0 (.tmp 67)), some (64, true)⟩
 (.op ⟨some 69, .h (.load 1 false (.tmp 68)), some (64, true)⟩
 (.op ⟨some 70, .p (.int2 .eql (.tmp 69) (.const (.int .i64 0))), some (64, true)⟩
 (.op ⟨some 71, .p (.pick (.tmp 64) (.tmp 70) (.const (.bool false))), some (61, false)⟩
 (.op ⟨some 72, .p (.pick (.tmp 61) (.const (.bool true)) (.tmp 71)), none⟩ .done)))))))))))))))))))))))))))))))
 (.cond (.tmp 72) (.seq (.reg (.op ⟨some 2, .p (.mov (.const (.bool false))), none⟩ .done))
 (.ret))
 (.skip))))))
 (.reg (.op ⟨some 73, .p (.int2 .add (.tmp 10) (.const (.int .i64 1))), none⟩
 (.op ⟨some 10, .p (.mov (.tmp 73)), none⟩ .done)))))))))
 (.seq (.seq (.reg (.op ⟨some 74, .p (.mov (.const (.int .i64 0))), none⟩ .done))
 (.block 2 (.loop (.seq (.reg (.op ⟨some 75, .p (.int2 .lss (.tmp 74) (.const (.int .i64 4))), none⟩ .done))
 (.seq (.cond (.tmp 75) (.skip)
 (.exit 2))
 (.seq (.block 3 (.seq (.reg (.op ⟨some 76, .p (.mov (.tmp 74)), none⟩
 (.op ⟨some 5, .p (.mov (.tmp 76)), none⟩ .done)))
 (.seq (.reg (.op ⟨some 77, .p (.mov (.tmp 5)), none⟩
 (.op ⟨some 78, .p (.fieldAddr 38 (.tmp 1)), none⟩
 (.op ⟨some 79, .p (.idxA 4 1 (.tmp 78) (.tmp 77)), none⟩
 (.op ⟨some 80, .h (.load 1 false (.tmp 79)), none⟩
 (.op ⟨some 81, .p (.int2 .lss (.tmp 80) (.const (.int .i64 0))), none⟩ .done))))))
 (.cond (.tmp 81) (.seq (.reg (.op ⟨some 2, .p (.mov (.const (.bool false))), none⟩ .done))
 (.ret))
 (.skip)))))
 (.reg (.op ⟨some 82, .p (.int2 .add (.tmp 74) (.const (.int .i64 1))), none⟩
 (.op ⟨some 74, .p (.mov (.tmp 82)), none⟩ .done)))))))))
 (.seq (.reg (.op ⟨some 83, .p (.fieldAddr 1 (.tmp 1)), none⟩
 (.op ⟨some 84, .h (.load 1 false (.tmp 83)), none⟩
 (.op ⟨some 85, .p (.int2 .geq (.tmp 84) (.const (.int .i64 0))), none⟩
 (.op ⟨some 86, .p (.mov (.tmp 85)), none⟩
 (.op ⟨some 87, .p (.fieldAddr 1 (.tmp 1)), some (86, true)⟩
 (.op ⟨some 88, .h (.load 1 false (.tmp 87)), some (86, true)⟩
 (.op ⟨some 89, .p (.int2 .leq (.tmp 88) (.const (.int .i64 3))), some (86, true)⟩
 (.op ⟨some 90, .p (.pick (.tmp 86) (.tmp 89) (.const (.bool false))), none⟩
 (.op ⟨some 91, .p (.mov (.tmp 90)), none⟩
 (.op ⟨some 92, .p (.fieldAddr 46 (.tmp 1)), some (91, true)⟩
 (.op ⟨some 93, .h (.load 1 false (.tmp 92)), some (91, true)⟩
 (.op ⟨some 94, .p (.int2 .geq (.tmp 93) (.const (.int .i64 0))), some (91, true)⟩
 (.op ⟨some 95, .p (.pick (.tmp 91) (.tmp 94) (.const (.bool false))), none⟩
 (.op ⟨some 96, .p (.mov (.tmp 95)), none⟩
 (.op ⟨some 97, .p (.fieldAddr 47 (.tmp 1)), some (96, true)⟩
 (.op ⟨some 98, .h (.load 1 false (.tmp 97)), some (96, true)⟩
 (.op ⟨some 99, .p (.int2 .geq (.tmp 98) (.const (.int .i64 0))), some (96, true)⟩
 (.op ⟨some 100, .p (.pick (.tmp 96) (.tmp 99) (.const (.bool false))), none⟩
 (.op ⟨some 101, .p (.mov (.tmp 100)), none⟩
 (.op ⟨some 102, .p (.fieldAddr 43 (.tmp 1)), some (101, true)⟩
 (.op ⟨some 103, .h (.load 1 false (.tmp 102)), some (101, true)⟩
 (.op ⟨some 104, .p (.mov (.tmp 103)), some (101, true)⟩
 (.op ⟨some 105, .p (.fieldAddr 44 (.tmp 1)), some (104, false)⟩
 (.op ⟨some 106, .h (.load 1 false (.tmp 105)), some (104, false)⟩
 (.op ⟨some 107, .p (.int2 .eql (.tmp 106) (.const (.int .i64 0))), some (104, false)⟩
 (.op ⟨some 108, .p (.pick (.tmp 104) (.const (.bool true)) (.tmp 107)), some (101, true)⟩
 (.op ⟨some 109, .p (.pick (.tmp 101) (.tmp 108) (.const (.bool false))), none⟩
 (.op ⟨some 2, .p (.mov (.tmp 109)), none⟩ .done)))))))))))))))))))))))))))))
 (.ret)))))⟩

theorem cF21 : compF Try.prog aF21.cfg.pm aF21.cfg.lz Try.f21 = some aF21 := by kernel_rfl
theorem kF21 : aF21.ok = true := by kernel_rfl

-- decoupage/style.Within
def aF22 : AFun := ⟨⟨63, [], false⟩, [.tmp 2],
 .seq (.reg (.op ⟨some 1, .h (.box (.tmp 0)), none⟩
 (.op ⟨some 2, .p (.mov (.const (.bool false))), none⟩ .done)))
 (.seq (.seq (.reg (.op ⟨some 7, .call 64 [.tmp 1], none⟩
 (.op ⟨some 8, .p (.lenS (.tmp 7)), none⟩
 (.op ⟨some 9, .p (.mov (.const (.int .i64 0))), none⟩ .done))))
 (.block 0 (.loop (.seq (.reg (.op ⟨some 10, .p (.int2 .lss (.tmp 9) (.tmp 8)), none⟩ .done))
 (.seq (.cond (.tmp 10) (.skip)
 (.exit 0))
 (.seq (.block 1 (.seq (.reg (.op ⟨some 11, .p (.idxS 1 (.tmp 7) (.tmp 9)), none⟩
 (.op ⟨some 12, .h (.load 1 false (.tmp 11)), none⟩
 (.op ⟨some 4, .p (.mov (.tmp 12)), none⟩ .done))))
 (.seq (.reg (.op ⟨some 13, .p (.mov (.tmp 4)), none⟩
 (.op ⟨some 14, .p (.nilchk (.tmp 13)), none⟩
 (.op ⟨some 15, .p (.fieldAddr 0 (.tmp 14)), none⟩
 (.op ⟨some 16, .h (.load 1 false (.tmp 15)), none⟩
 (.op ⟨some 17, .p (.int2 .eql (.tmp 16) (.const (.int .i64 1))), none⟩
 (.op ⟨some 18, .p (.mov (.tmp 17)), none⟩
 (.op ⟨some 19, .p (.mov (.tmp 4)), some (18, true)⟩
 (.op ⟨some 20, .p (.nilchk (.tmp 19)), some (18, true)⟩
 (.op ⟨some 21, .p (.fieldAddr 1 (.tmp 20)), some (18, true)⟩
 (.op ⟨some 22, .h (.load 1 false (.tmp 21)), some (18, true)⟩
 (.op ⟨some 23, .call 67 [.tmp 22, .const (.int .i64 1099511627776)], some (18, true)⟩
 (.op ⟨some 24, .p (.un .not (.tmp 23)), some (18, true)⟩
 (.op ⟨some 25, .p (.pick (.tmp 18) (.tmp 24) (.const (.bool false))), none⟩
 (.op ⟨some 26, .p (.mov (.tmp 25)), none⟩
 (.op ⟨some 27, .p (.mov (.tmp 4)), some (26, false)⟩
 (.op ⟨some 28, .p (.nilchk (.tmp 27)), some (26, false)⟩
 (.op ⟨some 29, .p (.fieldAddr 0 (.tmp 28)), some (26, false)⟩
 (.op ⟨some 30, .h (.load 1 false (.tmp 29)), some (26, false)⟩
 (.op ⟨some 31, .p (.int2 .eql (.tmp 30) (.const (.int .i64 2))), some (26, false)⟩
 (.op ⟨some 32, .p (.mov (.tmp 31)), some (26, false)⟩
 (.op ⟨some 33, .p (.mov (.tmp 4)), some (32, true)⟩
 (.op ⟨some 34, .p (.nilchk (.tmp 33)), some (32, true)⟩
 (.op ⟨some 35, .p (.fieldAddr 1 (.tmp 34)), some (32, true)⟩
 (.op ⟨some 36, .h (.load 1 false (.tmp 35)), some (32, true)⟩
 (.op ⟨some 37, .call 67 [.tmp 36, .const (.int .i64 1000000)], some (32, true)⟩
 (.op ⟨some 38, .p (.un .not (.tmp 37)), some (32, true)⟩
 (.op ⟨some 39, .p (.pick (.tmp 32) (.tmp 38) (.const (.bool false))), some (26, false)⟩
 (.op ⟨some 40, .p (.pick (.tmp 26) (.const (.bool true)) (.tmp 39)), none⟩ .done)))))))))))))))))))))))))))))
 (.cond (.tmp 40) (.seq (.reg (.op ⟨some 2, .p (.mov (.const (.bool false))), none⟩ .done))
 (.ret))
 (.skip)))))
 (.reg (.op ⟨some 41, .p (.int2 .add (.tmp 9) (.const (.int .i64 1))), none⟩
 (.op ⟨some 9, .p (.mov (.tmp 41)), none⟩ .done)))))))))
 (.seq (.seq (.reg (.op ⟨some 42, .p (.fieldAddr 38 (.tmp 1)), none⟩
 (.op ⟨some 43, .h (.load 4 true (.tmp 42)), none⟩
 (.op ⟨some 44, .p (.mov (.const (.int .i64 0))), none⟩ .done))))
 (.block 2 (.loop (.seq (.reg (.op ⟨some 45, .p (.int2 .lss (.tmp 44) (.const (.int .i64 4))), none⟩ .done))
 (.seq (.cond (.tmp 45) (.skip)
 (.exit 2))
 (.seq (.block 3 (.seq (.reg (.op ⟨some 46, .p (.idxV 4 1 false (.tmp 43) (.tmp 44)), none⟩
 (.op ⟨some 6, .p (.mov (.tmp 46)), none⟩ .done)))
 (.seq (.reg (.op ⟨some 47, .p (.mov (.tmp 6)), none⟩
 (.op ⟨some 48, .p (.int2 .gtr (.tmp 47) (.const (.int .i64 1099511627776))), none⟩ .done)))
 (.cond (.tmp 48) (.seq (.reg (.op ⟨some 2, .p (.mov (.const (.bool false))), none⟩ .done))
 (.ret))
 (.skip)))))
 (.reg (.op ⟨some 49, .p (.int2 .add (.tmp 44) (.const (.int .i64 1))), none⟩
 (.op ⟨some 44, .p (.mov (.tmp 49)), none⟩ .done)))))))))
 (.seq (.reg (.op ⟨some 50, .p (.fieldAddr 44 (.tmp 1)), none⟩
 (.op ⟨some 51, .h (.load 1 false (.tmp 50)), none⟩
 (.op ⟨some 52, .call 67 [.tmp 51, .const (.int .i64 1073741824)], none⟩
 (.op ⟨some 53, .p (.mov (.tmp 52)), none⟩
 (.op ⟨some 54, .p (.fieldAddr 46 (.tmp 1)), some (53, true)⟩
 (.op ⟨some 55, .h (.load 1 false (.tmp 54)), some (53, true)⟩
 (.op ⟨some 56, .p (.int2 .leq (.tmp 55) (.const (.int .i64 16777216))), some (53, true)⟩
 (.op ⟨some 57, .p (.pick (.tmp 53) (.tmp 56) (.const (.bool false))), none⟩
 (.op ⟨some 58, .p (.mov (.tmp 57)), none⟩
 (.op ⟨some 59, .p (.fieldAddr 47 (.tmp 1)), some (58, true)⟩
 (.op ⟨some 60, .h (.load 1 false (.tmp 59)), some (58, true)⟩
 (.op ⟨some 61, .p (.int2 .leq (.tmp 60) (.const (.int .i64 16777216))), some (58, true)⟩
 (.op ⟨some 62, .p (.pick (.tmp 58) (.tmp 61) (.const (.bool false))), none⟩
 (.op ⟨some 2, .p (.mov (.tmp 62)), none⟩ .done)))))))))))))))
 (.ret))))⟩

theorem cF22 : compF Try.prog aF22.cfg.pm aF22.cfg.lz Try.f22 = some aF22 := by kernel_rfl
theorem kF22 : aF22.ok = true := by kernel_rfl

-- decoupage/decoupageref06.Within
def aF23 : AFun := ⟨⟨89, [], false⟩, [.tmp 2],
 .seq (.reg (.op ⟨some 1, .h (.box (.tmp 0)), none⟩
 (.op ⟨some 2, .p (.mov (.const (.bool false))), none⟩ .done)))
 (.seq (.reg (.op ⟨some 7, .h (.load 48 true (.tmp 1)), none⟩
 (.op ⟨some 8, .call 66 [.tmp 7], none⟩
 (.op ⟨some 3, .p (.mov (.tmp 8)), none⟩ .done))))
 (.seq (.seq (.reg (.op ⟨some 9, .p (.mov (.tmp 3)), none⟩
 (.op ⟨some 10, .p (.lenS (.tmp 9)), none⟩
 (.op ⟨some 11, .p (.mov (.const (.int .i64 0))), none⟩ .done))))
 (.block 0 (.loop (.seq (.reg (.op ⟨some 12, .p (.int2 .lss (.tmp 11) (.tmp 10)), none⟩ .done))
 (.seq (.cond (.tmp 12) (.skip)
 (.exit 0))
 (.seq (.block 1 (.seq (.reg (.op ⟨some 13, .p (.mov (.tmp 11)), none⟩
 (.op ⟨some 4, .p (.mov (.tmp 13)), none⟩ .done)))
 (.seq (.reg (.op ⟨some 5, .p (.mov (.const (.int .i64 1099511627776))), none⟩ .done))
 (.seq (.seq (.reg (.op ⟨some 14, .p (.mov (.tmp 3)), none⟩
 (.op ⟨some 15, .p (.mov (.tmp 4)), none⟩
 (.op ⟨some 16, .p (.idxS 2 (.tmp 14) (.tmp 15)), none⟩
 (.op ⟨some 17, .p (.fieldAddr 0 (.tmp 16)), none⟩
 (.op ⟨some 18, .h (.load 1 false (.tmp 17)), none⟩
 (.op ⟨some 19, .p (.int2 .eql (.tmp 18) (.const (.int .i64 2))), none⟩ .done)))))))
 (.cond (.tmp 19) (.reg (.op ⟨some 5, .p (.mov (.const (.int .i64 1000000))), none⟩ .done))
 (.skip)))
 (.seq (.reg (.op ⟨some 20, .p (.mov (.tmp 3)), none⟩
 (.op ⟨some 21, .p (.mov (.tmp 4)), none⟩
 (.op ⟨some 22, .p (.idxS 2 (.tmp 20) (.tmp 21)), none⟩
 (.op ⟨some 23, .p (.fieldAddr 0 (.tmp 22)), none⟩
 (.op ⟨some 24, .h (.load 1 false (.tmp 23)), none⟩
 (.op ⟨some 25, .p (.int2 .neq (.tmp 24) (.const (.int .i64 0))), none⟩
 (.op ⟨some 26, .p (.mov (.tmp 25)), none⟩
 (.op ⟨some 27, .p (.mov (.tmp 3)), some (26, true)⟩
 (.op ⟨some 28, .p (.mov (.tmp 4)), some (26, true)⟩
 (.op ⟨some 29, .p (.idxS 2 (.tmp 27) (.tmp 28)), some (26, true)⟩
 (.op ⟨some 30, .p (.fieldAddr 0 (.tmp 29)), some (26, true)⟩
 (.op ⟨some 31, .h (.load 1 false (.tmp 30)), some (26, true)⟩
 (.op ⟨some 32, .p (.int2 .lss (.tmp 31) (.const (.int .i64 3))), some (26, true)⟩
 (.op ⟨some 33, .p (.pick (.tmp 26) (.tmp 32) (.const (.bool false))), none⟩
 (.op ⟨some 34, .p (.mov (.tmp 33)), none⟩
 (.op ⟨some 35, .p (.mov (.tmp 3)), some (34, true)⟩
 (.op ⟨some 36, .p (.mov (.tmp 4)), some (34, true)⟩
 (.op ⟨some 37, .p (.idxS 2 (.tmp 35) (.tmp 36)), some (34, true)⟩
 (.op ⟨some 38, .p (.fieldAddr 0 (.tmp 37)), some (34, true)⟩
 (.op ⟨some 39, .h (.load 1 false (.tmp 38)), some (34, true)⟩
 (.op ⟨some 40, .p (.int2 .gtr (.tmp 39) (.const (.int .i64 0))), some (34, true)⟩
 (.op ⟨some 41, .p (.pick (.tmp 34) (.tmp 40) (.const (.bool false))), none⟩
 (.op ⟨some 42, .p (.mov (.tmp 41)), none⟩
 (.op ⟨some 43, .p (.mov (.tmp 3)), some (42, true)⟩
 (.op ⟨some 44, .p (.mov (.tmp 4)), some (42, true)⟩
 (.op ⟨some 45, .p (.idxS 2 (.tmp 43) (.tmp 44)), some (42, true)⟩
 (.op ⟨some 46, .p (.fieldAddr 1 (.tmp 45)), some (42, true)⟩
 (.op ⟨some 47, .h (.load 1 false (.tmp 46)), some (42, true)⟩
 (.op ⟨some 48, .p (.mov (.tmp 5)), some (42, true)⟩
 (.op ⟨some 49, .p (.int2 .gtr (.tmp 47) (.tmp 48)), some (42, true)⟩
 (.op ⟨some 50, .p (.mov (.tmp 49)), some (42, true)⟩
 (.op ⟨some 51, .p (.mov (.tmp 3)), some (50, false)⟩
 (.op ⟨some 52, .p (.mov (.tmp 4)), some (50, false)⟩
 (.op ⟨some 53, .p (.idxS 2 (.tmp 51) (.tmp 52)), some (50, false)⟩
 (.op ⟨some 54, .p (.fieldAddr 1 (.tmp 53)), some (50, false)⟩
 (.op ⟨some 55, .h (.load 1 false (.tmp 54)), some (50, false)⟩
 (.op ⟨some 56, .p (.mov (.tmp 5)), some (50, false)⟩
 (.op ⟨some 57, .p (.un .neg (.tmp 56)), some (50, false)⟩
 (.op ⟨some 58, .p (.int2 .lss (.tmp 55) (.tmp 57)), some (50, false)⟩
 (.op ⟨some 59, .p (.pick (.tmp 50) (.const (.bool true)) (.tmp 58)), some (42, true)⟩
 (.op ⟨some 60, .p (.pick (.tmp 42) (.tmp 59) (.const (.bool false))), none⟩ .done))))))))))))))))))))))))))))))))))))))))))
 (.cond (.tmp 60) (.seq (.reg (.op ⟨some 2, .p (.mov (.const (.bool false))), none⟩ .done))
 (.ret))
 (.skip)))))))
 (.reg (.op ⟨some 61, .p (.int2 .add (.tmp 11) (.const (.int .i64 1))), none⟩
 (.op ⟨some 11, .p (.mov (.tmp 61)), none⟩ .done)))))))))
 (.seq (.seq (.reg (.op ⟨some 62, .p (.mov (.const (.int .i64 0))), none⟩ .done))
 (.block 2 (.loop (.seq (.reg (.op ⟨some 63, .p (.int2 .lss (.tmp 62) (.const (.int .i64 4))), none⟩ .done))
 (.seq (.cond (.tmp 63) (.skip)
 (.exit 2))
 (.seq (.block 3 (.seq (.reg (.op ⟨some 64, .p (.mov (.tmp 62)), none⟩
 (.op ⟨some 6, .p (.mov (.tmp 64)), none⟩ .done)))
 (.seq (.reg (.op ⟨some 65, .p (.mov (.tmp 6)), none⟩
 (.op ⟨some 66, .p (.fieldAddr 38 (.tmp 1)), none⟩
 (.op ⟨some 67, .p (.idxA 4 1 (.tmp 66) (.tmp 65)), none⟩
 (.op ⟨some 68, .h (.load 1 false (.tmp 67)), none⟩
 (.op ⟨some 69, .p (.int2 .gtr (.tmp 68) (.const (.int .i64 1099511627776))), none⟩ .done))))))
 (.cond (.tmp 69) (.seq (.reg (.op ⟨some 2, .p (.mov (.const (.bool false))), none⟩ .done))
 (.ret))
 (.skip)))))
 (.reg (.op ⟨some 70, .p (.int2 .add (.tmp 62) (.const (.int .i64 1))), none⟩
 (.op ⟨some 62, .p (.mov (.tmp 70)), none⟩ .done)))))))))
 (.seq (.reg (.op ⟨some 71, .p (.fieldAddr 44 (.tmp 1)), none⟩
 (.op ⟨some 72, .h (.load 1 false (.tmp 71)), none⟩
 (.op ⟨some 73, .p (.int2 .leq (.tmp 72) (.const (.int .i64 1073741824))), none⟩
 (.op ⟨some 74, .p (.mov (.tmp 73)), none⟩
 (.op ⟨some 75, .p (.fieldAddr 44 (.tmp 1)), some (74, true)⟩
 (.op ⟨some 76, .h (.load 1 false (.tmp 75)), some (74, true)⟩
 (.op ⟨some 77, .p (.int2 .geq (.tmp 76) (.const (.int .i64 (-1073741824)))), some (74, true)⟩
 (.op ⟨some 78, .p (.pick (.tmp 74) (.tmp 77) (.const (.bool false))), none⟩
 (.op ⟨some 79, .p (.mov (.tmp 78)), none⟩
 (.op ⟨some 80, .p (.fieldAddr 46 (.tmp 1)), some (79, true)⟩
 (.op ⟨some 81, .h (.load 1 false (.tmp 80)), some (79, true)⟩
 (.op ⟨some 82, .p (.int2 .leq (.tmp 81) (.const (.int .i64 16777216))), some (79, true)⟩
 (.op ⟨some 83, .p (.pick (.tmp 79) (.tmp 82) (.const (.bool false))), none⟩
 (.op ⟨some 84, .p (.mov (.tmp 83)), none⟩
 (.op ⟨some 85, .p (.fieldAddr 47 (.tmp 1)), some (84, true)⟩
 (.op ⟨some 86, .h (.load 1 false (.tmp 85)), some (84, true)⟩
 (.op ⟨some 87, .p (.int2 .leq (.tmp 86) (.const (.int .i64 16777216))), some (84, true)⟩
 (.op ⟨some 88, .p (.pick (.tmp 84) (.tmp 87) (.const (.bool false))), none⟩
 (.op ⟨some 2, .p (.mov (.tmp 88)), none⟩ .done))))))))))))))))))))
 (.ret)))))⟩

theorem cF23 : compF Try.prog aF23.cfg.pm aF23.cfg.lz Try.f23 = some aF23 := by kernel_rfl
theorem kF23 : aF23.ok = true := by kernel_rfl

end Go.Proofs.Ytbgnaeagdneikaa
