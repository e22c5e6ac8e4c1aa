/-
  No cell of these rows narrows 'for every input' (looked for: loops, veiled, ifaces, maps, wideKeys, modest, calm, conditions, laid).
  DERIVED. THE GIVEN ROWS OF THIS SEAT. 16 by the template 'for every input the law returns true; each argument reads behind the call as it read before'; 0 by the template 'total and deterministic' (their statements: YtbgnaeagdneikaaTotals.lean).
  GIVEN WITH THE SEED: the statements are not yours to turn. If you find one false, say at which input.
  Laid BY PROGRAM, IN A SANDBOX (cutbox-rows.mjs): the forced cells as the released guide's own fill.sh prints them over the translation e5e7cc0adb6b2083… (all of the seat's roots in one cut). By AI agents, Wed Nov 11 2026. No macro, syntax, notation, axiom, sorry.
-/
import Derived.Test.YtbgnaeagdneikaaChecked
import GoSem.Claim
import GoSem.ClaimJoined
import GoSem.ClaimMapViews
import Derived.JoinedTies
import Derived.KernelRfl
namespace Go.Proofs.Ytbgnaeagdneikaa
/- THE CELL 'sum', in the pinned program and in every row, IS THE sha256 OF THE DUMP (.gsa) THAT YtbgnaeagdneikaaProg.lean LOADS. Nothing in Lean hashes anything: it is a label: what it is worth is what the hold of that sum in a sandbox is worth. -/
noncomputable def Try.pinned : Pinned := { name := "ytbgnaeagdneikaa", sum := "e5e7cc0adb6b208314e4b777f4fedb95f688b0fd82bfe6bfce958197daac29a6", checked := Try.checked }
namespace Rows
def none {H : Type} : Left H := { results := [], args := [] }

/-- 'decoupagelaw06.StyleForms': WHATEVER THE INPUT: true; the input reads as it did. -/
def styleFormsSpec : ChangeSpec := { name := "styleForms", fn := fun _ => fun
  | [d] => { results := [.lit (.bool true)], args := [d] }
  | _ => none }
def styleFormsRow : OpenClaim := { program := "ytbgnaeagdneikaa", sum := "e5e7cc0adb6b208314e4b777f4fedb95f688b0fd82bfe6bfce958197daac29a6", func := "decoupage/decoupagelaw06.StyleForms", spec := "styleForms", unfollowed := true, recurses := true, apart := false }
def StyleFormsSaid : Prop := styleFormsRow.holds Try.pinned (OpenSpec.ofChange styleFormsSpec)

/-- ITS FALSE NEIGHBOUR: 'it returns false'. Refute it at one input. -/
def styleFormsWrong : ChangeSpec := { name := "styleForms", fn := fun _ => fun
  | [d] => { results := [.lit (.bool false)], args := [d] }
  | _ => none }
def StyleFormsWrongFalsely : Prop := styleFormsRow.holds Try.pinned (OpenSpec.ofChange styleFormsWrong)

/-- 'decoupagelaw05.ScrollPuts': WHATEVER THE INPUT: true; the input reads as it did. -/
def scrollPutsSpec : ChangeSpec := { name := "scrollPuts", fn := fun _ => fun
  | [d] => { results := [.lit (.bool true)], args := [d] }
  | _ => none }
def scrollPutsRow : OpenClaim := { program := "ytbgnaeagdneikaa", sum := "e5e7cc0adb6b208314e4b777f4fedb95f688b0fd82bfe6bfce958197daac29a6", func := "decoupage/decoupagelaw05.ScrollPuts", spec := "scrollPuts", recurses := true, apart := false }
def ScrollPutsSaid : Prop := scrollPutsRow.holds Try.pinned (OpenSpec.ofChange scrollPutsSpec)

/-- ITS FALSE NEIGHBOUR: 'it returns false'. Refute it at one input. -/
def scrollPutsWrong : ChangeSpec := { name := "scrollPuts", fn := fun _ => fun
  | [d] => { results := [.lit (.bool false)], args := [d] }
  | _ => none }
def ScrollPutsWrongFalsely : Prop := scrollPutsRow.holds Try.pinned (OpenSpec.ofChange scrollPutsWrong)

/-- 'decoupagelaw05.ScrollBack': WHATEVER THE INPUT: true; the input reads as it did. -/
def scrollBackSpec : ChangeSpec := { name := "scrollBack", fn := fun _ => fun
  | [d] => { results := [.lit (.bool true)], args := [d] }
  | _ => none }
def scrollBackRow : OpenClaim := { program := "ytbgnaeagdneikaa", sum := "e5e7cc0adb6b208314e4b777f4fedb95f688b0fd82bfe6bfce958197daac29a6", func := "decoupage/decoupagelaw05.ScrollBack", spec := "scrollBack", apart := false }
def ScrollBackSaid : Prop := scrollBackRow.holds Try.pinned (OpenSpec.ofChange scrollBackSpec)

/-- ITS FALSE NEIGHBOUR: 'it returns false'. Refute it at one input. -/
def scrollBackWrong : ChangeSpec := { name := "scrollBack", fn := fun _ => fun
  | [d] => { results := [.lit (.bool false)], args := [d] }
  | _ => none }
def ScrollBackWrongFalsely : Prop := scrollBackRow.holds Try.pinned (OpenSpec.ofChange scrollBackWrong)

/-- 'decoupagelaw05.ScrollTakes': WHATEVER THE INPUT: true; the input reads as it did. -/
def scrollTakesSpec : ChangeSpec := { name := "scrollTakes", fn := fun _ => fun
  | [d1, d2] => { results := [.lit (.bool true)], args := [d1, d2] }
  | _ => none }
def scrollTakesRow : OpenClaim := { program := "ytbgnaeagdneikaa", sum := "e5e7cc0adb6b208314e4b777f4fedb95f688b0fd82bfe6bfce958197daac29a6", func := "decoupage/decoupagelaw05.ScrollTakes", spec := "scrollTakes", apart := false }
def ScrollTakesSaid : Prop := scrollTakesRow.holds Try.pinned (OpenSpec.ofChange scrollTakesSpec)

/-- ITS FALSE NEIGHBOUR: 'it returns false'. Refute it at one input. -/
def scrollTakesWrong : ChangeSpec := { name := "scrollTakes", fn := fun _ => fun
  | [d1, d2] => { results := [.lit (.bool false)], args := [d1, d2] }
  | _ => none }
def ScrollTakesWrongFalsely : Prop := scrollTakesRow.holds Try.pinned (OpenSpec.ofChange scrollTakesWrong)

/-- 'decoupagelaw05.ScrollNil': WHATEVER THE INPUT: true; the input reads as it did. -/
def scrollNilSpec : ChangeSpec := { name := "scrollNil", fn := fun _ => fun
  | [d] => { results := [.lit (.bool true)], args := [d] }
  | _ => none }
def scrollNilRow : OpenClaim := { program := "ytbgnaeagdneikaa", sum := "e5e7cc0adb6b208314e4b777f4fedb95f688b0fd82bfe6bfce958197daac29a6", func := "decoupage/decoupagelaw05.ScrollNil", spec := "scrollNil", apart := false }
def ScrollNilSaid : Prop := scrollNilRow.holds Try.pinned (OpenSpec.ofChange scrollNilSpec)

/-- ITS FALSE NEIGHBOUR: 'it returns false'. Refute it at one input. -/
def scrollNilWrong : ChangeSpec := { name := "scrollNil", fn := fun _ => fun
  | [d] => { results := [.lit (.bool false)], args := [d] }
  | _ => none }
def ScrollNilWrongFalsely : Prop := scrollNilRow.holds Try.pinned (OpenSpec.ofChange scrollNilWrong)

/-- 'decoupagelaw06.StyleCuts': WHATEVER THE INPUT: true; the input reads as it did. -/
def styleCutsSpec : ChangeSpec := { name := "styleCuts", fn := fun _ => fun
  | [d1, d2] => { results := [.lit (.bool true)], args := [d1, d2] }
  | _ => none }
def styleCutsRow : OpenClaim := { program := "ytbgnaeagdneikaa", sum := "e5e7cc0adb6b208314e4b777f4fedb95f688b0fd82bfe6bfce958197daac29a6", func := "decoupage/decoupagelaw06.StyleCuts", spec := "styleCuts", unfollowed := true, recurses := true, apart := false }
def StyleCutsSaid : Prop := styleCutsRow.holds Try.pinned (OpenSpec.ofChange styleCutsSpec)

/-- ITS FALSE NEIGHBOUR: 'it returns false'. Refute it at one input. -/
def styleCutsWrong : ChangeSpec := { name := "styleCuts", fn := fun _ => fun
  | [d1, d2] => { results := [.lit (.bool false)], args := [d1, d2] }
  | _ => none }
def StyleCutsWrongFalsely : Prop := styleCutsRow.holds Try.pinned (OpenSpec.ofChange styleCutsWrong)

/-- 'decoupagelaw06.StyleGets': WHATEVER THE INPUT: true; the input reads as it did. -/
def styleGetsSpec : ChangeSpec := { name := "styleGets", fn := fun _ => fun
  | [d] => { results := [.lit (.bool true)], args := [d] }
  | _ => none }
def styleGetsRow : OpenClaim := { program := "ytbgnaeagdneikaa", sum := "e5e7cc0adb6b208314e4b777f4fedb95f688b0fd82bfe6bfce958197daac29a6", func := "decoupage/decoupagelaw06.StyleGets", spec := "styleGets", unfollowed := true, recurses := true, apart := false }
def StyleGetsSaid : Prop := styleGetsRow.holds Try.pinned (OpenSpec.ofChange styleGetsSpec)

/-- ITS FALSE NEIGHBOUR: 'it returns false'. Refute it at one input. -/
def styleGetsWrong : ChangeSpec := { name := "styleGets", fn := fun _ => fun
  | [d] => { results := [.lit (.bool false)], args := [d] }
  | _ => none }
def StyleGetsWrongFalsely : Prop := styleGetsRow.holds Try.pinned (OpenSpec.ofChange styleGetsWrong)

/-- 'decoupagelaw30.PlateEncodes': WHATEVER THE INPUT: true; the input reads as it did. -/
def plateEncodesSpec : ChangeSpec := { name := "plateEncodes", fn := fun _ => fun
  | [d] => { results := [.lit (.bool true)], args := [d] }
  | _ => none }
def plateEncodesRow : OpenClaim := { program := "ytbgnaeagdneikaa", sum := "e5e7cc0adb6b208314e4b777f4fedb95f688b0fd82bfe6bfce958197daac29a6", func := "decoupage/decoupagelaw30.PlateEncodes", spec := "plateEncodes", unfollowed := true, recurses := true, apart := false }
def PlateEncodesSaid : Prop := plateEncodesRow.holds Try.pinned (OpenSpec.ofChange plateEncodesSpec)

/-- ITS FALSE NEIGHBOUR: 'it returns false'. Refute it at one input. -/
def plateEncodesWrong : ChangeSpec := { name := "plateEncodes", fn := fun _ => fun
  | [d] => { results := [.lit (.bool false)], args := [d] }
  | _ => none }
def PlateEncodesWrongFalsely : Prop := plateEncodesRow.holds Try.pinned (OpenSpec.ofChange plateEncodesWrong)

/-- 'decoupagelaw30.PlateDecodes': WHATEVER THE INPUT: true; the input reads as it did. -/
def plateDecodesSpec : ChangeSpec := { name := "plateDecodes", fn := fun _ => fun
  | [d] => { results := [.lit (.bool true)], args := [d] }
  | _ => none }
def plateDecodesRow : OpenClaim := { program := "ytbgnaeagdneikaa", sum := "e5e7cc0adb6b208314e4b777f4fedb95f688b0fd82bfe6bfce958197daac29a6", func := "decoupage/decoupagelaw30.PlateDecodes", spec := "plateDecodes", unfollowed := true, recurses := true, apart := false }
def PlateDecodesSaid : Prop := plateDecodesRow.holds Try.pinned (OpenSpec.ofChange plateDecodesSpec)

/-- ITS FALSE NEIGHBOUR: 'it returns false'. Refute it at one input. -/
def plateDecodesWrong : ChangeSpec := { name := "plateDecodes", fn := fun _ => fun
  | [d] => { results := [.lit (.bool false)], args := [d] }
  | _ => none }
def PlateDecodesWrongFalsely : Prop := plateDecodesRow.holds Try.pinned (OpenSpec.ofChange plateDecodesWrong)

/-- 'decoupagelaw30.PlateCuts': WHATEVER THE INPUT: true; the input reads as it did. -/
def plateCutsSpec : ChangeSpec := { name := "plateCuts", fn := fun _ => fun
  | [d1, d2, d3] => { results := [.lit (.bool true)], args := [d1, d2, d3] }
  | _ => none }
def plateCutsRow : OpenClaim := { program := "ytbgnaeagdneikaa", sum := "e5e7cc0adb6b208314e4b777f4fedb95f688b0fd82bfe6bfce958197daac29a6", func := "decoupage/decoupagelaw30.PlateCuts", spec := "plateCuts", unfollowed := true, recurses := true, apart := false }
def PlateCutsSaid : Prop := plateCutsRow.holds Try.pinned (OpenSpec.ofChange plateCutsSpec)

/-- ITS FALSE NEIGHBOUR: 'it returns false'. Refute it at one input. -/
def plateCutsWrong : ChangeSpec := { name := "plateCuts", fn := fun _ => fun
  | [d1, d2, d3] => { results := [.lit (.bool false)], args := [d1, d2, d3] }
  | _ => none }
def PlateCutsWrongFalsely : Prop := plateCutsRow.holds Try.pinned (OpenSpec.ofChange plateCutsWrong)

/-- 'decoupagelaw07.TreeForms': WHATEVER THE INPUT: true; the input reads as it did. -/
def treeFormsSpec : ChangeSpec := { name := "treeForms", fn := fun _ => fun
  | [d] => { results := [.lit (.bool true)], args := [d] }
  | _ => none }
def treeFormsRow : OpenClaim := { program := "ytbgnaeagdneikaa", sum := "e5e7cc0adb6b208314e4b777f4fedb95f688b0fd82bfe6bfce958197daac29a6", func := "decoupage/decoupagelaw07.TreeForms", spec := "treeForms", unfollowed := true, recurses := true, apart := false }
def TreeFormsSaid : Prop := treeFormsRow.holds Try.pinned (OpenSpec.ofChange treeFormsSpec)

/-- ITS FALSE NEIGHBOUR: 'it returns false'. Refute it at one input. -/
def treeFormsWrong : ChangeSpec := { name := "treeForms", fn := fun _ => fun
  | [d] => { results := [.lit (.bool false)], args := [d] }
  | _ => none }
def TreeFormsWrongFalsely : Prop := treeFormsRow.holds Try.pinned (OpenSpec.ofChange treeFormsWrong)

/-- 'decoupagelaw07.TreeDeep': WHATEVER THE INPUT: true; the input reads as it did. -/
def treeDeepSpec : ChangeSpec := { name := "treeDeep", fn := fun _ => fun
  | [d] => { results := [.lit (.bool true)], args := [d] }
  | _ => none }
def treeDeepRow : OpenClaim := { program := "ytbgnaeagdneikaa", sum := "e5e7cc0adb6b208314e4b777f4fedb95f688b0fd82bfe6bfce958197daac29a6", func := "decoupage/decoupagelaw07.TreeDeep", spec := "treeDeep", unfollowed := true, recurses := true, apart := false }
def TreeDeepSaid : Prop := treeDeepRow.holds Try.pinned (OpenSpec.ofChange treeDeepSpec)

/-- ITS FALSE NEIGHBOUR: 'it returns false'. Refute it at one input. -/
def treeDeepWrong : ChangeSpec := { name := "treeDeep", fn := fun _ => fun
  | [d] => { results := [.lit (.bool false)], args := [d] }
  | _ => none }
def TreeDeepWrongFalsely : Prop := treeDeepRow.holds Try.pinned (OpenSpec.ofChange treeDeepWrong)

/-- 'decoupagelaw06.StylePuts': WHATEVER THE INPUT: true; the input reads as it did. -/
def stylePutsSpec : ChangeSpec := { name := "stylePuts", fn := fun _ => fun
  | [d1, d2] => { results := [.lit (.bool true)], args := [d1, d2] }
  | _ => none }
def stylePutsRow : OpenClaim := { program := "ytbgnaeagdneikaa", sum := "e5e7cc0adb6b208314e4b777f4fedb95f688b0fd82bfe6bfce958197daac29a6", func := "decoupage/decoupagelaw06.StylePuts", spec := "stylePuts", unfollowed := true, recurses := true, apart := false }
def StylePutsSaid : Prop := stylePutsRow.holds Try.pinned (OpenSpec.ofChange stylePutsSpec)

/-- ITS FALSE NEIGHBOUR: 'it returns false'. Refute it at one input. -/
def stylePutsWrong : ChangeSpec := { name := "stylePuts", fn := fun _ => fun
  | [d1, d2] => { results := [.lit (.bool false)], args := [d1, d2] }
  | _ => none }
def StylePutsWrongFalsely : Prop := stylePutsRow.holds Try.pinned (OpenSpec.ofChange stylePutsWrong)

/-- 'decoupagelaw07.TreeDecodes': WHATEVER THE INPUT: true; the input reads as it did. -/
def treeDecodesSpec : ChangeSpec := { name := "treeDecodes", fn := fun _ => fun
  | [d] => { results := [.lit (.bool true)], args := [d] }
  | _ => none }
def treeDecodesRow : OpenClaim := { program := "ytbgnaeagdneikaa", sum := "e5e7cc0adb6b208314e4b777f4fedb95f688b0fd82bfe6bfce958197daac29a6", func := "decoupage/decoupagelaw07.TreeDecodes", spec := "treeDecodes", unfollowed := true, recurses := true, apart := false }
def TreeDecodesSaid : Prop := treeDecodesRow.holds Try.pinned (OpenSpec.ofChange treeDecodesSpec)

/-- ITS FALSE NEIGHBOUR: 'it returns false'. Refute it at one input. -/
def treeDecodesWrong : ChangeSpec := { name := "treeDecodes", fn := fun _ => fun
  | [d] => { results := [.lit (.bool false)], args := [d] }
  | _ => none }
def TreeDecodesWrongFalsely : Prop := treeDecodesRow.holds Try.pinned (OpenSpec.ofChange treeDecodesWrong)

/-- 'decoupagelaw07.TreeCounts': WHATEVER THE INPUT: true; the input reads as it did. -/
def treeCountsSpec : ChangeSpec := { name := "treeCounts", fn := fun _ => fun
  | [d1, d2, d3] => { results := [.lit (.bool true)], args := [d1, d2, d3] }
  | _ => none }
def treeCountsRow : OpenClaim := { program := "ytbgnaeagdneikaa", sum := "e5e7cc0adb6b208314e4b777f4fedb95f688b0fd82bfe6bfce958197daac29a6", func := "decoupage/decoupagelaw07.TreeCounts", spec := "treeCounts", unfollowed := true, recurses := true, apart := false }
def TreeCountsSaid : Prop := treeCountsRow.holds Try.pinned (OpenSpec.ofChange treeCountsSpec)

/-- ITS FALSE NEIGHBOUR: 'it returns false'. Refute it at one input. -/
def treeCountsWrong : ChangeSpec := { name := "treeCounts", fn := fun _ => fun
  | [d1, d2, d3] => { results := [.lit (.bool false)], args := [d1, d2, d3] }
  | _ => none }
def TreeCountsWrongFalsely : Prop := treeCountsRow.holds Try.pinned (OpenSpec.ofChange treeCountsWrong)

/-- 'decoupagelaw07.TreeEncodes': WHATEVER THE INPUT: true; the input reads as it did. -/
def treeEncodesSpec : ChangeSpec := { name := "treeEncodes", fn := fun _ => fun
  | [d] => { results := [.lit (.bool true)], args := [d] }
  | _ => none }
def treeEncodesRow : OpenClaim := { program := "ytbgnaeagdneikaa", sum := "e5e7cc0adb6b208314e4b777f4fedb95f688b0fd82bfe6bfce958197daac29a6", func := "decoupage/decoupagelaw07.TreeEncodes", spec := "treeEncodes", unfollowed := true, recurses := true, apart := false }
def TreeEncodesSaid : Prop := treeEncodesRow.holds Try.pinned (OpenSpec.ofChange treeEncodesSpec)

/-- ITS FALSE NEIGHBOUR: 'it returns false'. Refute it at one input. -/
def treeEncodesWrong : ChangeSpec := { name := "treeEncodes", fn := fun _ => fun
  | [d] => { results := [.lit (.bool false)], args := [d] }
  | _ => none }
def TreeEncodesWrongFalsely : Prop := treeEncodesRow.holds Try.pinned (OpenSpec.ofChange treeEncodesWrong)

/- THE SECOND FORM. 'bulk': how many values and letters a reading holds, each counted each time it is reached (what is shared counts as often as it is met; a slice's spare places count too). A statement '..UptoSaid' is the law's where the arguments, and the package variables that the reading takes, are together of bulk at most 1048576: NARROWER than '..Said'. Prove '..Said' where nothing that the law and all that it calls make is longer than what came in: it says more and counts as full. Else prove '..UptoSaid'. A law counts once. -/
mutual
def uptoBulk {H : Type} : DataW H → Nat
  | .lit (.string bytes) => bytes.length + 1
  | .lit _ => 1
  | .nil => 1
  | .ptr d => uptoBulk d + 1
  | .slice elems spare => uptoBulkAll elems + uptoBulkAll spare + 1
  | .agg parts => uptoBulkAll parts + 1
  | .iface _ d => uptoBulk d + 1
  | .map entries => uptoBulkEntries entries + 1
  | .held _ => 1
def uptoBulkAll {H : Type} : List (DataW H) → Nat
  | [] => 0
  | d :: r => uptoBulk d + uptoBulkAll r
def uptoBulkEntries {H : Type} : List (Lit × DataW H) → Nat
  | [] => 0
  | x :: r => uptoBulkEntry x + uptoBulkEntries r
def uptoBulkEntry {H : Type} : Lit × DataW H → Nat
  | (.string bytes, d) => bytes.length + uptoBulk d + 1
  | (_, d) => uptoBulk d + 1
 end
def uptoSmall : (H : Type) → List (DataW H) → Bool := fun _ ds => decide (uptoBulkAll ds ≤ 1048576)
def OpenSpec.upto (s : _root_.Go.ChangeSpec) : _root_.Go.OpenSpec := { _root_.Go.OpenSpec.ofChange s with cond := some uptoSmall }

/-- 'decoupagelaw06.StyleForms', WHERE WHAT IT READS IS OF BULK AT MOST 1048576: true; the input reads as it did. -/
def styleFormsUptoRow : OpenClaim := { program := "ytbgnaeagdneikaa", sum := "e5e7cc0adb6b208314e4b777f4fedb95f688b0fd82bfe6bfce958197daac29a6", func := "decoupage/decoupagelaw06.StyleForms", spec := "styleForms", unfollowed := true, recurses := true, apart := false, narrowed := true }
def StyleFormsUptoSaid : Prop := styleFormsUptoRow.holds Try.pinned (OpenSpec.upto styleFormsSpec)

/-- 'decoupagelaw05.ScrollPuts', WHERE WHAT IT READS IS OF BULK AT MOST 1048576: true; the input reads as it did. -/
def scrollPutsUptoRow : OpenClaim := { program := "ytbgnaeagdneikaa", sum := "e5e7cc0adb6b208314e4b777f4fedb95f688b0fd82bfe6bfce958197daac29a6", func := "decoupage/decoupagelaw05.ScrollPuts", spec := "scrollPuts", recurses := true, apart := false, narrowed := true }
def ScrollPutsUptoSaid : Prop := scrollPutsUptoRow.holds Try.pinned (OpenSpec.upto scrollPutsSpec)

/-- 'decoupagelaw05.ScrollBack', WHERE WHAT IT READS IS OF BULK AT MOST 1048576: true; the input reads as it did. -/
def scrollBackUptoRow : OpenClaim := { program := "ytbgnaeagdneikaa", sum := "e5e7cc0adb6b208314e4b777f4fedb95f688b0fd82bfe6bfce958197daac29a6", func := "decoupage/decoupagelaw05.ScrollBack", spec := "scrollBack", apart := false, narrowed := true }
def ScrollBackUptoSaid : Prop := scrollBackUptoRow.holds Try.pinned (OpenSpec.upto scrollBackSpec)

/-- 'decoupagelaw05.ScrollTakes', WHERE WHAT IT READS IS OF BULK AT MOST 1048576: true; the input reads as it did. -/
def scrollTakesUptoRow : OpenClaim := { program := "ytbgnaeagdneikaa", sum := "e5e7cc0adb6b208314e4b777f4fedb95f688b0fd82bfe6bfce958197daac29a6", func := "decoupage/decoupagelaw05.ScrollTakes", spec := "scrollTakes", apart := false, narrowed := true }
def ScrollTakesUptoSaid : Prop := scrollTakesUptoRow.holds Try.pinned (OpenSpec.upto scrollTakesSpec)

/-- 'decoupagelaw05.ScrollNil', WHERE WHAT IT READS IS OF BULK AT MOST 1048576: true; the input reads as it did. -/
def scrollNilUptoRow : OpenClaim := { program := "ytbgnaeagdneikaa", sum := "e5e7cc0adb6b208314e4b777f4fedb95f688b0fd82bfe6bfce958197daac29a6", func := "decoupage/decoupagelaw05.ScrollNil", spec := "scrollNil", apart := false, narrowed := true }
def ScrollNilUptoSaid : Prop := scrollNilUptoRow.holds Try.pinned (OpenSpec.upto scrollNilSpec)

/-- 'decoupagelaw06.StyleCuts', WHERE WHAT IT READS IS OF BULK AT MOST 1048576: true; the input reads as it did. -/
def styleCutsUptoRow : OpenClaim := { program := "ytbgnaeagdneikaa", sum := "e5e7cc0adb6b208314e4b777f4fedb95f688b0fd82bfe6bfce958197daac29a6", func := "decoupage/decoupagelaw06.StyleCuts", spec := "styleCuts", unfollowed := true, recurses := true, apart := false, narrowed := true }
def StyleCutsUptoSaid : Prop := styleCutsUptoRow.holds Try.pinned (OpenSpec.upto styleCutsSpec)

/-- 'decoupagelaw06.StyleGets', WHERE WHAT IT READS IS OF BULK AT MOST 1048576: true; the input reads as it did. -/
def styleGetsUptoRow : OpenClaim := { program := "ytbgnaeagdneikaa", sum := "e5e7cc0adb6b208314e4b777f4fedb95f688b0fd82bfe6bfce958197daac29a6", func := "decoupage/decoupagelaw06.StyleGets", spec := "styleGets", unfollowed := true, recurses := true, apart := false, narrowed := true }
def StyleGetsUptoSaid : Prop := styleGetsUptoRow.holds Try.pinned (OpenSpec.upto styleGetsSpec)

/-- 'decoupagelaw30.PlateEncodes', WHERE WHAT IT READS IS OF BULK AT MOST 1048576: true; the input reads as it did. -/
def plateEncodesUptoRow : OpenClaim := { program := "ytbgnaeagdneikaa", sum := "e5e7cc0adb6b208314e4b777f4fedb95f688b0fd82bfe6bfce958197daac29a6", func := "decoupage/decoupagelaw30.PlateEncodes", spec := "plateEncodes", unfollowed := true, recurses := true, apart := false, narrowed := true }
def PlateEncodesUptoSaid : Prop := plateEncodesUptoRow.holds Try.pinned (OpenSpec.upto plateEncodesSpec)

/-- 'decoupagelaw30.PlateDecodes', WHERE WHAT IT READS IS OF BULK AT MOST 1048576: true; the input reads as it did. -/
def plateDecodesUptoRow : OpenClaim := { program := "ytbgnaeagdneikaa", sum := "e5e7cc0adb6b208314e4b777f4fedb95f688b0fd82bfe6bfce958197daac29a6", func := "decoupage/decoupagelaw30.PlateDecodes", spec := "plateDecodes", unfollowed := true, recurses := true, apart := false, narrowed := true }
def PlateDecodesUptoSaid : Prop := plateDecodesUptoRow.holds Try.pinned (OpenSpec.upto plateDecodesSpec)

/-- 'decoupagelaw30.PlateCuts', WHERE WHAT IT READS IS OF BULK AT MOST 1048576: true; the input reads as it did. -/
def plateCutsUptoRow : OpenClaim := { program := "ytbgnaeagdneikaa", sum := "e5e7cc0adb6b208314e4b777f4fedb95f688b0fd82bfe6bfce958197daac29a6", func := "decoupage/decoupagelaw30.PlateCuts", spec := "plateCuts", unfollowed := true, recurses := true, apart := false, narrowed := true }
def PlateCutsUptoSaid : Prop := plateCutsUptoRow.holds Try.pinned (OpenSpec.upto plateCutsSpec)

/-- 'decoupagelaw07.TreeForms', WHERE WHAT IT READS IS OF BULK AT MOST 1048576: true; the input reads as it did. -/
def treeFormsUptoRow : OpenClaim := { program := "ytbgnaeagdneikaa", sum := "e5e7cc0adb6b208314e4b777f4fedb95f688b0fd82bfe6bfce958197daac29a6", func := "decoupage/decoupagelaw07.TreeForms", spec := "treeForms", unfollowed := true, recurses := true, apart := false, narrowed := true }
def TreeFormsUptoSaid : Prop := treeFormsUptoRow.holds Try.pinned (OpenSpec.upto treeFormsSpec)

/-- 'decoupagelaw07.TreeDeep', WHERE WHAT IT READS IS OF BULK AT MOST 1048576: true; the input reads as it did. -/
def treeDeepUptoRow : OpenClaim := { program := "ytbgnaeagdneikaa", sum := "e5e7cc0adb6b208314e4b777f4fedb95f688b0fd82bfe6bfce958197daac29a6", func := "decoupage/decoupagelaw07.TreeDeep", spec := "treeDeep", unfollowed := true, recurses := true, apart := false, narrowed := true }
def TreeDeepUptoSaid : Prop := treeDeepUptoRow.holds Try.pinned (OpenSpec.upto treeDeepSpec)

/-- 'decoupagelaw06.StylePuts', WHERE WHAT IT READS IS OF BULK AT MOST 1048576: true; the input reads as it did. -/
def stylePutsUptoRow : OpenClaim := { program := "ytbgnaeagdneikaa", sum := "e5e7cc0adb6b208314e4b777f4fedb95f688b0fd82bfe6bfce958197daac29a6", func := "decoupage/decoupagelaw06.StylePuts", spec := "stylePuts", unfollowed := true, recurses := true, apart := false, narrowed := true }
def StylePutsUptoSaid : Prop := stylePutsUptoRow.holds Try.pinned (OpenSpec.upto stylePutsSpec)

/-- 'decoupagelaw07.TreeDecodes', WHERE WHAT IT READS IS OF BULK AT MOST 1048576: true; the input reads as it did. -/
def treeDecodesUptoRow : OpenClaim := { program := "ytbgnaeagdneikaa", sum := "e5e7cc0adb6b208314e4b777f4fedb95f688b0fd82bfe6bfce958197daac29a6", func := "decoupage/decoupagelaw07.TreeDecodes", spec := "treeDecodes", unfollowed := true, recurses := true, apart := false, narrowed := true }
def TreeDecodesUptoSaid : Prop := treeDecodesUptoRow.holds Try.pinned (OpenSpec.upto treeDecodesSpec)

/-- 'decoupagelaw07.TreeCounts', WHERE WHAT IT READS IS OF BULK AT MOST 1048576: true; the input reads as it did. -/
def treeCountsUptoRow : OpenClaim := { program := "ytbgnaeagdneikaa", sum := "e5e7cc0adb6b208314e4b777f4fedb95f688b0fd82bfe6bfce958197daac29a6", func := "decoupage/decoupagelaw07.TreeCounts", spec := "treeCounts", unfollowed := true, recurses := true, apart := false, narrowed := true }
def TreeCountsUptoSaid : Prop := treeCountsUptoRow.holds Try.pinned (OpenSpec.upto treeCountsSpec)

/-- 'decoupagelaw07.TreeEncodes', WHERE WHAT IT READS IS OF BULK AT MOST 1048576: true; the input reads as it did. -/
def treeEncodesUptoRow : OpenClaim := { program := "ytbgnaeagdneikaa", sum := "e5e7cc0adb6b208314e4b777f4fedb95f688b0fd82bfe6bfce958197daac29a6", func := "decoupage/decoupagelaw07.TreeEncodes", spec := "treeEncodes", unfollowed := true, recurses := true, apart := false, narrowed := true }
def TreeEncodesUptoSaid : Prop := treeEncodesUptoRow.holds Try.pinned (OpenSpec.upto treeEncodesSpec)

end Rows
end Go.Proofs.Ytbgnaeagdneikaa
