/-
  No cell of these rows narrows 'for every input' (looked for: loops, veiled, ifaces, maps, wideKeys, modest, calm, conditions, laid).
  DERIVED. THE GIVEN ROWS OF THIS SEAT. 6 by the template 'for every input the law returns true; each argument reads behind the call as it read before'; 0 by the template 'total and deterministic' (their statements: YtegaklgjcicnfaaGreatTotals.lean).
  GIVEN WITH THE SEED: the statements are not yours to turn. If you find one false, say at which input.
  Laid BY PROGRAM, IN A SANDBOX (cutbox-rows.mjs): the forced cells as the released guide's own fill.sh prints them over the translation bb6a4d5178ebfd5c… (all of the seat's roots in one cut). By AI agents, Wed Nov 11 2026. No macro, syntax, notation, axiom, sorry.
-/
import Derived.Test.YtegaklgjcicnfaaGreatChecked
import GoSem.Claim
import GoSem.ClaimJoined
import GoSem.ClaimMapViews
import Derived.JoinedTies
import Derived.KernelRfl
namespace Go.Proofs.YtegaklgjcicnfaaGreat
/- THE CELL 'sum', in the pinned program and in every row, IS THE sha256 OF THE DUMP (.gsa) THAT YtegaklgjcicnfaaGreatProg.lean LOADS. Nothing in Lean hashes anything: it is a label: what it is worth is what the hold of that sum in a sandbox is worth. -/
noncomputable def Tryz.pinned : Pinned := { name := "ytegaklgjcicnfaagreat", sum := "bb6a4d5178ebfd5c587832d9b4ec65f8999cd81dfdc578e0fbf8d5f06d73fa46", checked := Tryz.checked }
namespace Rows
def none {H : Type} : Left H := { results := [], args := [] }

/-- 'decoupagetop.TopOnce': WHATEVER THE INPUT: true; the input reads as it did. -/
def topOnceSpec : ChangeSpec := { name := "topOnce", fn := fun _ => fun
  | [d1, d2] => { results := [.lit (.bool true)], args := [d1, d2] }
  | _ => none }
def topOnceRow : OpenClaim := { program := "ytegaklgjcicnfaagreat", sum := "bb6a4d5178ebfd5c587832d9b4ec65f8999cd81dfdc578e0fbf8d5f06d73fa46", func := "decoupage/decoupagetop.TopOnce", spec := "topOnce", inPlace := ["slices.overlaps[int]"], unfollowed := true, recurses := true, apart := false }
def TopOnceSaid : Prop := topOnceRow.holds Tryz.pinned (OpenSpec.ofChange topOnceSpec)

/-- ITS FALSE NEIGHBOUR: 'it returns false'. Refute it at one input. -/
def topOnceWrong : ChangeSpec := { name := "topOnce", fn := fun _ => fun
  | [d1, d2] => { results := [.lit (.bool false)], args := [d1, d2] }
  | _ => none }
def TopOnceWrongFalsely : Prop := topOnceRow.holds Tryz.pinned (OpenSpec.ofChange topOnceWrong)

/-- 'decoupagetop.TopOrder': WHATEVER THE INPUT: true; the input reads as it did. -/
def topOrderSpec : ChangeSpec := { name := "topOrder", fn := fun _ => fun
  | [d1, d2] => { results := [.lit (.bool true)], args := [d1, d2] }
  | _ => none }
def topOrderRow : OpenClaim := { program := "ytegaklgjcicnfaagreat", sum := "bb6a4d5178ebfd5c587832d9b4ec65f8999cd81dfdc578e0fbf8d5f06d73fa46", func := "decoupage/decoupagetop.TopOrder", spec := "topOrder", inPlace := ["slices.overlaps[int]"], unfollowed := true, recurses := true, apart := false }
def TopOrderSaid : Prop := topOrderRow.holds Tryz.pinned (OpenSpec.ofChange topOrderSpec)

/-- ITS FALSE NEIGHBOUR: 'it returns false'. Refute it at one input. -/
def topOrderWrong : ChangeSpec := { name := "topOrder", fn := fun _ => fun
  | [d1, d2] => { results := [.lit (.bool false)], args := [d1, d2] }
  | _ => none }
def TopOrderWrongFalsely : Prop := topOrderRow.holds Tryz.pinned (OpenSpec.ofChange topOrderWrong)

/-- 'decoupagetop.TopClips': WHATEVER THE INPUT: true; the input reads as it did. -/
def topClipsSpec : ChangeSpec := { name := "topClips", fn := fun _ => fun
  | [d1, d2, d3, d4] => { results := [.lit (.bool true)], args := [d1, d2, d3, d4] }
  | _ => none }
def topClipsRow : OpenClaim := { program := "ytegaklgjcicnfaagreat", sum := "bb6a4d5178ebfd5c587832d9b4ec65f8999cd81dfdc578e0fbf8d5f06d73fa46", func := "decoupage/decoupagetop.TopClips", spec := "topClips", inPlace := ["slices.overlaps[int]"], unfollowed := true, recurses := true, apart := false }
def TopClipsSaid : Prop := topClipsRow.holds Tryz.pinned (OpenSpec.ofChange topClipsSpec)

/-- ITS FALSE NEIGHBOUR: 'it returns false'. Refute it at one input. -/
def topClipsWrong : ChangeSpec := { name := "topClips", fn := fun _ => fun
  | [d1, d2, d3, d4] => { results := [.lit (.bool false)], args := [d1, d2, d3, d4] }
  | _ => none }
def TopClipsWrongFalsely : Prop := topClipsRow.holds Tryz.pinned (OpenSpec.ofChange topClipsWrong)

/-- 'decoupagetop.TopOwner': WHATEVER THE INPUT: true; the input reads as it did. -/
def topOwnerSpec : ChangeSpec := { name := "topOwner", fn := fun _ => fun
  | [d1, d2, d3, d4] => { results := [.lit (.bool true)], args := [d1, d2, d3, d4] }
  | _ => none }
def topOwnerRow : OpenClaim := { program := "ytegaklgjcicnfaagreat", sum := "bb6a4d5178ebfd5c587832d9b4ec65f8999cd81dfdc578e0fbf8d5f06d73fa46", func := "decoupage/decoupagetop.TopOwner", spec := "topOwner", inPlace := ["slices.overlaps[int]"], unfollowed := true, recurses := true, apart := false }
def TopOwnerSaid : Prop := topOwnerRow.holds Tryz.pinned (OpenSpec.ofChange topOwnerSpec)

/-- ITS FALSE NEIGHBOUR: 'it returns false'. Refute it at one input. -/
def topOwnerWrong : ChangeSpec := { name := "topOwner", fn := fun _ => fun
  | [d1, d2, d3, d4] => { results := [.lit (.bool false)], args := [d1, d2, d3, d4] }
  | _ => none }
def TopOwnerWrongFalsely : Prop := topOwnerRow.holds Tryz.pinned (OpenSpec.ofChange topOwnerWrong)

/-- 'decoupagetop.TopCulls': WHATEVER THE INPUT: true; the input reads as it did. -/
def topCullsSpec : ChangeSpec := { name := "topCulls", fn := fun _ => fun
  | [d1, d2] => { results := [.lit (.bool true)], args := [d1, d2] }
  | _ => none }
def topCullsRow : OpenClaim := { program := "ytegaklgjcicnfaagreat", sum := "bb6a4d5178ebfd5c587832d9b4ec65f8999cd81dfdc578e0fbf8d5f06d73fa46", func := "decoupage/decoupagetop.TopCulls", spec := "topCulls", inPlace := ["slices.overlaps[int]"], unfollowed := true, recurses := true, apart := false }
def TopCullsSaid : Prop := topCullsRow.holds Tryz.pinned (OpenSpec.ofChange topCullsSpec)

/-- ITS FALSE NEIGHBOUR: 'it returns false'. Refute it at one input. -/
def topCullsWrong : ChangeSpec := { name := "topCulls", fn := fun _ => fun
  | [d1, d2] => { results := [.lit (.bool false)], args := [d1, d2] }
  | _ => none }
def TopCullsWrongFalsely : Prop := topCullsRow.holds Tryz.pinned (OpenSpec.ofChange topCullsWrong)

/-- 'decoupagetop.TopGround': WHATEVER THE INPUT: true; the input reads as it did. -/
def topGroundSpec : ChangeSpec := { name := "topGround", fn := fun _ => fun
  | [d1, d2] => { results := [.lit (.bool true)], args := [d1, d2] }
  | _ => none }
def topGroundRow : OpenClaim := { program := "ytegaklgjcicnfaagreat", sum := "bb6a4d5178ebfd5c587832d9b4ec65f8999cd81dfdc578e0fbf8d5f06d73fa46", func := "decoupage/decoupagetop.TopGround", spec := "topGround", inPlace := ["slices.overlaps[int]"], unfollowed := true, recurses := true, apart := false }
def TopGroundSaid : Prop := topGroundRow.holds Tryz.pinned (OpenSpec.ofChange topGroundSpec)

/-- ITS FALSE NEIGHBOUR: 'it returns false'. Refute it at one input. -/
def topGroundWrong : ChangeSpec := { name := "topGround", fn := fun _ => fun
  | [d1, d2] => { results := [.lit (.bool false)], args := [d1, d2] }
  | _ => none }
def TopGroundWrongFalsely : Prop := topGroundRow.holds Tryz.pinned (OpenSpec.ofChange topGroundWrong)

/- THE SECOND FORM. 'bulk': how many values and letters a reading holds, each counted each time it is reached (what is shared counts as often as it is met; a slice's spare places count too). A statement '..UptoSaid' is the law's where the arguments, and the package variables that the reading takes, are together of bulk at most 1048576: NARROWER than '..Said'. Prove '..Said' where nothing that the law and all that it calls make is longer than what came in: it says more and counts as full. Else prove '..UptoSaid'. A law counts once. -/
mutual
def uptoBulk {H : Type} : DataW H → Nat
  | .lit (.string bytes) => bytes.length + 1
  | .lit _ => 1
  | .nil => 1
  | .ptr d => uptoBulk d + 1
  | .slice elems spare => uptoBulkAll elems + uptoBulkAll spare + 1
  | .agg parts => uptoBulkAll parts + 1
  | .iface _ d => uptoBulk d + 1
  | .map entries => uptoBulkEntries entries + 1
  | .held _ => 1
def uptoBulkAll {H : Type} : List (DataW H) → Nat
  | [] => 0
  | d :: r => uptoBulk d + uptoBulkAll r
def uptoBulkEntries {H : Type} : List (Lit × DataW H) → Nat
  | [] => 0
  | x :: r => uptoBulkEntry x + uptoBulkEntries r
def uptoBulkEntry {H : Type} : Lit × DataW H → Nat
  | (.string bytes, d) => bytes.length + uptoBulk d + 1
  | (_, d) => uptoBulk d + 1
 end
def uptoSmall : (H : Type) → List (DataW H) → Bool := fun _ ds => decide (uptoBulkAll ds ≤ 1048576)
def OpenSpec.upto (s : _root_.Go.ChangeSpec) : _root_.Go.OpenSpec := { _root_.Go.OpenSpec.ofChange s with cond := some uptoSmall }

/-- 'decoupagetop.TopOnce', WHERE WHAT IT READS IS OF BULK AT MOST 1048576: true; the input reads as it did. -/
def topOnceUptoRow : OpenClaim := { program := "ytegaklgjcicnfaagreat", sum := "bb6a4d5178ebfd5c587832d9b4ec65f8999cd81dfdc578e0fbf8d5f06d73fa46", func := "decoupage/decoupagetop.TopOnce", spec := "topOnce", inPlace := ["slices.overlaps[int]"], unfollowed := true, recurses := true, apart := false, narrowed := true }
def TopOnceUptoSaid : Prop := topOnceUptoRow.holds Tryz.pinned (OpenSpec.upto topOnceSpec)

/-- 'decoupagetop.TopOrder', WHERE WHAT IT READS IS OF BULK AT MOST 1048576: true; the input reads as it did. -/
def topOrderUptoRow : OpenClaim := { program := "ytegaklgjcicnfaagreat", sum := "bb6a4d5178ebfd5c587832d9b4ec65f8999cd81dfdc578e0fbf8d5f06d73fa46", func := "decoupage/decoupagetop.TopOrder", spec := "topOrder", inPlace := ["slices.overlaps[int]"], unfollowed := true, recurses := true, apart := false, narrowed := true }
def TopOrderUptoSaid : Prop := topOrderUptoRow.holds Tryz.pinned (OpenSpec.upto topOrderSpec)

/-- 'decoupagetop.TopClips', WHERE WHAT IT READS IS OF BULK AT MOST 1048576: true; the input reads as it did. -/
def topClipsUptoRow : OpenClaim := { program := "ytegaklgjcicnfaagreat", sum := "bb6a4d5178ebfd5c587832d9b4ec65f8999cd81dfdc578e0fbf8d5f06d73fa46", func := "decoupage/decoupagetop.TopClips", spec := "topClips", inPlace := ["slices.overlaps[int]"], unfollowed := true, recurses := true, apart := false, narrowed := true }
def TopClipsUptoSaid : Prop := topClipsUptoRow.holds Tryz.pinned (OpenSpec.upto topClipsSpec)

/-- 'decoupagetop.TopOwner', WHERE WHAT IT READS IS OF BULK AT MOST 1048576: true; the input reads as it did. -/
def topOwnerUptoRow : OpenClaim := { program := "ytegaklgjcicnfaagreat", sum := "bb6a4d5178ebfd5c587832d9b4ec65f8999cd81dfdc578e0fbf8d5f06d73fa46", func := "decoupage/decoupagetop.TopOwner", spec := "topOwner", inPlace := ["slices.overlaps[int]"], unfollowed := true, recurses := true, apart := false, narrowed := true }
def TopOwnerUptoSaid : Prop := topOwnerUptoRow.holds Tryz.pinned (OpenSpec.upto topOwnerSpec)

/-- 'decoupagetop.TopCulls', WHERE WHAT IT READS IS OF BULK AT MOST 1048576: true; the input reads as it did. -/
def topCullsUptoRow : OpenClaim := { program := "ytegaklgjcicnfaagreat", sum := "bb6a4d5178ebfd5c587832d9b4ec65f8999cd81dfdc578e0fbf8d5f06d73fa46", func := "decoupage/decoupagetop.TopCulls", spec := "topCulls", inPlace := ["slices.overlaps[int]"], unfollowed := true, recurses := true, apart := false, narrowed := true }
def TopCullsUptoSaid : Prop := topCullsUptoRow.holds Tryz.pinned (OpenSpec.upto topCullsSpec)

/-- 'decoupagetop.TopGround', WHERE WHAT IT READS IS OF BULK AT MOST 1048576: true; the input reads as it did. -/
def topGroundUptoRow : OpenClaim := { program := "ytegaklgjcicnfaagreat", sum := "bb6a4d5178ebfd5c587832d9b4ec65f8999cd81dfdc578e0fbf8d5f06d73fa46", func := "decoupage/decoupagetop.TopGround", spec := "topGround", inPlace := ["slices.overlaps[int]"], unfollowed := true, recurses := true, apart := false, narrowed := true }
def TopGroundUptoSaid : Prop := topGroundUptoRow.holds Tryz.pinned (OpenSpec.upto topGroundSpec)

end Rows
end Go.Proofs.YtegaklgjcicnfaaGreat
