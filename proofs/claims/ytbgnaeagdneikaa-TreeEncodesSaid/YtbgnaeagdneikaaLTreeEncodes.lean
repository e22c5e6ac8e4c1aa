/- The statement TreeEncodes holds: its law returns true whatever it is called with, and what it was called with reads as before. -/
import Derived.Test.YtbgnaeagdneikaaTT2
import Derived.Test.YtbgnaeagdneikaaCoreAl
import Derived.Test.YtbgnaeagdneikaaRows
import Derived.WalkKit
import Derived.ProofKit
import Derived.OpenShut
import Derived.ChangeOld
import Derived.Below
import Derived.SizedLaws
namespace Go.Proofs.Ytbgnaeagdneikaa.TreeEncodes
open Go Go.Proofs.Ytbgnaeagdneikaa.Abs Go.ChangeShapes Go.WideShapes Go.ChangeAt Go.RowKit
set_option linter.unusedVariables false
theorem own : ownKnob Try.prog.godebug = none := by kernel_rfl
theorem laidOut : laidOutB Try.prog = true := by kernel_rfl
set_option maxRecDepth 100000 in
theorem lifted (os : Os) (started : os.Started) (H : Type) (enc : TypeId × Value → H) :
    ReturnsInHanded {} Try.checked os 18 .any (Rows.treeEncodesSpec.pre6 enc Try.prog Try.f18 Rows.treeEncodesRow.domain false) (Rows.treeEncodesSpec.post enc Try.prog Try.f18 false true false false) := by
  refine returnsInHanded_of_change_sized (C := Try.checked) own started (by kernel_rfl) Try.func18
    (ChangeSpec.witness6 (enc := enc) (C := Try.checked) false ⟨#[], #[.slice none 0 0], []⟩ 8 (by kernel_rfl) (by kernel_rfl) (by kernel_rfl) (by kernel_rfl)) ?_
  intro W base args ds gs before hval0 hW hcnd hsz0 _
  have hval : ∀ (j : Nat) t v, Try.f18.params[j]? = some t → args[j]? = some v → Value.okWide Try.prog W .any base t v := hval0
  have hW' := hW
  obtain ⟨p, q, hA0, hV, rfl, hfz, hnd⟩ := hW
  have hA : DataW.TrodAll enc Try.prog W 0 (fun _ => true) true Try.f18.params.toList args.toList ds p := hA0
  rw [Try.params18] at hA hval
  obtain ⟨v0, vs0, d0, ds0, p0, q0, hargs, rfl, rfl, h0, r0⟩ := trodAll_cons hA
  obtain ⟨rfl, rfl, rfl⟩ := trodAll_nil r0
  obtain rfl : args = #[v0] := by cases args; simp_all
  obtain ⟨rfl, rfl⟩ := trodVars_none hV
  have R0 := Rel.init W
  have hv0 := hval 0 _ v0 rfl rfl
  have lt0 : ∀ x ∈ p0, x.block < W.heap.size := by obtain ⟨m, hm⟩ := h0; exact DataW.trod_lt m _ _ _ hm
  obtain ⟨m0, S0, x0, n0, cs0, le0, R1, K0, V0, sl0, rows0, hm0⟩ := Rel.arg_slice (sh := ndSh) (n := 6) R0 Try.underlying79 hv0 h0 (by kernel_rfl) (by kernel_rfl) (of_decide_eq_true (by kernel_rfl))
  have sl0' := sl0
  refine (calls_of (args := [x0]) (treeEncodes' _ _ _ _ sl0' rows0) R1 (.cons V0 (.nil _))).mono fun e W' ⟨he, bel⟩ => ?_
  subst he
  exact ⟨_, rfl, _, _, _, [], _, [], hW', trodAll_mk1 (shut_bool Try.underlying4 _), (trodAll_cons_mk (Below.trod laidOut (by kernel_rfl) (of_decide_eq_true (by kernel_rfl)) h0 bel lt0) trodAll_mk0), rfl, bel.frame _, fun h => by cases h⟩
theorem over : Rows.treeEncodesRow.holds Try.pinned (OpenSpec.ofChange Rows.treeEncodesSpec) :=
  OpenClaim.holds_of_wide 18 Try.f18 rfl rfl rfl rfl rfl rfl rfl ⟨rfl, rfl, rfl, rfl, rfl⟩ rfl rfl rfl rfl rfl (by kernel_rfl) Try.func18 (by kernel_rfl)
    (of_decide_eq_true (by kernel_rfl)) (by unfold Func.isWrapper; first | (rw [if_pos (by decide +kernel)]; kernel_rfl) | (rw [if_neg (by decide +kernel)]; exact ⟨rfl, rfl⟩))
    (fun os started H enc _ => lifted os started H enc)
end Go.Proofs.Ytbgnaeagdneikaa.TreeEncodes
namespace Go.Proofs.Ytbgnaeagdneikaa
/-- The statement, under a short name. -/
theorem treeEncodes_holds : Rows.TreeEncodesSaid := TreeEncodes.over
#print axioms treeEncodes_holds
end Go.Proofs.Ytbgnaeagdneikaa
