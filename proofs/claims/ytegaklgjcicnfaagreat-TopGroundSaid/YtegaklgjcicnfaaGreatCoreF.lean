/- A slice of bytes that comes to be. -/
import Derived.Test.YtegaklgjcicnfaaGreatCoreAl
import Derived.Test.YtegaklgjcicnfaaGreatCoreE
set_option linter.unusedSimpArgs false
set_option linter.unusedVariables false
namespace Go.Proofs.YtegaklgjcicnfaaGreat.Abs
open Go Go.RowKit
/-- Is a value apart from a block? -/
def Off (v : Value) (d : Nat) : Prop := Value.blkOf v ≠ some d
/-- A slice of bytes of the call's own, made since a state, beside which all of that state is as it was. -/
structure Buf (S0 S : St) (v : Value) (xs : List Int) : Prop where
 own : OwnBs S v xs
 fresh : Fresh S0 v
 keep : KeepsAll S0 S
theorem Buf.later {S0 S S' : St} {v : Value} {xs : List Int} (h : Buf S0 S v xs) (hL : Live S) (hk : KeepsAll S S') : Buf S0 S' v xs :=
 ⟨h.own.keeps hL hk fun _ _ => trivial, h.fresh, h.keep.trans hk fun _ _ _ => trivial⟩
/-- An append onto one. -/
theorem Buf.app {S0 S : St} {x y : Value} {xs ys : List Int} (h : Buf S0 S x xs) (hL : Live S) (hL0 : Live S0) (hy : Bs S y ys) (hb : xs.length + ys.length ≤ 1000000000) :
  optWp (doAppend 1 1 x y S) fun v S' => Live S' ∧ Buf S0 S' v (xs ++ ys) ∧ S.next ≤ S'.next ∧ ∀ d, d < S.next → Off x d → S'.blk d = S.blk d ∧ Off v d := by
 have ha := append_live hL (append_bs h.own hy hb)
 unfold optWp at ha ⊢
 split at ha
 ·rename_i v S' _
  obtain ⟨h0, h1, h2, h3⟩ := ha
  refine ⟨h0, ⟨h1, fun d hd => ?_, ⟨Nat.le_trans h.keep.1 h2.1, fun i hi _ => ?_⟩⟩, h2.1, fun d hd ho => ⟨h2.2 d hd ho, fun e => ?_⟩⟩
  ·rcases h3 d hd with hh | hh
   ·exact h.fresh d hh
   ·exact Nat.le_trans h.keep.1 hh
  ·rw [h2.2 i (Nat.lt_of_lt_of_le hi h.keep.1) fun e => by have := h.fresh i e; omega]
   exact h.keep.2 i hi trivial
  ·rcases h3 d e with hh | hh
   ·exact ho hh
   ·omega
 ·exact ha
/-! All but some places is forgotten. -/
def keepL (t : Env) (is : List Nat) : List (Nat × Value) := is.map fun i => (i, t i)
theorem keepL_nil (t : Env) : keepL t [] = [] := rfl
theorem keepL_cons (t : Env) (i : Nat) (is : List Nat) : keepL t (i :: is) = (i, t i) :: keepL t is := rfl
theorem keep_slots (t : Env) (is : List Nat) : Slots t (keepL t is) := by
 induction is with
 | nil => trivial
 | cons i is ih => exact ⟨rfl, ih⟩
section
variable {P : Program} {n : Cfg} {Q : Exit → Env → St → Prop} {K : Env → St → Prop} {t : Env} {S : St} {s : Stk} {d : Option Nat} {r : ATree}
theorem cK_keep {f : FuncId} {args : List Value} (is : List Nat) (h : ∀ t1, Slots t1 (keepL t is) → cK P f args S d r t1 K) : cK P f args S d r t K := h t (keep_slots t is)
theorem hK_keep {x : Option (Value × St)} (is : List Nat) (h : ∀ t1, Slots t1 (keepL t is) → hK P x d r t1 K) : hK P x d r t K := h t (keep_slots t is)
theorem lK_keep {b : ACode} (is : List Nat) (h : ∀ t1, Slots t1 (keepL t is) → lK P n b Q s t1 S) : lK P n b Q s t S := h t (keep_slots t is)
theorem iK_keep {x : Value} {a b : ACode} (is : List Nat) (h : ∀ t1, Slots t1 (keepL t is) → iK P n x a b Q s t1 S) : iK P n x a b Q s t S := h t (keep_slots t is)
end
/-! Flat values are alike. -/
theorem guard_undef (f : Bool → Bool) (g : Value → Bool) : k_guard.match_1 (fun _ => Bool) undef f g = g undef := by unfold undef; rfl
end Go.Proofs.YtegaklgjcicnfaaGreat.Abs
