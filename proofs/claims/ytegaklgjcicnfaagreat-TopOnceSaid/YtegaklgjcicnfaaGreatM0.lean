/- How many items there are: one for each ground, one for each box's borders. -/
import Derived.Test.YtegaklgjcicnfaaGreatK4
set_option linter.unusedSimpArgs false
set_option linter.unusedVariables false
namespace Go.Proofs.YtegaklgjcicnfaaGreat
open Go Go.Proofs.YtegaklgjcicnfaaGreat.Abs
def nIt (l : List Nd) (n : Nat) : Nat := (if ((nS l n).back != 0) = true then 1 else 0) + (if ((nS l n).line != 0 && (nS l n).border != [0, 0, 0, 0]) = true then 1 else 0)
def wantN (l : List Nd) : Nat → Nat
 | 0 => 0
 | j + 1 => wantN l j + if madeL l j = true then nIt l j else 0
section
variable {l : List Nd} {bs : List Value} {cl : List Rc} {ns : List Nat}
theorem items_len (n : Nat) : (itemsOf l bs cl n).length = nIt l n := by
 unfold itemsOf nIt
 rw [List.length_append]
 congr 1 <;> split <;> rfl
theorem nIt_le (n : Nat) : nIt l n ≤ 2 := by unfold nIt; split <;> split <;> omega
theorem wantN_le : ∀ j, wantN l j ≤ 2 * j
 | 0 => Nat.le_refl _
 | j + 1 => by have := wantN_le j; have := nIt_le (l := l) j; unfold wantN; split <;> omega
theorem wantN_sum : ∀ j, (((List.range j).filter (madeL l)).map (nIt l)).sum = wantN l j
 | 0 => rfl
 | j + 1 => by
  rw [List.range_succ, List.filter_append, List.map_append, List.sum_append_nat, wantN_sum j, wantN]
  cases h : madeL l j <;> simp [h, List.filter_cons]
theorem its_want (htr : Tr (par l) l.length) (hf : TForm l) (h : Painted l ns) : (itsOf l bs cl ns).length = wantN l l.length := by
 unfold itsOf
 rw [List.length_flatMap, show ((fun n => (itemsOf l bs cl n).length) : Nat → Nat) = nIt l from funext fun n => items_len n, ← wantN_sum]
 exact ((painted_perm htr hf h).map _).sum_nat
/-- Is an item one of its node's? -/
def ItOk (l : List Nd) (i : It) : Prop := (i.k = 0 ∧ (nS l i.n.toNat).back ≠ 0 ∧ i.col = (nS l i.n.toNat).back) ∨ (i.k = 1 ∧ (nS l i.n.toNat).line ≠ 0 ∧ i.col = (nS l i.n.toNat).line)
theorem its_ok {i : It} (hi : i ∈ itsOf l bs cl ns) : ItOk l i := by
 obtain ⟨n, _, hi⟩ := List.mem_flatMap.1 hi
 unfold itemsOf at hi
 rcases List.mem_append.1 hi with hi | hi
 ·split at hi
  ·rename_i h
   rw [List.mem_singleton] at hi; subst hi
   exact .inl ⟨rfl, by simpa using h, rfl⟩
  ·cases hi
 ·split at hi
  ·rename_i h
   rw [List.mem_singleton] at hi; subst hi
   simp only [Bool.and_eq_true] at h
   exact .inr ⟨rfl, by simpa using h.1, rfl⟩
  ·cases hi
end
/-- A rendered tree, told for the law on how often each box is painted. -/
structure RenN (l : List Nd) (e : Int) (its : List It) : Prop where
 len : e = 0 → its.length = wantN l l.length
 ok : ∀ i ∈ its, ItOk l i
theorem TreeP.renn {l : List Nd} {v0 v1 : Int} {S : St} {r : Value} {S' : St} (h : TreeP l v0 v1 S r S') : KeepsAll S S' ∧ ∃ b f c e its, r = .tuple #[.agg #[b, f, c], .int .i64 e] ∧ (∃ x y z, b = .slice x y z) ∧ (∃ x y z, c = .slice x y z) ∧ RenO l S' f e its ∧ RenN l e its := by
 obtain ⟨hk, b, f, c, e, rfl, hb, _, hc, h2⟩ := h
 rcases h2 with ⟨he, _, rfl, rfl⟩ | ⟨rfl, bs, ns, T⟩
 ·exact ⟨hk, b, _, _, e, [], rfl, hb, hc, ⟨.inl ⟨rfl, rfl, rfl⟩, by simp, fun _ => rfl, by simp, by simp⟩, fun h => absurd h he, by simp⟩
 ·have := itsOf_len l bs (clipsTo l bs v0 v1 l.length) ns
  have := T.nl
  have hf := tform_of T.chk
  obtain ⟨h1, h2⟩ := painted_way hf.1.2.tr hf T.pnt
  exact ⟨hk, b, f, c, 0, _, rfl, hb, hc, ⟨T.full, by omega, fun h => absurd rfl h, its_order h1, fun i hi => its_made h2 hi⟩, fun _ => its_want hf.1.2.tr hf T.pnt, fun i hi => its_ok hi⟩
theorem ren_ne {l : List Nd} {S' : St} {f : Value} {e : Int} {its : List It} (R : RenO l S' f e its) {j k : Nat} (hjk : j < k) (hk : k < its.length) : ((gI its j).n == (gI its k).n && (gI its j).k == (gI its k).k) = false := by
 have := List.pairwise_iff_getElem.1 R.ord j k (by omega) hk hjk
 rw [← gI_get (show j < its.length by omega), ← gI_get hk] at this
 rw [Bool.eq_false_iff]
 intro h
 simp only [Bool.and_eq_true, beq_iff_eq] at h
 unfold lessB at this
 rw [h.1, h.2, if_pos rfl] at this
 simp at this
end Go.Proofs.YtegaklgjcicnfaaGreat
