/- Each operation that only computes, held against the machine's. -/
import Derived.Test.YtbgnaeagdneikaaCoreAd
namespace Go.Proofs.Ytbgnaeagdneikaa.Abs
open Go Go.RowKit

section
variable {P : Program} {m : LMap} {ρ ρ' : Operand → Value}

theorem run_int2 (op : BinOp) (t : TypeId) (x y : Operand) (k k' : IntKind) (a b : Int) {v : Value} (hv : int2 op k a k' b = some v) (w : World) :
    ((do eqGuard op t x y (.int k a) (.int k' b); binOp op t (.int k a) (.int k' b)) : Sem Value).run P w = .ok v w := by
  have hg : (eqGuard op t x y (.int k a) (.int k' b)).run P w = .ok () w := by cases op <;> rfl
  simp only [Sem.run_bind, hg, Result.andThen_ok]
  cases op <;> simp only [int2] at hv
  case shl => split at hv; · cases hv
              · cases hv; rename_i h; simp [binOp, Op.shift, h]
  case shr => split at hv; · cases hv
              · cases hv; rename_i h; simp [binOp, Op.shift, h]
  case quo => split at hv
              · rename_i hk; subst hk; split at hv
                · cases hv
                · cases hv; rename_i h; simp [binOp, Op.intDiv, h]
              · cases hv
  case rem => split at hv
              · rename_i hk; subst hk; split at hv
                · cases hv
                · cases hv; rename_i h; simp [binOp, Op.intDiv, h]
              · cases hv
  all_goals
    split at hv
    · rename_i hk; subst hk; cases hv; simp [binOp, Op.intArith, Op.intBits, Op.intCmp]
    · cases hv

theorem isNil_rel {v u : Value} (h : VRel m v u) {k : Nat} {b : Bool} (hb : isNil k v = some b) : isNil k u = some b := by
  unfold isNil at hb
  split at hb <;> first | (cases h <;> exact hb) | cases hb

theorem bnd_rel {d : Nat} {o : Option Operand} (hs : ∀ x, o = some x → VRel m (ρ x) (ρ' x)) {n : Nat} (h : bnd ρ d o = some n) :
    (o = none ∧ n = d) ∨ ∃ x k i, o = some x ∧ ρ' x = .int k i ∧ 0 ≤ i ∧ n = i.toNat := by
  cases o with
  | none => simp [bnd] at h; exact .inl ⟨rfl, h.symm⟩
  | some x =>
    right
    simp only [bnd] at h
    split at h
    · rename_i k i hx
      split at h
      · rename_i h0
        cases h
        exact ⟨x, k, i, rfl, (hs x rfl).of_int hx, h0, rfl⟩
      · cases h
    · cases h


theorem Sees.head {x : Operand} {xs : List Operand} (h : Sees m ρ ρ' (x :: xs)) : VRel m (ρ x) (ρ' x) := h x (by simp)
theorem Sees.tail {x : Operand} {xs : List Operand} (h : Sees m ρ ρ' (x :: xs)) : Sees m ρ ρ' xs := fun y hy => h y (by simp [hy])

theorem run_execOp_value (o : Oper) (w : World) {u : Value} {s : Sem Value} (he : execOp ρ' o = (do pure (.value (← s)))) (hs : s.run P w = .ok u w) :
    (execOp ρ' o).run P w = .ok (.value u) w := by rw [he]; simp [hs]

theorem run_eql_of (t : TypeId) (x y : Operand) (v u : Value) (hg : ∀ op w, (eqGuard op t x y v u).run P w = .ok () w) (he : binOp .eql t v u = (do pure (.bool (← Op.equal t v u)))) (hn : binOp .neq t v u = (do pure (.bool (!(← Op.equal t v u)))))
    {b : Bool} (hb : ∀ D w, (Op.equalIn (D + 1) t v u).run P w = .ok b w) (w : World) : ((do eqGuard .eql t x y v u; binOp .eql t v u) : Sem Value).run P w = .ok (.bool b) w ∧
      ((do eqGuard .neq t x y v u; binOp .neq t v u) : Sem Value).run P w = .ok (.bool (!b)) w := by
  have h1 : (Op.equal t v u).run P w = .ok b w := hb 9999 w
  constructor
  · simp only [Sem.run_bind, hg, Result.andThen_ok, he, h1, Sem.run_pure]
  · simp only [Sem.run_bind, hg, Result.andThen_ok, hn, h1, Sem.run_pure]

theorem run_isEq (t : TypeId) (x y : Operand) (v u : Value) {d : TypeDesc} (hd : P.underlying t = some d) {k : Nat} (hn : nilKind d y = some k) (hu : ∀ c, y = .const c → u = c)
    {b : Bool} (hb : isNil k v = some b) (w : World) : ((do eqGuard .eql t x y v u; binOp .eql t v u) : Sem Value).run P w = .ok (.bool b) w ∧
      ((do eqGuard .neq t x y v u; binOp .neq t v u) : Sem Value).run P w = .ok (.bool (!b)) w := by
  unfold nilKind at hn
  split at hn
  · cases hn; obtain rfl := hu _ rfl
    cases v <;> first | (simp [isNil] at hb; done) | skip
    rename_i a
    refine run_eql_of t x _ _ _ (fun op w => by cases op <;> rfl) rfl rfl (fun D w => ?_) w
    cases a <;> simp [isNil] at hb <;> subst hb <;> simp [Op.equalIn, run_underlying hd]
  · cases hn; obtain rfl := hu _ rfl
    cases v <;> first | (simp [isNil] at hb; done) | skip
    rename_i a l c
    refine run_eql_of t x _ _ _ (fun op w => by cases op <;> rfl) rfl rfl (fun D w => ?_) w
    cases a with
    | none => unfold isNil at hb; split at hb <;> first | (cases hb; done) | skip
              all_goals first | (cases hb; simp [Op.equalIn, run_underlying hd]; done) | (simp_all; done)
    | some a => simp [isNil] at hb; subst hb; simp [Op.equalIn, run_underlying hd]
  · cases hn; obtain rfl := hu _ rfl
    cases v <;> first | (simp [isNil] at hb; done) | skip
    · refine run_eql_of t x _ _ _ (fun op w => by cases op <;> rfl) rfl rfl (fun D w => ?_) w
      simp [isNil] at hb; subst hb; simp [Op.equalIn, run_underlying hd]
    · refine run_eql_of t x _ _ _ (fun op w => by cases op <;> rfl) rfl rfl (fun D w => ?_) w
      simp [isNil] at hb; subst hb; simp [Op.equalIn, run_underlying hd]
  · cases hn

theorem fillOf (place : Nat → Option (Nat × Nat)) : ∀ (ps : List (Nat × Value)) (qs : List (Nat × Nat × Value)) (cs : List Value), ps.length = qs.length →
    (∀ (i : Nat) p q, ps[i]? = some p → qs[i]? = some q → place p.1 = some (q.1, q.2.1) ∧ p.2 = q.2.2) → ∀ {vs}, fillL cs qs = some vs → Instr.fill place cs.toArray ps = some vs.toArray := by
  intro ps
  induction ps with
  | nil =>
    intro qs cs hl _ vs hv
    have : qs = [] := List.eq_nil_of_length_eq_zero (by simpa using hl.symm)
    subst this
    simp [fillL] at hv
    subst hv; rfl
  | cons p ps ih =>
    intro qs cs hl hq vs hv
    cases qs with
    | nil => simp at hl
    | cons q qs =>
      obtain ⟨i, v⟩ := p
      obtain ⟨o, sz, v'⟩ := q
      obtain ⟨e1, e2⟩ := hq 0 _ _ rfl rfl
      simp only at e1 e2
      subst e2
      simp only [fillL] at hv
      split at hv
      · rename_i hc
        obtain ⟨c1, c2, c3⟩ := hc
        simp only [Instr.fill, e1]
        have c1' : v.cells.size = sz := by simpa using c1
        rw [if_neg (by simp only [c1', List.size_toArray]; simp; omega)]
        have hfold : ∀ (us : List Value) (k : Nat) (cs : List Value), (us.zipIdx k).foldl (fun (acc : Array Value) (x : Value × Nat) => acc.setIfInBounds (o + x.2) x.1) cs.toArray = (ow cs (o + k) us).toArray := by
          intro us
          induction us with
          | nil => intro k cs; rfl
          | cons u us ihu =>
            intro k cs
            simp only [List.zipIdx_cons, List.foldl_cons, ow]
            rw [List.setIfInBounds_toArray, ihu (k + 1) (cs.set (o + k) u)]
            rfl
        have hz : (v.cells.zipIdx.foldl (fun (acc : Array Value) (x : Value × Nat) => acc.setIfInBounds (o + x.2) x.1) cs.toArray) = (ow cs o v.cells.toList).toArray := by
          rw [← Array.foldl_toList, Array.toList_zipIdx, hfold]
          rfl
        have := ih qs (ow cs o v.cells.toList) (by simpa using hl) (fun i a b ha hb => hq (i + 1) a b (by simpa using ha) (by simpa using hb)) hv
        rw [← hz] at this
        exact this
      · cases hv

end
end Go.Proofs.Ytbgnaeagdneikaa.Abs
