/- The operations that only compute, held against the machine's. -/
import Derived.Test.YtbgnaeagdneikaaCoreAc
namespace Go.Proofs.Ytbgnaeagdneikaa.Abs
open Go Go.RowKit

/-! equality of flat values -/
theorem flatEq_cons {b : Bool} {sg : List Bool} {xs ys : List Value} {r : Bool} (h : flatEq (b :: sg) xs ys = some r) :
    ∃ x xs' y ys' c r', xs = x :: xs' ∧ ys = y :: ys' ∧ flatEq sg xs' ys' = some r' ∧ r = (c && r') ∧
      ((b = true ∧ ∃ k a d, x = .int k a ∧ y = .int k d ∧ c = (a == d)) ∨ (b = false ∧ ∃ a d, x = .bool a ∧ y = .bool d ∧ c = (a == d))) := by
  cases b with
  | true =>
    cases xs with
    | nil => simp [flatEq] at h
    | cons x xs =>
      cases ys with
      | nil => cases x <;> simp [flatEq] at h
      | cons y ys =>
        cases x <;> cases y <;> first | (simp [flatEq] at h; done) | skip
        simp only [flatEq] at h
        split at h
        · rename_i hk
          subst hk
          obtain ⟨r', h1, rfl⟩ := Option.map_eq_some_iff.1 h
          exact ⟨_, _, _, _, _, _, rfl, rfl, h1, rfl, .inl ⟨rfl, _, _, _, rfl, rfl, rfl⟩⟩
        · cases h
  | false =>
    cases xs with
    | nil => simp [flatEq] at h
    | cons x xs =>
      cases ys with
      | nil => cases x <;> simp [flatEq] at h
      | cons y ys =>
        cases x <;> cases y <;> first | (simp [flatEq] at h; done) | skip
        simp only [flatEq] at h
        obtain ⟨r', h1, rfl⟩ := Option.map_eq_some_iff.1 h
        exact ⟨_, _, _, _, _, _, rfl, rfl, h1, rfl, .inr ⟨rfl, _, _, rfl, rfl, rfl⟩⟩

theorem flatEq_len : ∀ (sg : List Bool) (xs ys : List Value) {r : Bool}, flatEq sg xs ys = some r → xs.length = sg.length ∧ ys.length = sg.length ∧ (∀ x ∈ xs, x.oneCell' = true) ∧ (∀ x ∈ ys, x.oneCell' = true) := by
  intro sg
  induction sg with
  | nil =>
    intro xs ys r h
    cases xs <;> cases ys <;> simp [flatEq] at h
    simp
  | cons b sg ih =>
    intro xs ys r h
    obtain ⟨x, xs', y, ys', c, r', rfl, rfl, h1, _, h2⟩ := flatEq_cons h
    obtain ⟨a1, a2, a3, a4⟩ := ih _ _ h1
    refine ⟨by simp [a1], by simp [a2], ?_, ?_⟩
    · intro z hz; simp at hz; rcases hz with rfl | hz
      · rcases h2 with ⟨_, _, _, _, rfl, _, _⟩ | ⟨_, _, _, rfl, _, _⟩ <;> rfl
      · exact a3 z hz
    · intro z hz; simp at hz; rcases hz with rfl | hz
      · rcases h2 with ⟨_, _, _, _, _, rfl, _⟩ | ⟨_, _, _, _, rfl, _⟩ <;> rfl
      · exact a4 z hz

theorem flatEq_append : ∀ (s s' : List Bool) (xs ys : List Value) {r : Bool}, flatEq (s ++ s') xs ys = some r →
    ∃ a b, flatEq s (xs.take s.length) (ys.take s.length) = some a ∧ flatEq s' (xs.drop s.length) (ys.drop s.length) = some b ∧ r = (a && b) := by
  intro s
  induction s with
  | nil => intro s' xs ys r h; exact ⟨true, r, rfl, by simpa using h, by simp⟩
  | cons b s ih =>
    intro s' xs ys r h
    obtain ⟨x, xs', y, ys', c, r', rfl, rfl, h1, rfl, h2⟩ := flatEq_cons h
    obtain ⟨a, d, ha, hd, rfl⟩ := ih s' xs' ys' h1
    refine ⟨c && a, d, ?_, by simpa using hd, by simp [Bool.and_assoc]⟩
    rcases h2 with ⟨rfl, k, p, q, rfl, rfl, rfl⟩ | ⟨rfl, p, q, rfl, rfl, rfl⟩ <;> simp [flatEq, ha]

/-- A value of a flat type: its cells, and whether it is a row of cells. -/
def Fits (P : Program) (t : TypeId) (v : Value) : Prop := (aggT P t = some true → ∃ cs, v = .agg cs) ∧ (aggT P t = some false → v.cells = #[v])

theorem flat_agg {P : Program} {d : Nat} {t : TypeId} {n : List Bool} (h : flatT P d t = some n) : ∃ b, aggT P t = some b ∧ (b = false → n.length = 1) := by
  cases d with
  | zero => simp [flatT] at h
  | succ d =>
    unfold flatT at h
    unfold aggT
    cases hu : P.underlying t with
    | none => simp [hu] at h
    | some x => cases x <;> simp [hu] at h ⊢ <;> (subst h; rfl)

/-- A part of a flat value fits its type, and is the cells from its place on. -/
theorem run_part_flat (P : Program) (w : World) {d : Nat} {t : TypeId} {n : List Bool} (hf : flatT P d t = some n) (hs : szT P t = some n.length) (cs : List Value) (off : Nat) (ho : off + n.length ≤ cs.length)
    (hone : ∀ x ∈ cs, x.oneCell' = true) :
    ∃ v, (part t cs.toArray off).run P w = .ok v w ∧ Fits P t v ∧ v.cells.toList = (cs.drop off).take n.length := by
  obtain ⟨b, hb, h1⟩ := flat_agg hf
  cases b with
  | true =>
    exact ⟨.agg ((cs.drop off).take n.length).toArray, run_part P w t cs off n.length true hs hb (by simp [partL, ho]), ⟨fun _ => ⟨_, rfl⟩, fun h => (by rw [hb] at h; cases h)⟩, by simp [Value.cells]⟩
  | false =>
    have hn := h1 rfl
    rw [hn] at ho ⊢
    have hlt : off < cs.length := by omega
    have h1 := hone cs[off] (List.getElem_mem hlt)
    have hcell : (cs[off]).cells = #[cs[off]] := by
      cases hv : cs[off] <;> first | rfl | (rw [hv] at h1; cases h1)
    refine ⟨cs[off], run_part P w t cs off 1 false (by rw [hs, hn]) hb (by simp [partL, hlt]), ⟨fun h => (by rw [hb] at h; cases h), fun _ => hcell⟩, ?_⟩
    rw [hcell, List.drop_eq_getElem_cons hlt, List.take_succ_cons, List.take_zero]

theorem flat_fields_none (P : Program) (d : Nat) : ∀ (fs : List Field), fs.foldl (fun acc f => acc.bind fun (sg : List Bool) =>
          if f.name ≠ "_" ∧ f.offset = sg.length then (flatT P d f.type).bind fun s => if szT P f.type = some s.length then some (sg ++ s) else none else none) none = none := by
  intro fs
  induction fs with
  | nil => rfl
  | cons f fs ih => simpa using ih

theorem run_equalIn_flat (P : Program) : ∀ (d D : Nat) (t : TypeId) (n : List Bool), flatT P d t = some n → d ≤ D → ∀ (w : World) (v u : Value), Fits P t v → Fits P t u →
    ∀ {r : Bool}, flatEq n v.cells.toList u.cells.toList = some r → (Op.equalIn D t v u).run P w = .ok r w := by
  intro d
  induction d with
  | zero => intro D t n h; simp [flatT] at h
  | succ d ih =>
    intro D t n h hD w v u hv hu r hr
    obtain ⟨D, rfl⟩ : ∃ D', D = D' + 1 := ⟨D - 1, by omega⟩
    have hD' : d ≤ D := by omega
    obtain ⟨hl, hl', ho, ho'⟩ := flatEq_len _ _ _ hr
    unfold flatT at h
    cases hut : P.underlying t with
    | none => simp [hut] at h
    | some x =>
      rw [hut] at h
      cases x <;> simp only [] at h <;> first | (cases h; done) | skip
      case bool =>
        cases h
        rw [hv.2 (by simp [aggT, hut]), hu.2 (by simp [aggT, hut])] at hr
        obtain ⟨x, xs', y, ys', c, r', e1, e2, h1, rfl, h2⟩ := flatEq_cons hr
        simp at e1 e2
        obtain ⟨rfl, rfl⟩ := e1
        obtain ⟨rfl, rfl⟩ := e2
        simp [flatEq] at h1
        subst h1
        rcases h2 with ⟨h, _⟩ | ⟨_, a, b, rfl, rfl, rfl⟩
        · cases h
        · simpa using run_equalIn_bool w D t a b hut
      case int k0 =>
        cases h
        rw [hv.2 (by simp [aggT, hut]), hu.2 (by simp [aggT, hut])] at hr
        obtain ⟨x, xs', y, ys', c, r', e1, e2, h1, rfl, h2⟩ := flatEq_cons hr
        simp at e1 e2
        obtain ⟨rfl, rfl⟩ := e1
        obtain ⟨rfl, rfl⟩ := e2
        simp [flatEq] at h1
        subst h1
        rcases h2 with ⟨_, k, a, b, rfl, rfl, rfl⟩ | ⟨h, _⟩
        · simp [Op.equalIn, run_underlying hut]
        · cases h
      case struct fs =>
        obtain ⟨xs, rfl⟩ := hv.1 (by simp [aggT, hut])
        obtain ⟨ys, rfl⟩ := hu.1 (by simp [aggT, hut])
        have hfo : P.fieldsOf t = fs := by simp [Program.fieldsOf, hut]
        split at h
        · cases h
        rename_i hst
        rw [run_equalIn_struct w D t xs ys (by rw [hfo]; exact hut) (by simpa using hst), hfo]
        simp only [Value.cells] at hr hl hl' ho ho'
        revert h
        generalize fs.toList = fl
        intro h
        -- the fields from one on
        have key : ∀ (fl : List Field) (sg sg' : List Bool), fl.foldl (fun acc f => acc.bind fun (sg : List Bool) =>
              if f.name ≠ "_" ∧ f.offset = sg.length then (flatT P d f.type).bind fun s => if szT P f.type = some s.length then some (sg ++ s) else none else none) (some sg) = some (sg ++ sg') →
            xs.toList.length = sg.length + sg'.length → ys.toList.length = sg.length + sg'.length → ∀ {r}, flatEq sg' (xs.toList.drop sg.length) (ys.toList.drop sg.length) = some r →
            (Op.eqFields D xs ys fl).run P w = .ok r w := by
          intro fl
          induction fl with
          | nil =>
            intro sg sg' h hx hy r hr
            simp at h
            subst h
            have e1 : xs.toList.drop sg.length = [] := List.drop_eq_nil_of_le (by rw [hx]; simp)
            have e2 : ys.toList.drop sg.length = [] := List.drop_eq_nil_of_le (by rw [hy]; simp)
            rw [e1, e2] at hr
            simp [flatEq] at hr
            subst hr
            simp [Op.eqFields]
          | cons f fl ihf =>
            intro sg sg' h hx hy r hr
            simp only [List.foldl_cons, Option.bind_some] at h
            split at h
            · rename_i hc
              obtain ⟨hname, hoff⟩ := hc
              cases hft : flatT P d f.type with
              | none => simp only [hft, Option.bind_none] at h; rw [flat_fields_none] at h; cases h
              | some s =>
                simp only [hft, Option.bind_some] at h
                split at h
                · rename_i hsz
                  have hpre : ∀ (fl : List Field) (a b : List Bool), fl.foldl (fun acc f => acc.bind fun (sg : List Bool) =>
                      if f.name ≠ "_" ∧ f.offset = sg.length then (flatT P d f.type).bind fun s => if szT P f.type = some s.length then some (sg ++ s) else none else none) (some a) = some b → ∃ c, b = a ++ c := by
                    intro fl
                    induction fl with
                    | nil => intro a b h; simp at h; exact ⟨[], by simp [h]⟩
                    | cons f fl ih =>
                      intro a b h
                      simp only [List.foldl_cons, Option.bind_some] at h
                      split at h
                      · cases hft : flatT P d f.type with
                        | none => simp only [hft, Option.bind_none] at h; rw [flat_fields_none] at h; cases h
                        | some s =>
                          simp only [hft, Option.bind_some] at h
                          split at h
                          · obtain ⟨c, rfl⟩ := ih _ _ h
                            exact ⟨s ++ c, by simp⟩
                          · rw [flat_fields_none] at h; cases h
                      · rw [flat_fields_none] at h; cases h
                  obtain ⟨c, hc⟩ := hpre _ _ _ h
                  rw [List.append_assoc] at hc
                  have hc := List.append_cancel_left hc
                  subst hc
                  obtain ⟨a, b, ha, hb, rfl⟩ := flatEq_append s c _ _ hr
                  have hxs : ∀ x ∈ xs.toList, x.oneCell' = true := ho
                  have hys : ∀ x ∈ ys.toList, x.oneCell' = true := ho'
                  simp only [List.length_append, Array.length_toList] at hx hy
                  have hx' : sg.length + s.length ≤ xs.toList.length := by simp only [Array.length_toList]; omega
                  have hy' : sg.length + s.length ≤ ys.toList.length := by simp only [Array.length_toList]; omega
                  obtain ⟨p1, r1, f1, c1⟩ := run_part_flat P w hft hsz xs.toList f.offset (by rw [hoff]; exact hx') hxs
                  obtain ⟨p2, r2, f2, c2⟩ := run_part_flat P w hft hsz ys.toList f.offset (by rw [hoff]; exact hy') hys
                  simp only [Array.toArray_toList] at r1 r2
                  rw [hoff] at c1 c2
                  have hq := ih D f.type s hft hD' w p1 p2 f1 f2 (r := a) (by rw [c1, c2]; exact ha)
                  simp only [Op.eqFields, hname, ne_eq, not_false_eq_true, if_true, Sem.run_bind, r1, r2, Result.andThen_ok, hq]
                  cases a with
                  | false => simp
                  | true =>
                    simp only [Bool.not_true, Bool.false_eq_true, if_false, Bool.true_and]
                    refine ihf (sg ++ s) c (by rw [List.append_assoc]; exact h) (by simp only [Array.length_toList, List.length_append]; omega) (by simp only [Array.length_toList, List.length_append]; omega) ?_
                    simpa [List.drop_drop] using hb
                · rw [flat_fields_none] at h; cases h
            · rw [flat_fields_none] at h; cases h
        exact key fl [] n (by simpa using h) (by simpa using hl) (by simpa using hl') (by simpa using hr)
      case array k e =>
        obtain ⟨xs, rfl⟩ := hv.1 (by simp [aggT, hut])
        obtain ⟨ys, rfl⟩ := hu.1 (by simp [aggT, hut])
        simp only [Value.cells] at hr hl hl' ho ho'
        obtain ⟨s, hs, h⟩ := Option.bind_eq_some_iff.1 h
        split at h
        case isFalse => cases h
        rename_i hsz
        cases h
        have hsize : (sizeOf e).run P w = .ok s.length w := by
          unfold szT at hsz
          obtain ⟨i, hi, hh⟩ := Option.map_eq_some_iff.1 hsz
          simp [sizeOf, typeInfo, hi, hh]
        simp only [Op.equalIn, Sem.run_bind, run_underlying hut, Result.andThen_ok, hsize]
        rw [Std.Legacy.Range.forIn_eq_forIn_range']
        simp only [Std.Legacy.Range.size, Nat.sub_zero, Nat.add_sub_cancel, Nat.div_one]
        have key : ∀ (j i : Nat), i + j = k → ∀ {r}, flatEq (List.replicate j s).flatten (xs.toList.drop (i * s.length)) (ys.toList.drop (i * s.length)) = some r →
            (forIn (List.range' i j) ((none, ()) : Option Bool × Unit) fun i __s => (do
              let a ← part e xs (i * s.length)
              let b ← part e ys (i * s.length)
              let c ← Op.equalIn D e a b
              if (!c) = true then pure (ForInStep.done (some false, ())) else pure (ForInStep.yield (none, ())) : Sem (ForInStep (Option Bool × Unit)))).run P w = .ok (if r then none else some false, ()) w := by
          intro j
          induction j with
          | zero =>
            intro i hi r hr
            obtain ⟨a1, a2, _⟩ := flatEq_len _ _ _ hr
            simp at a1 a2
            rw [List.drop_eq_nil_of_le (by simp only [Array.length_toList]; omega), List.drop_eq_nil_of_le (by simp only [Array.length_toList]; omega)] at hr
            simp [flatEq] at hr
            subst hr
            simp
          | succ j ihj =>
            intro i hi r hr
            rw [List.replicate_succ, List.flatten_cons] at hr
            obtain ⟨a, b, ha, hb, rfl⟩ := flatEq_append s _ _ _ hr
            have hk1 : (List.replicate k s).flatten.length = k * s.length := by simp
            have hle : i * s.length + s.length ≤ k * s.length := by
              have : (i + 1) * s.length ≤ k * s.length := Nat.mul_le_mul_right _ (by omega)
              rwa [Nat.succ_mul] at this
            obtain ⟨p1, r1, f1, c1⟩ := run_part_flat P w hs hsz xs.toList (i * s.length) (by rw [hl, hk1]; exact hle) ho
            obtain ⟨p2, r2, f2, c2⟩ := run_part_flat P w hs hsz ys.toList (i * s.length) (by rw [hl', hk1]; exact hle) ho'
            simp only [Array.toArray_toList] at r1 r2
            have hq := ih D e s hs hD' w p1 p2 f1 f2 (r := a) (by rw [c1, c2]; exact ha)
            simp only [List.range'_succ, List.forIn_cons, Sem.run_bind, r1, r2, Result.andThen_ok, hq, Sem.run_ite, Sem.run_pure]
            cases a with
            | false => simp
            | true =>
              simp only [Bool.not_true, Bool.false_eq_true, if_false, Result.andThen_ok, Bool.true_and]
              exact ihj (i + 1) (by omega) (by rw [List.drop_drop, List.drop_drop] at hb; rw [Nat.succ_mul]; exact hb)
        rw [key k 0 (by omega) (by simpa using hr)]
        cases r <;> simp
end Go.Proofs.Ytbgnaeagdneikaa.Abs
