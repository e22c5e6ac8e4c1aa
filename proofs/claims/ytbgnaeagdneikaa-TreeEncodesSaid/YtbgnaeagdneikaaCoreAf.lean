/- An operation that only computes does so in the machine as told. -/
import Derived.Test.YtbgnaeagdneikaaCoreAe
namespace Go.Proofs.Ytbgnaeagdneikaa.Abs
open Go Go.RowKit

section
variable {P : Program} {m : LMap} {ρ ρ' : Operand → Value}

theorem run_sizeOf {t : TypeId} {n : Nat} (h : szT P t = some n) (w : World) : (sizeOf t).run P w = .ok n w := by
  unfold szT at h
  obtain ⟨i, hi, hh⟩ := Option.map_eq_some_iff.1 h
  simp [sizeOf, typeInfo, hi, hh]

theorem run_zeroValue {t : TypeId} {z : Value} (h : (P.info? t).bind (·.zero) = some z) (w : World) : (zeroValue t).run P w = .ok z w := by
  obtain ⟨i, hi, hz⟩ := Option.bind_eq_some_iff.1 h
  simp [zeroValue, typeInfo, hi, hz]

theorem run_places (fs : Array Field) (hs : ∀ f ∈ fs, (szT P f.type).isSome) (w : World) :
    (fs.mapM fun f => (do pure (f.offset, ← sizeOf f.type) : Sem (Nat × Nat))).run P w = .ok (fs.map fun f => (f.offset, (szT P f.type).getD 0)) w := by
  rw [Array.mapM_eq_mapM_toList]
  have key : ∀ (l : List Field), (∀ f ∈ l, (szT P f.type).isSome) → (l.mapM fun f => (do pure (f.offset, ← sizeOf f.type) : Sem (Nat × Nat))).run P w = .ok (l.map fun f => (f.offset, (szT P f.type).getD 0)) w := by
    intro l
    induction l with
    | nil => intro _; rfl
    | cons f l ih =>
      intro hl
      obtain ⟨s, hs⟩ := Option.isSome_iff_exists.1 (hl f (by simp))
      rw [List.mapM_cons]
      simp only [Sem.run_bind, run_sizeOf hs, Result.andThen_ok, Sem.run_pure, ih (fun g hg => hl g (by simp [hg])), List.map_cons, hs, Option.getD_some]
  rw [Sem.run_map, key fs.toList (fun f hf => hs f (by simpa using hf))]
  simp only [Result.andThen_ok]
  congr 1
  apply Array.ext'
  simp

theorem build_parts {fs : Array Field} : ∀ {ps : List (Nat × Operand)} {qs : List (Nat × Nat × Operand)}, ps.mapM (fieldPl P fs) = some qs →
    ps.length = qs.length ∧ ∀ (i : Nat) p q, ps[i]? = some p → qs[i]? = some q → p.2 = q.2.2 ∧ ∃ f, fs[p.1]? = some f ∧ szT P f.type = some q.2.1 ∧ f.offset = q.1 := by
  intro ps
  induction ps with
  | nil => intro qs h; simp at h; subst h; simp
  | cons p ps ih =>
    intro qs h
    rw [List.mapM_cons] at h
    obtain ⟨q, hq, h⟩ := Option.bind_eq_some_iff.1 h
    obtain ⟨qs', hqs, h⟩ := Option.bind_eq_some_iff.1 h
    cases h
    obtain ⟨a, b⟩ := ih hqs
    refine ⟨by simp [a], fun i x y hx hy => ?_⟩
    cases i with
    | zero =>
      simp at hx hy
      subst hx; subst hy
      unfold fieldPl at hq
      split at hq
      · rename_i f hf
        obtain ⟨s, hs, rfl⟩ := Option.map_eq_some_iff.1 hq
        exact ⟨rfl, f, hf, hs, rfl⟩
      · cases hq
    | succ i => exact b i x y (by simpa using hx) (by simpa using hy)

theorem fillL_map_rel {z : List Value} (hz : ∀ x ∈ z, atomOk x = true) {qs : List (Nat × Nat × Operand)} (hs : Sees m ρ ρ' (qs.map (·.2.2))) {vs : List Value}
    (hv : fillL z (qs.map fun p => (p.1, p.2.1, ρ p.2.2)) = some vs) : ∃ us, fillL z (qs.map fun p => (p.1, p.2.1, ρ' p.2.2)) = some us ∧ LRel m vs us ∧ ∀ x ∈ vs, x.oneCell' = true := by
  refine fillL_rel (cs := z) (ds := z) ⟨rfl, fun i v u hv hu => ?_⟩ (fun x hx => (atomOk_rel m (hz x hx)).2) _ _ (by simp) (fun i p q hp hq => ?_) hv
  · rw [hv] at hu; cases hu
    exact (atomOk_rel m (hz v (List.mem_of_getElem? hv))).1
  · simp only [List.getElem?_map] at hp hq
    obtain ⟨x, hx, rfl⟩ := Option.map_eq_some_iff.1 hp
    rw [hx] at hq
    simp at hq
    subst hq
    exact ⟨rfl, rfl, hs x.2.2 (by simp; exact ⟨_, _, List.mem_of_getElem? hx⟩)⟩

theorem constOk_cells {z : Value} (h : constOk z = true) : ∀ x ∈ z.cells.toList, atomOk x = true := by
  unfold constOk at h
  split at h
  · intro x hx; exact Array.all_eq_true_iff_forall_mem.1 h x (by simpa [Value.cells] using hx)
  · rename_i hne
    intro x hx
    have : z.cells = #[z] := by cases z <;> first | rfl | exact absurd rfl (hne _)
    rw [this] at hx
    simp at hx
    subst hx
    exact h

/-- What is asked of an operation: its value. -/
def Gives (P : Program) (m : LMap) (ρ' : Operand → Value) (o : Oper) (v : Value) : Prop := ∃ u, VRel m v u ∧ ∀ w, (execOp ρ' o).run P w = .ok (.value u) w

theorem gives_of {o : Oper} {s : Sem Value} {v : Value} (he : execOp ρ' o = (do pure (.value (← s)))) (h : ∃ u, VRel m v u ∧ ∀ w, s.run P w = .ok u w) : Gives P m ρ' o v := by
  obtain ⟨u, hu, hr⟩ := h
  exact ⟨u, hu, fun w => by rw [he]; simp [hr w]⟩

variable {dst : Option Tmp} {type : TypeId} {pos : String} {after : Array Edge} {guard : Option (Nat × Bool)}

theorem eqk_some {op : BinOp} {a b po : PO} (h : eqk op a b = some po) : (op = .eql ∧ po = a) ∨ (op = .neq ∧ po = b) := by
  unfold eqk at h
  split at h
  · cases h; exact .inl ⟨rfl, rfl⟩
  · cases h; exact .inr ⟨rfl, rfl⟩
  · cases h

theorem pure_binOp {op : BinOp} {t yt : TypeId} {x y : Operand} {po : PO} (hcon : ∀ c, y = .const c → ρ' y = c) (hc : compBin P op t x y = some po) (hs : Sees m ρ ρ' po.operands) {v : Value} (hv : apure ρ po = some v) :
    Gives P m ρ' ⟨dst, .binOp op t x y yt, type, pos, after, guard⟩ v := by
  refine gives_of (s := do eqGuard op t x y (ρ' x) (ρ' y); binOp op t (ρ' x) (ρ' y)) rfl ?_
  unfold compBin at hc
  cases hu : P.underlying t with
  | none => rw [hu] at hc; cases hc
  | some d =>
    rw [hu] at hc
    have nilc : (nilKind d y).bind (fun k => eqk op (.eqn k false x) (.eqn k true x)) = some po →
        ∃ u, VRel m v u ∧ ∀ w, (do eqGuard op t x y (ρ' x) (ρ' y); binOp op t (ρ' x) (ρ' y) : Sem Value).run P w = .ok u w := by
      intro hc
      obtain ⟨k, hk, hc⟩ := Option.bind_eq_some_iff.1 hc
      rcases eqk_some hc with ⟨rfl, rfl⟩ | ⟨rfl, rfl⟩
      all_goals
        obtain ⟨b, hb, rfl⟩ := Option.map_eq_some_iff.1 hv
        have hb' := isNil_rel (hs x (by simp [PO.operands])) hb
        refine ⟨_, .bool _, fun w => ?_⟩
        have := run_isEq (P := P) t x y (ρ' x) (ρ' y) hu hk (fun c hy => hcon c hy) hb' w
        first | (simpa using this.1) | (simpa using this.2)
    have aggc : (if P.eqGuardType P.depth t = false then (flatT P 20 t).bind fun sg => eqk op (.eqa sg false x y) (.eqa sg true x y) else none) = some po → aggT P t = some true →
        ∃ u, VRel m v u ∧ ∀ w, (do eqGuard op t x y (ρ' x) (ρ' y); binOp op t (ρ' x) (ρ' y) : Sem Value).run P w = .ok u w := by
      intro hc hag
      split at hc
      case isFalse => cases hc
      rename_i hgt
      obtain ⟨sg, hsg, hc⟩ := Option.bind_eq_some_iff.1 hc
      have hrun : ∀ (a b a' b' : Array Value), ARel m a a' → ARel m b b' → ∀ {r}, flatEq sg a.toList b.toList = some r → ∀ w, (Op.equalIn 10000 t (.agg a') (.agg b')).run P w = .ok r w := by
        intro a b a' b' ha hb r hr w
        refine run_equalIn_flat P 20 10000 t sg hsg (by omega) w _ _ ⟨fun _ => ⟨_, rfl⟩, fun h => (by rw [hag] at h; cases h)⟩ ⟨fun _ => ⟨_, rfl⟩, fun h => (by rw [hag] at h; cases h)⟩ ?_
        have key : ∀ (sg : List Bool) (a a' b b' : List Value) (r : Bool), LRel m a a' → LRel m b b' → flatEq sg a b = some r → flatEq sg a' b' = some r := by
          intro sg
          induction sg with
          | nil =>
            intro a a' b b' r ha hb hr
            cases a <;> cases b <;> simp [flatEq] at hr
            have e1 : a' = [] := List.eq_nil_of_length_eq_zero (by have := ha.1; simpa using this.symm)
            have e2 : b' = [] := List.eq_nil_of_length_eq_zero (by have := hb.1; simpa using this.symm)
            subst e1; subst e2; simp [flatEq, hr]
          | cons c sg ih =>
            intro a a' b b' r ha hb hr
            obtain ⟨x, xs, y, ys, d, r', rfl, rfl, h1, rfl, h2⟩ := flatEq_cons hr
            cases a' with
            | nil => have := ha.1; simp at this
            | cons x' xs' =>
              cases b' with
              | nil => have := hb.1; simp at this
              | cons y' ys' =>
                have i1 := ih xs xs' ys ys' r' ⟨by have := ha.1; simpa using this, fun i p q hp hq => ha.2 (i + 1) p q (by simpa using hp) (by simpa using hq)⟩ ⟨by have := hb.1; simpa using this, fun i p q hp hq => hb.2 (i + 1) p q (by simpa using hp) (by simpa using hq)⟩ h1
                have hx := ha.2 0 x x' rfl rfl
                have hy := hb.2 0 y y' rfl rfl
                rcases h2 with ⟨rfl, k, p, q, rfl, rfl, rfl⟩ | ⟨rfl, p, q, rfl, rfl, rfl⟩
                · cases hx; cases hy; simp [flatEq, i1]
                · cases hx; cases hy; simp [flatEq, i1]
        exact key sg _ _ _ _ r (LRel.of_array ha) (LRel.of_array hb) hr
      rcases eqk_some hc with ⟨rfl, rfl⟩ | ⟨rfl, rfl⟩
      all_goals
        simp only [apure] at hv
        split at hv
        case h_2 => cases hv
        rename_i a b hx hy
        obtain ⟨r, hr, rfl⟩ := Option.map_eq_some_iff.1 hv
        obtain ⟨a', ea, ra, _⟩ := (hs x (by simp [PO.operands])).of_agg hx
        obtain ⟨b', eb, rb, _⟩ := (hs y (by simp [PO.operands])).of_agg hy
        refine ⟨_, .bool _, fun w => ?_⟩
        have hq := hrun a b a' b' ra rb hr w
        rw [ea, eb]
        simp only [Sem.run_bind, run_eqGuard_agg w _ t x y a' b' hgt, Result.andThen_ok]
        first
          | (rw [run_eql_struct, hq]; simp; done)
          | (rw [run_neq_struct, hq]; simp)
    cases d
    case int k0 =>
      cases hc
      simp only [apure] at hv
      split at hv
      case h_2 => cases hv
      rename_i k a k' b hx hy
      rw [(hs x (by simp [PO.operands])).of_int hx, (hs y (by simp [PO.operands])).of_int hy]
      refine ⟨v, ?_, fun w => run_int2 op t x y k k' a b hv w⟩
      unfold int2 at hv
      cases op <;> simp only [] at hv <;> (repeat (split at hv)) <;> first | (cases hv; first | exact .int _ _ | exact .bool _) | cases hv
    case bool =>
      rcases eqk_some hc with ⟨rfl, rfl⟩ | ⟨rfl, rfl⟩
      all_goals
        simp only [apure] at hv
        split at hv
        case h_2 => cases hv
        rename_i a b hx hy
        cases hv
        rw [(hs x (by simp [PO.operands])).of_bool hx, (hs y (by simp [PO.operands])).of_bool hy]
        refine ⟨_, .bool _, fun w => ?_⟩
        have hg : ∀ op w, (eqGuard op t x y (.bool a) (.bool b)).run P w = .ok () w := fun op w => by cases op <;> rfl
        simp only [Sem.run_bind, hg, Result.andThen_ok]
        first
          | (rw [run_eql_bool w t a b hu]; simp; done)
          | (rw [run_neq_bool w t a b hu]; simp)
    case string =>
      rcases eqk_some hc with ⟨rfl, rfl⟩ | ⟨rfl, rfl⟩
      all_goals
        simp only [apure] at hv
        split at hv
        case h_2 => cases hv
        rename_i a b hx hy
        cases hv
        rw [(hs x (by simp [PO.operands])).of_string hx, (hs y (by simp [PO.operands])).of_string hy]
        refine ⟨_, .bool _, fun w => ?_⟩
        have hg : ∀ op w, (eqGuard op t x y (.string a) (.string b)).run P w = .ok () w := fun op w => by cases op <;> rfl
        simp only [Sem.run_bind, hg, Result.andThen_ok]
        simp [binOp, Op.stringOp]
    case struct => exact aggc hc (by simp [aggT, hu])
    case array => exact aggc hc (by simp [aggT, hu])
    all_goals exact nilc hc

theorem run_bounds {lo hi : Option Operand} {len cap : Nat} (w : World) {l h : Nat} (hl : (lo = none ∧ l = 0) ∨ ∃ x k i, lo = some x ∧ ρ' x = .int k i ∧ 0 ≤ i ∧ l = i.toNat)
    (hh : (hi = none ∧ h = len) ∨ ∃ x k i, hi = some x ∧ ρ' x = .int k i ∧ 0 ≤ i ∧ h = i.toNat) (h1 : l ≤ h) (h2 : h ≤ cap) :
    (Instr.sliceBounds true len cap (lo.map ρ') (hi.map ρ') none).run P w = .ok (l, h, cap) w := by
  have hb : ∀ (k : IntKind) (i : Int) (y : Nat) (c : BoundsCode), 0 ≤ i → i ≤ y → (Instr.sliceBound (.int k i) y c).run P w = .ok i.toNat w := fun k i y c a b => run_sliceBound w k i y c a b
  rcases hl with ⟨rfl, rfl⟩ | ⟨x, k, i, rfl, hx, hi0, rfl⟩ <;> rcases hh with ⟨rfl, rfl⟩ | ⟨x', k', i', rfl, hx', hi0', rfl⟩
  · simp [Instr.sliceBounds]
  · simp [Instr.sliceBounds, hx', hb k' i' cap .sliceAcap hi0' (by omega)]
  · simp [Instr.sliceBounds, hx, hb k i h .sliceB hi0 (by omega)]
  · simp [Instr.sliceBounds, hx, hx', hb k' i' cap .sliceAcap hi0' (by omega), hb k i i'.toNat .sliceB hi0 (by omega)]

theorem pure_call {c : Call} {po : PO} (hc : compCall P c = some po) (hs : Sees m ρ ρ' po.operands) {v : Value} (hv : apure ρ po = some v) : Gives P m ρ' ⟨dst, .call c, type, pos, after, guard⟩ v := by
  obtain ⟨callee, args, ats⟩ := c
  unfold compCall at hc
  simp only at hc
  split at hc
  · unfold compLen at hc
    split at hc
    case h_2 => cases hc
    rename_i x t hx ht
    obtain rfl : args = #[x] := by cases args; simp_all
    obtain rfl : ats = #[t] := by cases ats; simp_all
    split at hc
    · rename_i e hut
      cases hc
      simp only [apure] at hv
      split at hv
      case h_2 => cases hv
      rename_i a n c hsl
      cases hv
      have hu : ∃ a' c', ρ' x = .slice a' n c' := by
        have h1 := hs.head
        rw [hsl] at h1
        generalize ρ' x = u at h1
        cases h1 <;> exact ⟨_, _, rfl⟩
      obtain ⟨a', c', hu⟩ := hu
      exact ⟨_, .int .i64 n, fun w => by simp [execOp, resolve, invoke, builtin, Builtin.len_, hu, run_underlying hut, goInt]⟩
    · rename_i n e hut
      cases hc
      cases hv
      exact ⟨_, .int .i64 n, fun w => by simp [execOp, resolve, invoke, builtin, Builtin.len_, run_underlying hut, goInt]⟩
    · cases hc
  · unfold compMinmax at hc
    split at hc
    case h_2 => cases hc
    rename_i x y hx
    obtain rfl : args = #[x, y] := by cases args; simp_all
    cases hc
    simp only [apure] at hv
    split at hv
    case h_2 => cases hv
    rename_i k a k' b h1 h2
    cases hv
    have e1 := (hs x (by simp [PO.operands])).of_int h1
    have e2 := (hs y (by simp [PO.operands])).of_int h2
    refine ⟨_, .int _ _, fun w => ?_⟩
    simp [execOp, resolve, invoke, builtin, e1, e2, run_max_int2]
  · unfold compMinmax at hc
    split at hc
    case h_2 => cases hc
    rename_i x y hx
    obtain rfl : args = #[x, y] := by cases args; simp_all
    cases hc
    simp only [apure] at hv
    split at hv
    case h_2 => cases hv
    rename_i k a k' b h1 h2
    cases hv
    have e1 := (hs x (by simp [PO.operands])).of_int h1
    have e2 := (hs y (by simp [PO.operands])).of_int h2
    refine ⟨_, .int _ _, fun w => ?_⟩
    simp [execOp, resolve, invoke, builtin, e1, e2, run_min_int2]
  · cases hc

theorem pure_sound (o : Oper) {po : PO} (hcon : ∀ y c, y = .const c → ρ' y = c) (hc : compP P o.op = some po) (hs : Sees m ρ ρ' po.operands) {v : Value} (hv : apure ρ po = some v) : Gives P m ρ' o v := by
  obtain ⟨dst, op, type, pos, after, guard⟩ := o
  simp only at hc
  cases op
  case move x => cases hc; cases hv; exact ⟨_, hs.head, fun w => rfl⟩
  case assign x => cases hc; cases hv; exact ⟨_, hs.head, fun w => rfl⟩
  case pick c a b =>
    cases hc
    simp only [apure] at hv
    split at hv
    case h_2 => cases hv
    rename_i r hr
    cases hv
    have h1 := (hs c (by simp [PO.operands])).of_bool hr
    refine ⟨if r then ρ' a else ρ' b, ?_, fun w => ?_⟩
    · cases r
      · exact hs b (by simp [PO.operands])
      · exact hs a (by simp [PO.operands])
    · show ((do pure (.value (if ← asBool (ρ' c) then ρ' a else ρ' b))) : Sem Next).run P w = _
      rw [h1]; cases r <;> rfl
  case nilCheck x =>
    cases hc
    simp only [apure] at hv
    split at hv
    case h_2 => cases hv
    rename_i a ha
    cases hv
    have h1 := hs.head
    rw [ha] at h1
    generalize hu : ρ' x = u at h1
    cases h1
    rename_i id off r hr
    exact ⟨_, .ptr hr, fun w => by simp [execOp, hu]⟩
  case binOp op t x y yt => exact pure_binOp (fun c h => hcon y c h) hc hs hv
  case unOp op t x =>
    cases hc
    refine gives_of (s := Op.unary op (ρ' x)) rfl ?_
    simp only [apure] at hv
    split at hv
    · rename_i b hb
      cases hv
      rw [hs.head.of_bool hb]
      exact ⟨_, .bool _, fun w => rfl⟩
    · rename_i k n hn
      cases hv
      rw [hs.head.of_int hn]
      exact ⟨_, .int _ _, fun w => rfl⟩
    · cases hv
  case convert src dst' x =>
    refine gives_of (s := convert src dst' (ρ' x)) rfl ?_
    change compConv P src dst' x = some po at hc
    unfold compConv at hc
    split at hc
    case h_2 => cases hc
    rename_i ks hks
    split at hc
    case h_2 => cases hc
    rename_i k hk
    cases hc
    simp only [apure] at hv
    split at hv
    case h_2 => cases hv
    rename_i k' n hn
    cases hv
    rw [hs.head.of_int hn]
    exact ⟨_, .int _ _, fun w => by simp [convert, run_underlying hks, run_underlying hk, Conv.intToInt]⟩
  case fieldAddr s x f =>
    refine gives_of (s := Instr.fieldAt s (ρ' x) f) rfl ?_
    change compFieldAddr P s x f = some po at hc
    obtain ⟨fd, hfd, hc⟩ := Option.bind_eq_some_iff.1 hc
    obtain ⟨n, hn, hc⟩ := Option.bind_eq_some_iff.1 hc
    split at hc
    · cases hc
    rename_i hn0
    cases hc
    simp only [apure] at hv
    split at hv
    case h_2 => cases hv
    rename_i id o ho
    cases hv
    obtain ⟨r, hr, hu⟩ := hs.head.of_ptr ho
    rw [hu]
    refine ⟨_, .ptr hr, fun w => ?_⟩
    unfold fieldOf at hfd
    split at hfd
    case h_2 => cases hfd
    rename_i fs hfs
    simp [Instr.fieldAt, run_underlying hfs, hfd, Instr.sureAddr, fieldPlace, run_sizeOf hn, hn0, addr_add, Nat.add_assoc]
  case field s x f =>
    refine gives_of (s := Instr.field s (ρ' x) f) rfl ?_
    change compField P s x f = some po at hc
    obtain ⟨fd, hfd, hc⟩ := Option.bind_eq_some_iff.1 hc
    obtain ⟨n, hn, hc⟩ := Option.bind_eq_some_iff.1 hc
    obtain ⟨ag, hag, hc⟩ := Option.bind_eq_some_iff.1 hc
    cases hc
    simp only [apure] at hv
    split at hv
    case h_2 => cases hv
    rename_i cs hcs
    obtain ⟨ds, hds, hr, ho⟩ := hs.head.of_agg hcs
    rw [hds]
    obtain ⟨u, hu, hvu⟩ := partL_rel (LRel.of_array hr) (fun x hx => ho x (by simpa using hx)) hv
    refine ⟨u, hvu, fun w => ?_⟩
    unfold fieldOf at hfd
    split at hfd
    case h_2 => cases hfd
    rename_i fs hfs
    have := run_part P w fd.type ds.toList fd.offset n ag hn hag hu
    simp only [Array.toArray_toList] at this
    simp [Instr.field, run_underlying hfs, hfd, asAgg, this]
  case indexAddr t x i =>
    refine gives_of (s := Instr.indexAt t (ρ' x) (ρ' i)) rfl ?_
    change compIndexAddr P t x i = some po at hc
    unfold compIndexAddr at hc
    split at hc
    · rename_i n e hut
      obtain ⟨sz, hsz, rfl⟩ := Option.map_eq_some_iff.1 hc
      simp only [apure] at hv
      split at hv
      case h_2 => cases hv
      rename_i id o k j hx hi
      split at hv
      case isFalse => cases hv
      rename_i hj
      cases hv
      obtain ⟨r, hr, hu⟩ := (hs x (by simp [PO.operands])).of_ptr hx
      have hi' := (hs i (by simp [PO.operands])).of_int hi
      rw [hu, hi']
      exact ⟨_, .ptr hr, fun w => by simp [Instr.indexAt, asIntOf, run_underlying hut, Instr.sureAddr, hj, run_sizeOf hsz, addr_add, Nat.add_assoc]⟩
    · rename_i e hut
      obtain ⟨sz, hsz, rfl⟩ := Option.map_eq_some_iff.1 hc
      simp only [apure] at hv
      split at hv
      case h_2 => cases hv
      rename_i id o len _ k j hx hi
      split at hv
      case isFalse => cases hv
      rename_i hj
      cases hv
      have hi' := (hs i (by simp [PO.operands])).of_int hi
      obtain ⟨r, hr, ⟨cap, hu, _, _⟩ | ⟨rfl, _⟩⟩ := (hs x (by simp [PO.operands])).of_slice hx
      · rw [hu, hi']
        exact ⟨_, .ptr hr, fun w => by simp [Instr.indexAt, asIntOf, run_underlying hut, hj, run_sizeOf hsz, addr_add, Nat.add_assoc]⟩
      · omega
    · cases hc
  case index t x i =>
    refine gives_of (s := Instr.index t (ρ' x) (ρ' i)) rfl ?_
    change compIndex P t x i = some po at hc
    unfold compIndex at hc
    split at hc
    case h_2 => cases hc
    rename_i n e hut
    obtain ⟨sz, hsz, hc⟩ := Option.bind_eq_some_iff.1 hc
    obtain ⟨ag, hag, hc⟩ := Option.bind_eq_some_iff.1 hc
    cases hc
    simp only [apure] at hv
    split at hv
    case h_2 => cases hv
    rename_i cs k j hx hi
    split at hv
    case isFalse => cases hv
    rename_i hj
    have hi' := (hs i (by simp [PO.operands])).of_int hi
    obtain ⟨ds, hds, hr, ho⟩ := (hs x (by simp [PO.operands])).of_agg hx
    rw [hds, hi']
    obtain ⟨u, hu, hvu⟩ := partL_rel (LRel.of_array hr) (fun x hx => ho x (by simpa using hx)) hv
    refine ⟨u, hvu, fun w => ?_⟩
    have := run_part P w e ds.toList (j.toNat * sz) sz ag hsz hag hu
    simp only [Array.toArray_toList] at this
    simp [Instr.index, asIntOf, run_underlying hut, hj, run_sizeOf hsz, this]
  case build t parts =>
    refine gives_of (s := Instr.build t (parts.map fun (i, x) => (i, ρ' x))) rfl ?_
    change compBuild P t parts = some po at hc
    obtain ⟨z, hz, hc⟩ := Option.bind_eq_some_iff.1 hc
    split at hc
    case isFalse => cases hc
    rename_i hzo
    have hzc := constOk_cells hzo
    have hz' := run_zeroValue (P := P) (t := t) hz
    split at hc
    · rename_i fs hfs
      split at hc
      case isFalse => cases hc
      rename_i hall
      obtain ⟨qs, hqs, rfl⟩ := Option.map_eq_some_iff.1 hc
      simp only [apure] at hv
      obtain ⟨vs, hvs, rfl⟩ := Option.map_eq_some_iff.1 hv
      obtain ⟨us, hus, hru, hou⟩ := fillL_map_rel hzc (by simpa [PO.operands] using hs) hvs
      have hrr := ARel.of_list hru
      refine ⟨_, .agg hrr.1 (fun x hx => hou x (by simpa using hx)) hrr.2, fun w => ?_⟩
      obtain ⟨hl, hpq⟩ := build_parts hqs
      have hfill := fillOf (fun i => (fs.map fun f => (f.offset, (szT P f.type).getD 0))[i]?) (parts.map fun (i, x) => (i, ρ' x)).toList (qs.map fun p => (p.1, p.2.1, ρ' p.2.2)) z.cells.toList (by simpa using hl)
        (fun i p q hp hq => by
          simp only [Array.toList_map, List.getElem?_map] at hp hq
          obtain ⟨p0, hp0, rfl⟩ := Option.map_eq_some_iff.1 hp
          obtain ⟨q0, hq0, rfl⟩ := Option.map_eq_some_iff.1 hq
          obtain ⟨e1, f, hf, hsz, ho⟩ := hpq i p0 q0 hp0 hq0
          simp [e1, hf, hsz, ho]) hus
      simp only [Array.toArray_toList] at hfill
      have hpl := run_places (P := P) fs (fun f hf => by have := List.all_eq_true.1 hall f (by simpa using hf); exact this) w
      simp only [Instr.build, Sem.run_bind, hz' w, Result.andThen_ok, run_underlying hfs, hpl, hfill, Sem.run_pure]
    · rename_i n e hut
      obtain ⟨sz, hsz, rfl⟩ := Option.map_eq_some_iff.1 hc
      simp only [apure] at hv
      obtain ⟨vs, hvs, rfl⟩ := Option.map_eq_some_iff.1 hv
      obtain ⟨us, hus, hru, hou⟩ := fillL_map_rel hzc (by simpa [PO.operands] using hs) hvs
      have hrr := ARel.of_list hru
      refine ⟨_, .agg hrr.1 (fun x hx => hou x (by simpa using hx)) hrr.2, fun w => ?_⟩
      have hfill := fillOf (fun i => some (i * sz, sz)) (parts.map fun (i, x) => (i, ρ' x)).toList ((parts.toList.map fun p => (p.1 * sz, sz, p.2)).map fun p => (p.1, p.2.1, ρ' p.2.2)) z.cells.toList (by simp)
        (fun i p q hp hq => by
          simp only [Array.toList_map, List.getElem?_map] at hp hq
          obtain ⟨p0, hp0, rfl⟩ := Option.map_eq_some_iff.1 hp
          obtain ⟨q0, hq0, rfl⟩ := Option.map_eq_some_iff.1 hq
          obtain ⟨q1, hq1, rfl⟩ := Option.map_eq_some_iff.1 hq0
          rw [hp0] at hq1; cases hq1
          simp) hus
      simp only [Array.toArray_toList] at hfill
      simp only [Instr.build, Sem.run_bind, hz' w, Result.andThen_ok, run_underlying hut, run_sizeOf hsz, hfill, Sem.run_pure]
    · cases hc
  case slice t x lo hi mx =>
    refine gives_of (s := Instr.sliceAt t (ρ' x) (lo.map ρ') (hi.map ρ') (mx.map ρ')) rfl ?_
    change compSlice P t x lo hi mx = some po at hc
    unfold compSlice at hc
    split at hc
    · cases hc
    split at hc
    · rename_i n e hut
      split at hc
      case isFalse => cases hc
      rename_i hn
      obtain ⟨hlo, hhi⟩ := hn
      obtain ⟨sz, hsz, rfl⟩ := Option.map_eq_some_iff.1 hc
      obtain rfl := Option.isNone_iff_eq_none.1 hlo
      obtain rfl := Option.isNone_iff_eq_none.1 hhi
      simp only [apure] at hv
      split at hv
      case h_2 => cases hv
      rename_i id o ho
      cases hv
      obtain ⟨r, hr, hu⟩ := hs.head.of_ptr ho
      rw [hu]
      refine ⟨_, .slice hr (Nat.le_refl _) (.inl rfl), fun w => ?_⟩
      simp [Instr.sliceAt, run_underlying hut, Instr.sureAddr, Instr.sliceBounds, run_sizeOf hsz, addr_add]
    · rename_i e hut
      obtain ⟨sz, hsz, rfl⟩ := Option.map_eq_some_iff.1 hc
      have hlo : ∀ y, lo = some y → VRel m (ρ y) (ρ' y) := fun y hy => hs y (by simp [PO.operands, hy])
      have hhi : ∀ y, hi = some y → VRel m (ρ y) (ρ' y) := fun y hy => hs y (by simp [PO.operands, hy])
      have hx := hs x (by simp [PO.operands])
      simp only [apure] at hv
      split at hv
      · rename_i hx0
        split at hv
        case isFalse => cases hv
        rename_i hb
        cases hv
        obtain ⟨_, _, hu⟩ := hx.of_snil hx0
        rw [hu]
        refine ⟨_, .snil, fun w => ?_⟩
        have := run_bounds (P := P) (lo := lo) (hi := hi) (ρ' := ρ') (len := 0) (cap := 0) w (bnd_rel hlo hb.1) (bnd_rel hhi hb.2) (by omega) (by omega)
        simp [Instr.sliceAt, Instr.slice, run_underlying hut, this, run_sizeOf hsz]
      · rename_i id o len e0 hx0
        split at hv
        case h_2 => cases hv
        rename_i l h hl hh
        split at hv
        case isFalse => cases hv
        rename_i hb
        cases hv
        obtain ⟨r, hr, ⟨cap, hu, hlc, hcap⟩ | ⟨rfl, a, hu⟩⟩ := hx.of_slice hx0
        · have hbd := fun w => run_bounds (P := P) (lo := lo) (hi := hi) (ρ' := ρ') (len := len) (cap := cap) w (bnd_rel hlo hl) (bnd_rel hhi hh) hb.1 (by omega)
          rw [hu]
          by_cases hcl : cap = l
          · subst hcl
            have : h - cap = 0 := by omega
            rw [this]
            refine ⟨_, .sempty hr e0 ⟨r.cb, r.dl + o, none⟩, fun w => ?_⟩
            simp [Instr.sliceAt, Instr.slice, run_underlying hut, hbd, run_sizeOf hsz, this]
          · refine ⟨_, .slice (cap := cap - l) hr (by omega) ?_, fun w => ?_⟩
            · rcases hcap with hcap | hcap
              · exact .inl hcap
              · rcases hb.2.2 with h0 | h0
                · exact .inl h0
                · right
                  subst h0
                  have : l * e0 + (cap - l) * e0 = cap * e0 := by rw [← Nat.add_mul]; congr 1; omega
                  omega
            · simp [Instr.sliceAt, Instr.slice, run_underlying hut, hbd, run_sizeOf hsz, hcl, addr_add, Nat.add_assoc]
        · have h0 : l = 0 ∧ h = 0 := by omega
          obtain ⟨rfl, rfl⟩ := h0
          have hbd := fun w => run_bounds (P := P) (lo := lo) (hi := hi) (ρ' := ρ') (len := 0) (cap := 0) w (bnd_rel hlo hl) (bnd_rel hhi hh) (by omega) (by omega)
          rw [hu]
          exact ⟨_, .sempty hr e0 a, fun w => by simp [Instr.sliceAt, Instr.slice, run_underlying hut, hbd, run_sizeOf hsz]⟩
      · cases hv
    · cases hc
  case extract x i =>
    cases hc
    refine gives_of (s := Instr.extract (ρ' x) i) rfl ?_
    simp only [apure] at hv
    split at hv
    case h_2 => cases hv
    rename_i vs hvs
    obtain ⟨us, hus, hr⟩ := hs.head.of_tuple hvs
    rw [hus]
    have := (LRel.of_array hr).get (i := i) (v := v) (by simpa using hv)
    obtain ⟨u, hu, hvu⟩ := this
    have hu' : us[i]? = some u := by simpa using hu
    exact ⟨u, hvu, fun w => by simp [Instr.extract, hu']⟩
  case makeFunc fn first cap =>
    cases fn <;> first | (cases hc; done) | skip
    rename_i f
    change (if first.isEmpty = true then some (PO.mkFunc f cap.toList) else none) = some po at hc
    split at hc
    case isFalse => cases hc
    rename_i hf
    cases hc
    cases hv
    have hf' : first = #[] := by simpa using hf
    subst hf'
    refine ⟨.func (.func f) #[] (cap.map ρ'), .func _ rfl (fun i x y hx => by simp at hx) (by simp) (fun i x y hx hy => ?_), fun w => by simp [execOp, Instr.makeFunc]⟩
    simp at hx hy
    obtain ⟨a, ha, rfl⟩ := hx
    obtain ⟨b, hb, rfl⟩ := hy
    rw [ha] at hb; cases hb
    exact hs a (by simp [PO.operands]; exact Array.mem_of_getElem? ha)
  case call c => exact pure_call hc hs hv
  all_goals (cases hc)

end
end Go.Proofs.Ytbgnaeagdneikaa.Abs
