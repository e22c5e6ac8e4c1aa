/- An operation that only computes does so in the machine as told. -/
import Derived.Test.YtegaklgjcicnfaaGreatCoreA
set_option linter.unusedSimpArgs false
set_option linter.unusedVariables false
namespace Go.Proofs.YtegaklgjcicnfaaGreat.Abs
open Go Go.RowKit
section
variable {P : Program} {m : LMap} {ρ ρ' : Operand → Value}
theorem run_sizeOf {t : TypeId} {n : Nat} (h : szT P t = some n) (w : World) : (sizeOf t).run P w = .ok n w := by
 unfold szT at h
 obtain ⟨i, hi, hh⟩ := Option.map_eq_some_iff.1 h
 simp [sizeOf, typeInfo, hi, hh]
theorem run_zeroValue {t : TypeId} {z : Value} (h : (P.info? t).bind (·.zero) = some z) (w : World) : (zeroValue t).run P w = .ok z w := by
 obtain ⟨i, hi, hz⟩ := Option.bind_eq_some_iff.1 h
 simp [zeroValue, typeInfo, hi, hz]
theorem run_places (fs : Array Field) (hs : ∀ f ∈ fs, (szT P f.type).isSome) (w : World) :
  (fs.mapM fun f => (do pure (f.offset, ← sizeOf f.type) : Sem (Nat × Nat))).run P w = .ok (fs.map fun f => (f.offset, (szT P f.type).getD 0)) w := by
 rw [Array.mapM_eq_mapM_toList]
 have key : ∀ (l : List Field), (∀ f ∈ l, (szT P f.type).isSome) → (l.mapM fun f => (do pure (f.offset, ← sizeOf f.type) : Sem (Nat × Nat))).run P w = .ok (l.map fun f => (f.offset, (szT P f.type).getD 0)) w := by
  intro l
  induction l with
  | nil => intro _; rfl
  | cons f l ih =>
   intro hl
   obtain ⟨s, hs⟩ := Option.isSome_iff_exists.1 (hl f (by simp))
   rw [List.mapM_cons]
   simp only [Sem.run_bind, run_sizeOf hs, Result.andThen_ok, Sem.run_pure, ih (fun g hg => hl g (by simp [hg])), List.map_cons, hs, Option.getD_some]
 rw [Sem.run_map, key fs.toList (fun f hf => hs f (by simpa using hf))]
 simp only [Result.andThen_ok]
 congr 1
 apply Array.ext'
 simp
theorem build_parts {fs : Array Field} : ∀ {ps : List (Nat × Operand)} {qs : List (Nat × Nat × Operand)}, ps.mapM (fieldPl P fs) = some qs →
  ps.length = qs.length ∧ ∀ (i : Nat) p q, ps[i]? = some p → qs[i]? = some q → p.2 = q.2.2 ∧ ∃ f, fs[p.1]? = some f ∧ szT P f.type = some q.2.1 ∧ f.offset = q.1 := by
 intro ps
 induction ps with
 | nil => intro qs h; simp at h; subst h; simp
 | cons p ps ih =>
  intro qs h
  rw [List.mapM_cons] at h
  obtain ⟨q, hq, h⟩ := Option.bind_eq_some_iff.1 h
  obtain ⟨qs', hqs, h⟩ := Option.bind_eq_some_iff.1 h
  cases h
  obtain ⟨a, b⟩ := ih hqs
  refine ⟨by simp [a], fun i x y hx hy => ?_⟩
  cases i with
  | zero =>
   simp at hx hy
   subst hx; subst hy
   unfold fieldPl at hq
   split at hq
   ·rename_i f hf
    obtain ⟨s, hs, rfl⟩ := Option.map_eq_some_iff.1 hq
    exact ⟨rfl, f, hf, hs, rfl⟩
   ·cases hq
  | succ i => exact b i x y (by simpa using hx) (by simpa using hy)
theorem fillL_map_rel {z : List Value} (hz : ∀ x ∈ z, atomOk x = true) {qs : List (Nat × Nat × Operand)} (hs : Sees m ρ ρ' (qs.map (·.2.2))) {vs : List Value}
  (hv : fillL z (qs.map fun p => (p.1, p.2.1, ρ p.2.2)) = some vs) : ∃ us, fillL z (qs.map fun p => (p.1, p.2.1, ρ' p.2.2)) = some us ∧ LRel m vs us ∧ ∀ x ∈ vs, x.oneCell' = true := by
 refine fillL_rel (cs := z) (ds := z) ⟨rfl, fun i v u hv hu => ?_⟩ (fun x hx => (atomOk_rel m (hz x hx)).2) _ _ (by simp) (fun i p q hp hq => ?_) hv
 ·rw [hv] at hu; cases hu
  exact (atomOk_rel m (hz v (List.mem_of_getElem? hv))).1
 ·simp only [List.getElem?_map] at hp hq
  obtain ⟨x, hx, rfl⟩ := Option.map_eq_some_iff.1 hp
  rw [hx] at hq
  simp at hq
  subst hq
  exact ⟨rfl, rfl, hs x.2.2 (by simp; exact ⟨_, _, List.mem_of_getElem? hx⟩)⟩
theorem constOk_cells {z : Value} (h : constOk z = true) : ∀ x ∈ z.cells.toList, atomOk x = true := by
 unfold constOk at h
 split at h
 ·intro x hx; exact Array.all_eq_true_iff_forall_mem.1 h x (by simpa [Value.cells] using hx)
 ·rename_i hne
  intro x hx
  have : z.cells = #[z] := by cases z <;> first | rfl | exact absurd rfl (hne _)
  rw [this] at hx
  simp at hx
  subst hx
  exact h
/-- What is asked of an operation: its value. -/
def Gives (P : Program) (m : LMap) (ρ' : Operand → Value) (o : Oper) (v : Value) : Prop := ∃ u, VRel m v u ∧ ∀ w, (execOp ρ' o).run P w = .ok (.value u) w
theorem gives_of {o : Oper} {s : Sem Value} {v : Value} (he : execOp ρ' o = (do pure (.value (← s)))) (h : ∃ u, VRel m v u ∧ ∀ w, s.run P w = .ok u w) : Gives P m ρ' o v := by
 obtain ⟨u, hu, hr⟩ := h
 exact ⟨u, hu, fun w => by rw [he]; simp [hr w]⟩
variable {dst : Option Tmp} {type : TypeId} {pos : String} {after : Array Edge} {guard : Option (Nat × Bool)}
theorem eqk_some {op : BinOp} {a b po : PO} (h : eqk op a b = some po) : (op = .eql ∧ po = a) ∨ (op = .neq ∧ po = b) := by
 unfold eqk at h
 split at h
 ·cases h; exact .inl ⟨rfl, rfl⟩
 ·cases h; exact .inr ⟨rfl, rfl⟩
 ·cases h
theorem pure_binOp {op : BinOp} {t yt : TypeId} {x y : Operand} {po : PO} (hcon : ∀ c, y = .const c → ρ' y = c) (hc : compBin P op t x y = some po) (hs : Sees m ρ ρ' po.operands) {v : Value} (hv : apure ρ po = some v) :
  Gives P m ρ' ⟨dst, .binOp op t x y yt, type, pos, after, guard⟩ v := by
 refine gives_of (s := do eqGuard op t x y (ρ' x) (ρ' y); binOp op t (ρ' x) (ρ' y)) rfl ?_
 unfold compBin at hc
 cases hu : P.underlying t with
 | none => rw [hu] at hc; cases hc
 | some d =>
  rw [hu] at hc
  have nilc : (nilKind d y).bind (fun k => eqk op (.eqn k false x) (.eqn k true x)) = some po →
    ∃ u, VRel m v u ∧ ∀ w, (do eqGuard op t x y (ρ' x) (ρ' y); binOp op t (ρ' x) (ρ' y) : Sem Value).run P w = .ok u w := by
   intro hc
   obtain ⟨k, hk, hc⟩ := Option.bind_eq_some_iff.1 hc
   rcases eqk_some hc with ⟨rfl, rfl⟩ | ⟨rfl, rfl⟩
   all_goals
    obtain ⟨b, hb, rfl⟩ := Option.map_eq_some_iff.1 hv
    have hb' := isNil_rel (hs x (by simp [PO.operands])) hb
    refine ⟨_, .bool _, fun w => ?_⟩
    have := run_isEq (P := P) t x y (ρ' x) (ρ' y) hu hk (fun c hy => hcon c hy) hb' w
    first | (simpa using this.1) | (simpa using this.2)
  have aggc : (if P.eqGuardType P.depth t = false then (flatT P 20 t).bind fun sg => eqk op (.eqa sg false x y) (.eqa sg true x y) else none) = some po → aggT P t = some true →
    ∃ u, VRel m v u ∧ ∀ w, (do eqGuard op t x y (ρ' x) (ρ' y); binOp op t (ρ' x) (ρ' y) : Sem Value).run P w = .ok u w := by
   intro hc hag
   split at hc
   case isFalse => cases hc
   rename_i hgt
   obtain ⟨sg, hsg, hc⟩ := Option.bind_eq_some_iff.1 hc
   have hrun : ∀ (a b a' b' : Array Value), ARel m a a' → ARel m b b' → ∀ {r}, flatEq sg a.toList b.toList = some r → ∀ w, (Op.equalIn 10000 t (.agg a') (.agg b')).run P w = .ok r w := by
    intro a b a' b' ha hb r hr w
    refine run_equalIn_flat P 20 10000 t sg hsg (by omega) w _ _ ⟨fun _ => ⟨_, rfl⟩, fun h => (by rw [hag] at h; cases h)⟩ ⟨fun _ => ⟨_, rfl⟩, fun h => (by rw [hag] at h; cases h)⟩ ?_
    have key : ∀ (sg : List Bool) (a a' b b' : List Value) (r : Bool), LRel m a a' → LRel m b b' → flatEq sg a b = some r → flatEq sg a' b' = some r := by
     intro sg
     induction sg with
     | nil =>
      intro a a' b b' r ha hb hr
      cases a <;> cases b <;> simp [flatEq] at hr
      have e1 : a' = [] := List.eq_nil_of_length_eq_zero (by have := ha.1; simpa using this.symm)
      have e2 : b' = [] := List.eq_nil_of_length_eq_zero (by have := hb.1; simpa using this.symm)
      subst e1; subst e2; simp [flatEq, hr]
     | cons c sg ih =>
      intro a a' b b' r ha hb hr
      obtain ⟨x, xs, y, ys, d, r', rfl, rfl, h1, rfl, h2⟩ := flatEq_cons hr
      cases a' with
      | nil => have := ha.1; simp at this
      | cons x' xs' =>
       cases b' with
       | nil => have := hb.1; simp at this
       | cons y' ys' =>
        have i1 := ih xs xs' ys ys' r' ⟨by have := ha.1; simpa using this, fun i p q hp hq => ha.2 (i + 1) p q (by simpa using hp) (by simpa using hq)⟩ ⟨by have := hb.1; simpa using this, fun i p q hp hq => hb.2 (i + 1) p q (by simpa using hp) (by simpa using hq)⟩ h1
        have hx := ha.2 0 x x' rfl rfl
        have hy := hb.2 0 y y' rfl rfl
        rcases h2 with ⟨rfl, k, p, q, rfl, rfl, rfl⟩ | ⟨rfl, p, q, rfl, rfl, rfl⟩
        ·cases hx; cases hy; simp [flatEq, i1]
        ·cases hx; cases hy; simp [flatEq, i1]
    exact key sg _ _ _ _ r (LRel.of_array ha) (LRel.of_array hb) hr
   rcases eqk_some hc with ⟨rfl, rfl⟩ | ⟨rfl, rfl⟩
   all_goals
    simp only [apure] at hv
    split at hv
    case h_2 => cases hv
    rename_i a b hx hy
    obtain ⟨r, hr, rfl⟩ := Option.map_eq_some_iff.1 hv
    obtain ⟨a', ea, ra, _⟩ := (hs x (by simp [PO.operands])).of_agg hx
    obtain ⟨b', eb, rb, _⟩ := (hs y (by simp [PO.operands])).of_agg hy
    refine ⟨_, .bool _, fun w => ?_⟩
    have hq := hrun a b a' b' ra rb hr w
    rw [ea, eb]
    simp only [Sem.run_bind, run_eqGuard_agg w _ t x y a' b' hgt, Result.andThen_ok]
    first
     | (rw [run_eql_struct, hq]; simp; done)
     | (rw [run_neq_struct, hq]; simp)
  cases d
  case int k0 =>
   cases hc
   simp only [apure] at hv
   split at hv
   case h_2 => cases hv
   rename_i k a k' b hx hy
   rw [(hs x (by simp [PO.operands])).of_int hx, (hs y (by simp [PO.operands])).of_int hy]
   refine ⟨v, ?_, fun w => run_int2 op t x y k k' a b hv w⟩
   unfold int2 at hv
   cases op <;> simp only [] at hv <;> (repeat (split at hv)) <;> first | (cases hv; first | exact .int _ _ | exact .bool _) | cases hv
  case bool =>
   rcases eqk_some hc with ⟨rfl, rfl⟩ | ⟨rfl, rfl⟩
   all_goals
    simp only [apure] at hv
    split at hv
    case h_2 => cases hv
    rename_i a b hx hy
    cases hv
    rw [(hs x (by simp [PO.operands])).of_bool hx, (hs y (by simp [PO.operands])).of_bool hy]
    refine ⟨_, .bool _, fun w => ?_⟩
    have hg : ∀ op w, (eqGuard op t x y (.bool a) (.bool b)).run P w = .ok () w := fun op w => by cases op <;> rfl
    simp only [Sem.run_bind, hg, Result.andThen_ok]
    first
     | (rw [run_eql_bool w t a b hu]; simp; done)
     | (rw [run_neq_bool w t a b hu]; simp)
  case string =>
   rcases eqk_some hc with ⟨rfl, rfl⟩ | ⟨rfl, rfl⟩
   all_goals
    simp only [apure] at hv
    split at hv
    case h_2 => cases hv
    rename_i a b hx hy
    cases hv
    rw [(hs x (by simp [PO.operands])).of_string hx, (hs y (by simp [PO.operands])).of_string hy]
    refine ⟨_, .bool _, fun w => ?_⟩
    have hg : ∀ op w, (eqGuard op t x y (.string a) (.string b)).run P w = .ok () w := fun op w => by cases op <;> rfl
    simp only [Sem.run_bind, hg, Result.andThen_ok]
    simp [binOp, Op.stringOp]
  case struct => exact aggc hc (by simp [aggT, hu])
  case array => exact aggc hc (by simp [aggT, hu])
  all_goals exact nilc hc
theorem run_bounds {lo hi : Option Operand} {len cap : Nat} (w : World) {l h : Nat} (hl : (lo = none ∧ l = 0) ∨ ∃ x k i, lo = some x ∧ ρ' x = .int k i ∧ 0 ≤ i ∧ l = i.toNat)
  (hh : (hi = none ∧ h = len) ∨ ∃ x k i, hi = some x ∧ ρ' x = .int k i ∧ 0 ≤ i ∧ h = i.toNat) (h1 : l ≤ h) (h2 : h ≤ cap) :
  (Instr.sliceBounds true len cap (lo.map ρ') (hi.map ρ') none).run P w = .ok (l, h, cap) w := by
 have hb : ∀ (k : IntKind) (i : Int) (y : Nat) (c : BoundsCode), 0 ≤ i → i ≤ y → (Instr.sliceBound (.int k i) y c).run P w = .ok i.toNat w := fun k i y c a b => run_sliceBound w k i y c a b
 rcases hl with ⟨rfl, rfl⟩ | ⟨x, k, i, rfl, hx, hi0, rfl⟩ <;> rcases hh with ⟨rfl, rfl⟩ | ⟨x', k', i', rfl, hx', hi0', rfl⟩
 ·simp [Instr.sliceBounds]
 ·simp [Instr.sliceBounds, hx', hb k' i' cap .sliceAcap hi0' (by omega)]
 ·simp [Instr.sliceBounds, hx, hb k i h .sliceB hi0 (by omega)]
 ·simp [Instr.sliceBounds, hx, hx', hb k' i' cap .sliceAcap hi0' (by omega), hb k i i'.toNat .sliceB hi0 (by omega)]
theorem pure_call {c : Call} {po : PO} (hc : compCall P c = some po) (hs : Sees m ρ ρ' po.operands) {v : Value} (hv : apure ρ po = some v) : Gives P m ρ' ⟨dst, .call c, type, pos, after, guard⟩ v := by
 obtain ⟨callee, args, ats⟩ := c
 unfold compCall at hc
 simp only at hc
 split at hc
 ·unfold compLen at hc
  split at hc
  case h_2 => cases hc
  rename_i x t hx ht
  obtain rfl : args = #[x] := by cases args; simp_all
  obtain rfl : ats = #[t] := by cases ats; simp_all
  split at hc
  ·rename_i e hut
   cases hc
   simp only [apure] at hv
   split at hv
   case h_2 => cases hv
   rename_i a n c hsl
   cases hv
   have hu : ∃ a' c', ρ' x = .slice a' n c' := by
    have h1 := hs.head
    rw [hsl] at h1
    generalize ρ' x = u at h1
    cases h1 <;> exact ⟨_, _, rfl⟩
   obtain ⟨a', c', hu⟩ := hu
   exact ⟨_, .int .i64 n, fun w => by simp [execOp, resolve, invoke, builtin, Builtin.len_, hu, run_underlying hut, goInt]⟩
  ·rename_i n e hut
   cases hc
   cases hv
   exact ⟨_, .int .i64 n, fun w => by simp [execOp, resolve, invoke, builtin, Builtin.len_, run_underlying hut, goInt]⟩
  ·cases hc
 ·unfold compMinmax at hc
  split at hc
  case h_2 => cases hc
  rename_i x y hx
  obtain rfl : args = #[x, y] := by cases args; simp_all
  cases hc
  simp only [apure] at hv
  split at hv
  case h_2 => cases hv
  rename_i k a k' b h1 h2
  cases hv
  have e1 := (hs x (by simp [PO.operands])).of_int h1
  have e2 := (hs y (by simp [PO.operands])).of_int h2
  refine ⟨_, .int _ _, fun w => ?_⟩
  simp [execOp, resolve, invoke, builtin, e1, e2, run_max_int2]
 ·unfold compMinmax at hc
  split at hc
  case h_2 => cases hc
  rename_i x y hx
  obtain rfl : args = #[x, y] := by cases args; simp_all
  cases hc
  simp only [apure] at hv
  split at hv
  case h_2 => cases hv
  rename_i k a k' b h1 h2
  cases hv
  have e1 := (hs x (by simp [PO.operands])).of_int h1
  have e2 := (hs y (by simp [PO.operands])).of_int h2
  refine ⟨_, .int _ _, fun w => ?_⟩
  simp [execOp, resolve, invoke, builtin, e1, e2, run_min_int2]
 ·cases hc
theorem pure_sound (o : Oper) {po : PO} (hcon : ∀ y c, y = .const c → ρ' y = c) (hc : compP P o.op = some po) (hs : Sees m ρ ρ' po.operands) {v : Value} (hv : apure ρ po = some v) : Gives P m ρ' o v := by
 obtain ⟨dst, op, type, pos, after, guard⟩ := o
 simp only at hc
 cases op
 case move x => cases hc; cases hv; exact ⟨_, hs.head, fun w => rfl⟩
 case assign x => cases hc; cases hv; exact ⟨_, hs.head, fun w => rfl⟩
 case pick c a b =>
  cases hc
  simp only [apure] at hv
  split at hv
  case h_2 => cases hv
  rename_i r hr
  cases hv
  have h1 := (hs c (by simp [PO.operands])).of_bool hr
  refine ⟨if r then ρ' a else ρ' b, ?_, fun w => ?_⟩
  ·cases r
   ·exact hs b (by simp [PO.operands])
   ·exact hs a (by simp [PO.operands])
  ·show ((do pure (.value (if ← asBool (ρ' c) then ρ' a else ρ' b))) : Sem Next).run P w = _
   rw [h1]; cases r <;> rfl
 case nilCheck x =>
  cases hc
  simp only [apure] at hv
  split at hv
  case h_2 => cases hv
  rename_i a ha
  cases hv
  have h1 := hs.head
  rw [ha] at h1
  generalize hu : ρ' x = u at h1
  cases h1
  rename_i id off r hr
  exact ⟨_, .ptr hr, fun w => by simp [execOp, hu]⟩
 case binOp op t x y yt => exact pure_binOp (fun c h => hcon y c h) hc hs hv
 case unOp op t x =>
  cases hc
  refine gives_of (s := Op.unary op (ρ' x)) rfl ?_
  simp only [apure] at hv
  split at hv
  ·rename_i b hb
   cases hv
   rw [hs.head.of_bool hb]
   exact ⟨_, .bool _, fun w => rfl⟩
  ·rename_i k n hn
   cases hv
   rw [hs.head.of_int hn]
   exact ⟨_, .int _ _, fun w => rfl⟩
  ·cases hv
 case convert src dst' x =>
  refine gives_of (s := convert src dst' (ρ' x)) rfl ?_
  change compConv P src dst' x = some po at hc
  unfold compConv at hc
  split at hc
  case h_2 => cases hc
  rename_i ks hks
  split at hc
  case h_2 => cases hc
  rename_i k hk
  cases hc
  simp only [apure] at hv
  split at hv
  case h_2 => cases hv
  rename_i k' n hn
  cases hv
  rw [hs.head.of_int hn]
  exact ⟨_, .int _ _, fun w => by simp [convert, run_underlying hks, run_underlying hk, Conv.intToInt]⟩
 case fieldAddr s x f =>
  refine gives_of (s := Instr.fieldAt s (ρ' x) f) rfl ?_
  change compFieldAddr P s x f = some po at hc
  obtain ⟨fd, hfd, hc⟩ := Option.bind_eq_some_iff.1 hc
  obtain ⟨n, hn, hc⟩ := Option.bind_eq_some_iff.1 hc
  split at hc
  ·cases hc
  rename_i hn0
  cases hc
  simp only [apure] at hv
  split at hv
  case h_2 => cases hv
  rename_i id o ho
  cases hv
  obtain ⟨r, hr, hu⟩ := hs.head.of_ptr ho
  rw [hu]
  refine ⟨_, .ptr hr, fun w => ?_⟩
  unfold fieldOf at hfd
  split at hfd
  case h_2 => cases hfd
  rename_i fs hfs
  simp [Instr.fieldAt, run_underlying hfs, hfd, Instr.sureAddr, fieldPlace, run_sizeOf hn, hn0, addr_add, Nat.add_assoc]
 case field s x f =>
  refine gives_of (s := Instr.field s (ρ' x) f) rfl ?_
  change compField P s x f = some po at hc
  obtain ⟨fd, hfd, hc⟩ := Option.bind_eq_some_iff.1 hc
  obtain ⟨n, hn, hc⟩ := Option.bind_eq_some_iff.1 hc
  obtain ⟨ag, hag, hc⟩ := Option.bind_eq_some_iff.1 hc
  cases hc
  simp only [apure] at hv
  split at hv
  case h_2 => cases hv
  rename_i cs hcs
  obtain ⟨ds, hds, hr, ho⟩ := hs.head.of_agg hcs
  rw [hds]
  obtain ⟨u, hu, hvu⟩ := partL_rel (LRel.of_array hr) (fun x hx => ho x (by simpa using hx)) hv
  refine ⟨u, hvu, fun w => ?_⟩
  unfold fieldOf at hfd
  split at hfd
  case h_2 => cases hfd
  rename_i fs hfs
  have := run_part P w fd.type ds.toList fd.offset n ag hn hag hu
  simp only [Array.toArray_toList] at this
  simp [Instr.field, run_underlying hfs, hfd, asAgg, this]
 case indexAddr t x i =>
  refine gives_of (s := Instr.indexAt t (ρ' x) (ρ' i)) rfl ?_
  change compIndexAddr P t x i = some po at hc
  unfold compIndexAddr at hc
  split at hc
  ·rename_i n e hut
   obtain ⟨sz, hsz, rfl⟩ := Option.map_eq_some_iff.1 hc
   simp only [apure] at hv
   split at hv
   case h_2 => cases hv
   rename_i id o k j hx hi
   split at hv
   case isFalse => cases hv
   rename_i hj
   cases hv
   obtain ⟨r, hr, hu⟩ := (hs x (by simp [PO.operands])).of_ptr hx
   have hi' := (hs i (by simp [PO.operands])).of_int hi
   rw [hu, hi']
   exact ⟨_, .ptr hr, fun w => by simp [Instr.indexAt, asIntOf, run_underlying hut, Instr.sureAddr, hj, run_sizeOf hsz, addr_add, Nat.add_assoc]⟩
  ·rename_i e hut
   obtain ⟨sz, hsz, rfl⟩ := Option.map_eq_some_iff.1 hc
   simp only [apure] at hv
   split at hv
   case h_2 => cases hv
   rename_i id o len _ k j hx hi
   split at hv
   case isFalse => cases hv
   rename_i hj
   cases hv
   have hi' := (hs i (by simp [PO.operands])).of_int hi
   obtain ⟨r, hr, ⟨cap, hu, _, _⟩ | ⟨rfl, _⟩⟩ := (hs x (by simp [PO.operands])).of_slice hx
   ·rw [hu, hi']
    exact ⟨_, .ptr hr, fun w => by simp [Instr.indexAt, asIntOf, run_underlying hut, hj, run_sizeOf hsz, addr_add, Nat.add_assoc]⟩
   ·omega
  ·cases hc
 case index t x i =>
  refine gives_of (s := Instr.index t (ρ' x) (ρ' i)) rfl ?_
  change compIndex P t x i = some po at hc
  unfold compIndex at hc
  split at hc
  case h_2 => cases hc
  rename_i n e hut
  obtain ⟨sz, hsz, hc⟩ := Option.bind_eq_some_iff.1 hc
  obtain ⟨ag, hag, hc⟩ := Option.bind_eq_some_iff.1 hc
  cases hc
  simp only [apure] at hv
  split at hv
  case h_2 => cases hv
  rename_i cs k j hx hi
  split at hv
  case isFalse => cases hv
  rename_i hj
  have hi' := (hs i (by simp [PO.operands])).of_int hi
  obtain ⟨ds, hds, hr, ho⟩ := (hs x (by simp [PO.operands])).of_agg hx
  rw [hds, hi']
  obtain ⟨u, hu, hvu⟩ := partL_rel (LRel.of_array hr) (fun x hx => ho x (by simpa using hx)) hv
  refine ⟨u, hvu, fun w => ?_⟩
  have := run_part P w e ds.toList (j.toNat * sz) sz ag hsz hag hu
  simp only [Array.toArray_toList] at this
  simp [Instr.index, asIntOf, run_underlying hut, hj, run_sizeOf hsz, this]
 case build t parts =>
  refine gives_of (s := Instr.build t (parts.map fun (i, x) => (i, ρ' x))) rfl ?_
  change compBuild P t parts = some po at hc
  obtain ⟨z, hz, hc⟩ := Option.bind_eq_some_iff.1 hc
  split at hc
  case isFalse => cases hc
  rename_i hzo
  have hzc := constOk_cells hzo
  have hz' := run_zeroValue (P := P) (t := t) hz
  split at hc
  ·rename_i fs hfs
   split at hc
   case isFalse => cases hc
   rename_i hall
   obtain ⟨qs, hqs, rfl⟩ := Option.map_eq_some_iff.1 hc
   simp only [apure] at hv
   obtain ⟨vs, hvs, rfl⟩ := Option.map_eq_some_iff.1 hv
   obtain ⟨us, hus, hru, hou⟩ := fillL_map_rel hzc (by simpa [PO.operands] using hs) hvs
   have hrr := ARel.of_list hru
   refine ⟨_, .agg hrr.1 (fun x hx => hou x (by simpa using hx)) hrr.2, fun w => ?_⟩
   obtain ⟨hl, hpq⟩ := build_parts hqs
   have hfill := fillOf (fun i => (fs.map fun f => (f.offset, (szT P f.type).getD 0))[i]?) (parts.map fun (i, x) => (i, ρ' x)).toList (qs.map fun p => (p.1, p.2.1, ρ' p.2.2)) z.cells.toList (by simpa using hl)
    (fun i p q hp hq => by
     simp only [Array.toList_map, List.getElem?_map] at hp hq
     obtain ⟨p0, hp0, rfl⟩ := Option.map_eq_some_iff.1 hp
     obtain ⟨q0, hq0, rfl⟩ := Option.map_eq_some_iff.1 hq
     obtain ⟨e1, f, hf, hsz, ho⟩ := hpq i p0 q0 hp0 hq0
     simp [e1, hf, hsz, ho]) hus
   simp only [Array.toArray_toList] at hfill
   have hpl := run_places (P := P) fs (fun f hf => by have := List.all_eq_true.1 hall f (by simpa using hf); exact this) w
   simp only [Instr.build, Sem.run_bind, hz' w, Result.andThen_ok, run_underlying hfs, hpl, hfill, Sem.run_pure]
  ·rename_i n e hut
   obtain ⟨sz, hsz, rfl⟩ := Option.map_eq_some_iff.1 hc
   simp only [apure] at hv
   obtain ⟨vs, hvs, rfl⟩ := Option.map_eq_some_iff.1 hv
   obtain ⟨us, hus, hru, hou⟩ := fillL_map_rel hzc (by simpa [PO.operands] using hs) hvs
   have hrr := ARel.of_list hru
   refine ⟨_, .agg hrr.1 (fun x hx => hou x (by simpa using hx)) hrr.2, fun w => ?_⟩
   have hfill := fillOf (fun i => some (i * sz, sz)) (parts.map fun (i, x) => (i, ρ' x)).toList ((parts.toList.map fun p => (p.1 * sz, sz, p.2)).map fun p => (p.1, p.2.1, ρ' p.2.2)) z.cells.toList (by simp)
    (fun i p q hp hq => by
     simp only [Array.toList_map, List.getElem?_map] at hp hq
     obtain ⟨p0, hp0, rfl⟩ := Option.map_eq_some_iff.1 hp
     obtain ⟨q0, hq0, rfl⟩ := Option.map_eq_some_iff.1 hq
     obtain ⟨q1, hq1, rfl⟩ := Option.map_eq_some_iff.1 hq0
     rw [hp0] at hq1; cases hq1
     simp) hus
   simp only [Array.toArray_toList] at hfill
   simp only [Instr.build, Sem.run_bind, hz' w, Result.andThen_ok, run_underlying hut, run_sizeOf hsz, hfill, Sem.run_pure]
  ·cases hc
 case slice t x lo hi mx =>
  refine gives_of (s := Instr.sliceAt t (ρ' x) (lo.map ρ') (hi.map ρ') (mx.map ρ')) rfl ?_
  change compSlice P t x lo hi mx = some po at hc
  unfold compSlice at hc
  split at hc
  ·cases hc
  split at hc
  ·rename_i n e hut
   split at hc
   case isFalse => cases hc
   rename_i hn
   obtain ⟨hlo, hhi⟩ := hn
   obtain ⟨sz, hsz, rfl⟩ := Option.map_eq_some_iff.1 hc
   obtain rfl := Option.isNone_iff_eq_none.1 hlo
   obtain rfl := Option.isNone_iff_eq_none.1 hhi
   simp only [apure] at hv
   split at hv
   case h_2 => cases hv
   rename_i id o ho
   cases hv
   obtain ⟨r, hr, hu⟩ := hs.head.of_ptr ho
   rw [hu]
   refine ⟨_, .slice hr (Nat.le_refl _) (.inl rfl), fun w => ?_⟩
   simp [Instr.sliceAt, run_underlying hut, Instr.sureAddr, Instr.sliceBounds, run_sizeOf hsz, addr_add]
  ·rename_i e hut
   obtain ⟨sz, hsz, rfl⟩ := Option.map_eq_some_iff.1 hc
   have hlo : ∀ y, lo = some y → VRel m (ρ y) (ρ' y) := fun y hy => hs y (by simp [PO.operands, hy])
   have hhi : ∀ y, hi = some y → VRel m (ρ y) (ρ' y) := fun y hy => hs y (by simp [PO.operands, hy])
   have hx := hs x (by simp [PO.operands])
   simp only [apure] at hv
   split at hv
   ·rename_i hx0
    split at hv
    case isFalse => cases hv
    rename_i hb
    cases hv
    obtain ⟨_, _, hu⟩ := hx.of_snil hx0
    rw [hu]
    refine ⟨_, .snil, fun w => ?_⟩
    have := run_bounds (P := P) (lo := lo) (hi := hi) (ρ' := ρ') (len := 0) (cap := 0) w (bnd_rel hlo hb.1) (bnd_rel hhi hb.2) (by omega) (by omega)
    simp [Instr.sliceAt, Instr.slice, run_underlying hut, this, run_sizeOf hsz]
   ·rename_i id o len e0 hx0
    split at hv
    case h_2 => cases hv
    rename_i l h hl hh
    split at hv
    case isFalse => cases hv
    rename_i hb
    cases hv
    obtain ⟨r, hr, ⟨cap, hu, hlc, hcap⟩ | ⟨rfl, a, hu⟩⟩ := hx.of_slice hx0
    ·have hbd := fun w => run_bounds (P := P) (lo := lo) (hi := hi) (ρ' := ρ') (len := len) (cap := cap) w (bnd_rel hlo hl) (bnd_rel hhi hh) hb.1 (by omega)
     rw [hu]
     by_cases hcl : cap = l
     ·subst hcl
      have : h - cap = 0 := by omega
      rw [this]
      refine ⟨_, .sempty hr e0 ⟨r.cb, r.dl + o, none⟩, fun w => ?_⟩
      simp [Instr.sliceAt, Instr.slice, run_underlying hut, hbd, run_sizeOf hsz, this]
     ·refine ⟨_, .slice (cap := cap - l) hr (by omega) ?_, fun w => ?_⟩
      ·rcases hcap with hcap | hcap
       ·exact .inl hcap
       ·rcases hb.2.2 with h0 | h0
        ·exact .inl h0
        ·right
         subst h0
         have hcap2 := hcap.2
         have hcap := hcap.1
         refine ⟨?_, by omega⟩
         have : l * e0 + (cap - l) * e0 = cap * e0 := by rw [← Nat.add_mul]; congr 1; omega
         omega
      ·simp [Instr.sliceAt, Instr.slice, run_underlying hut, hbd, run_sizeOf hsz, hcl, addr_add, Nat.add_assoc]
    ·have h0 : l = 0 ∧ h = 0 := by omega
     obtain ⟨rfl, rfl⟩ := h0
     have hbd := fun w => run_bounds (P := P) (lo := lo) (hi := hi) (ρ' := ρ') (len := 0) (cap := 0) w (bnd_rel hlo hl) (bnd_rel hhi hh) (by omega) (by omega)
     rw [hu]
     exact ⟨_, .sempty hr e0 a, fun w => by simp [Instr.sliceAt, Instr.slice, run_underlying hut, hbd, run_sizeOf hsz]⟩
   ·cases hv
  ·cases hc
 case extract x i =>
  cases hc
  refine gives_of (s := Instr.extract (ρ' x) i) rfl ?_
  simp only [apure] at hv
  split at hv
  case h_2 => cases hv
  rename_i vs hvs
  obtain ⟨us, hus, hr⟩ := hs.head.of_tuple hvs
  rw [hus]
  have := (LRel.of_array hr).get (i := i) (v := v) (by simpa using hv)
  obtain ⟨u, hu, hvu⟩ := this
  have hu' : us[i]? = some u := by simpa using hu
  exact ⟨u, hvu, fun w => by simp [Instr.extract, hu']⟩
 case makeFunc fn first cap =>
  cases fn <;> first | (cases hc; done) | skip
  rename_i f
  cases hc
  cases hv
  have hm : ∀ (xs : Array Operand), (∀ x ∈ xs.toList, x ∈ (PO.mkFunc f first.toList cap.toList).operands) → ∀ (i : Nat) x y, ((xs.toList.map ρ).toArray)[i]? = some x → (xs.map ρ')[i]? = some y → VRel m x y := by
   intro xs hin i x y hx hy
   simp at hx hy
   obtain ⟨a, ha, rfl⟩ := hx
   obtain ⟨b, hb, rfl⟩ := hy
   rw [ha] at hb; cases hb
   exact hs a (hin a (by simpa using Array.mem_of_getElem? ha))
  exact ⟨.func (.func f) (first.map ρ') (cap.map ρ'), .func _ (by simp) (hm first fun x hx => by simp only [PO.operands, List.mem_append]; exact .inl hx) (by simp) (hm cap fun x hx => by simp only [PO.operands, List.mem_append]; exact .inr hx), fun w => by simp [execOp, Instr.makeFunc]⟩
 case makeInterface t x =>
  simp only [compP] at hc
  split at hc
  ·cases hc
  rename_i d hd
  split at hc
  ·cases hc
  rename_i hni
  cases hc
  cases hv
  refine ⟨.iface t (ρ' x), .iface t hs.head, fun w => ?_⟩
  cases d <;> first | (exact absurd rfl (hni _)) | simp [execOp, Instr.makeInterface, run_underlying hd]
 case typeAssert x xt t ok =>
  simp only [compP] at hc
  split at hc
  case isFalse => cases hc
  rename_i hok
  subst hok
  split at hc
  ·cases hc
  rename_i d hd
  split at hc
  ·cases hc
  rename_i hni
  obtain ⟨z, hz, hc⟩ := Option.bind_eq_some_iff.1 hc
  split at hc
  case isFalse => cases hc
  rename_i hzo
  cases hc
  have hrun : ∀ (u : Value) w, (Instr.typeAssert (ρ' x) xt t true).run P w = .ok u w → (execOp ρ' ⟨dst, .typeAssert x xt t true, type, pos, after, guard⟩).run P w = .ok (.value u) w := fun u w h => by simp [execOp, h]
  have hp : ∀ {a b : Value}, VRel m a b → ∀ r, VRel m (.tuple #[a, .bool r]) (.tuple #[b, .bool r]) := fun {a b} h r => .tuple rfl fun i p q hp hq => by
   match i with
   | 0 => simp at hp hq; subst hp; subst hq; exact h
   | 1 => simp at hp hq; subst hp; subst hq; exact .bool r
   | i + 2 => simp at hp
  simp only [apure] at hv
  have hx := hs.head
  split at hv
  ·rename_i t' v' he
   rw [he] at hx
   generalize hu : ρ' x = u at hx
   cases hx
   rename_i u' hvu
   cases hv
   by_cases ht : t' = t
   ·subst ht
    refine ⟨.tuple #[u', .bool true], by simpa using hp hvu true, fun w => hrun _ _ ?_⟩
    rw [hu]
    cases d <;> first | (exact absurd rfl (hni _)) | simp [Instr.typeAssert, run_underlying hd]
   ·refine ⟨.tuple #[z, .bool false], by simpa [ht] using hp (constOk_rel m hzo) false, fun w => hrun _ _ ?_⟩
    rw [hu]
    cases d <;> first | (exact absurd rfl (hni _)) | simp [Instr.typeAssert, run_underlying hd, ht, run_zeroValue (P := P) (t := t) hz]
  ·rename_i he
   rw [he] at hx
   generalize hu : ρ' x = u at hx
   cases hx
   cases hv
   refine ⟨.tuple #[z, .bool false], hp (constOk_rel m hzo) false, fun w => hrun _ _ ?_⟩
   rw [hu]
   cases d <;> first | (exact absurd rfl (hni _)) | simp [Instr.typeAssert, run_underlying hd, run_zeroValue (P := P) (t := t) hz]
  ·cases hv
 case call c => exact pure_call hc hs hv
 all_goals (cases hc)
end
end Go.Proofs.YtegaklgjcicnfaaGreat.Abs
namespace Go.Proofs.YtegaklgjcicnfaaGreat.Abs
open Go Go.RowKit
def compAppend (P : Program) (args : List Operand) (ts : List TypeId) : Option HO :=
 match args, ts with
 | [x, y], [t, t'] => if t' = t then (match P.underlying t with
  | some (.slice e) => (P.info? e).bind fun i => if i.size = 0 then none else i.zero.bind fun z => if z.cells.size = i.size ∧ 0 < i.bytes then some (.append i.size i.bytes x y) else none
  | _ => none) else none
 | _, _ => none
def compClear (P : Program) (args : List Operand) (ts : List TypeId) : Option HO :=
 match args, ts with
 | [x], [t] => match P.underlying t with
  | some (.slice e) => (zeroT P e).bind fun z => if z.cells.toList.all atomOk = true then some (.clear z.cells.toList x) else none
  | _ => none
 | _, _ => none
def compH (P : Program) : Op → Option HO
 | .load t x => (szT P t).bind fun sz => (aggT P t).bind fun ag => some (.load sz ag x)
 | .store t a v => (szT P t).map fun sz => .store sz a v
 | .box _ x => some (.box x)
 | .alloc t => (zeroT P t).bind fun z => if constOk z = true then some (.alloc z.cells.toList) else none
 | .buildSlice t len parts => match P.underlying t with
  | some (.slice e) => (szT P e).bind fun sz => (zeroT P e).bind fun z =>
   if len * sz ≤ 16777216 ∧ z.cells.toList.all atomOk = true ∧ 0 < z.cells.size then
    some (.buildSlice sz len ((if len * sz = 0 then #[] else (Array.range (len * sz)).map (z.cells[· % z.cells.size]!)).toList) (parts.toList.map fun p => (p.1 * sz, sz, p.2))) else none
  | _ => none
 | .makeSlice t l c => match P.underlying t with
  | some (.slice e) => (P.info? e).bind fun i => i.zero.bind fun z => if z.cells.toList.all atomOk = true ∧ 0 < i.bytes ∧ 0 < z.cells.size then some (.makeSlice i.size i.bytes z.cells.toList l c) else none
  | _ => none
 | .convert src dst x => match P.underlying src, P.underlying dst with
  | some (.slice e), some .string => match P.underlying e with
   | some (.int .u8) => some (.b2s x)
   | _ => none
  | _, _ => none
 | .call { callee := .builtin .append, args, argTypes } => compAppend P args.toList argTypes.toList
 | .call { callee := .builtin .clear, args, argTypes } => compClear P args.toList argTypes.toList
 | _ => none
def HO.operands : HO → List Operand
 | .load _ _ x | .box x | .b2s x | .clear _ x => [x]
 | .store _ x v => [x, v]
 | .alloc _ => []
 | .buildSlice _ _ _ ps => ps.map (·.2.2)
 | .makeSlice _ _ _ l c => [l, c]
 | .append _ _ x y => [x, y]
section
variable {P : Program} {m : LMap} {ρ ρ' : Operand → Value} {w0 w : World} {S : St}
theorem cell_at {cb o : Nat} {c : Array Value} {e : TypeId} {fr : Nat × Nat} (h : w.heap[cb]? = some (.cells c e fr)) (j : Nat) : w.cell? ((⟨cb, o, none⟩ : Addr).add j) = c[o + j]? := by
 rw [addr_add, cell_of_row w cb (o + j) c e fr h]
/-- Cells of an abstract block, as the machine reads them. -/
theorem Rel.read (h : Rel w0 m S w) {id o k : Nat} {cs : List Value} (hc : cellsOf S id o k = some cs) {r : Loc} (hr : m id = some r) :
  cs.length = k ∧ (∀ x ∈ cs, x.oneCell' = true) ∧ ∃ us, LRel m cs us ∧ ∀ (j : Nat) v, us[j]? = some v → w.cell? ((⟨r.cb, r.dl + o, none⟩ : Addr).add j) = some v := by
 unfold cellsOf at hc
 cases hb : S.blk id with
 | none => simp [hb] at hc
 | some b =>
  simp only [hb] at hc
  split at hc
  case isFalse => cases hc
  rename_i hl
  cases hc
  obtain ⟨hone, c, e, fr, h1, h2, h3, _, _, h6⟩ := h.blk id b r hb hr
  refine ⟨by simp; omega, fun x hx => hone x (List.mem_of_mem_drop (List.mem_of_mem_take hx)), (c.toList.drop (r.dl + o)).take k, ⟨by simp; omega, fun i v u hv hu => ?_⟩, fun j v hv => ?_⟩
  ·rw [List.getElem?_take] at hv hu
   split at hv
   ·rename_i hi
    rw [if_pos hi] at hu
    rw [List.getElem?_drop] at hv hu
    obtain ⟨u', hu', hvu⟩ := h6 _ v hv
    rw [← Nat.add_assoc] at hu'
    have : u' = u := by
     have hu'' : c[r.dl + o + i]? = some u := by simpa using hu
     rw [hu''] at hu'; cases hu'; rfl
    exact this ▸ hvu
   ·cases hv
  ·rw [List.getElem?_take] at hv
   split at hv
   ·rw [List.getElem?_drop] at hv
    rw [cell_at h1 j]
    simpa using hv
   ·cases hv
theorem run_isAgg {t : TypeId} {b : Bool} (h : aggT P t = some b) (w : World) : (isAgg t).run P w = .ok b w := by
 unfold aggT at h
 cases hu : P.underlying t with
 | none => simp [hu] at h
 | some d =>
  unfold isAgg
  simp only [Sem.run_bind, run_underlying hu, Result.andThen_ok]
  cases d <;> simp [hu] at h <;> subst h <;> rfl
/-- What an operation on memory comes to. -/
def Does (P : Program) (w0 : World) (m : LMap) (S : St) (w : World) (ρ' : Operand → Value) (o : Oper) (v : Value) (S' : St) : Prop :=
 ∃ m' u w', m.le m' ∧ Rel w0 m' S' w' ∧ Frame S m w S' m' w' ∧ S.next ≤ S'.next ∧ VRel m' v u ∧
  ((execOp ρ' o).run P w = .ok (.value u) w' ∨ ((execOp ρ' o).run P w = .ok .skip w' ∧ u = undef))
variable {dst : Option Tmp} {type : TypeId} {pos : String} {after : Array Edge} {guard : Option (Nat × Bool)}
theorem ldv_rel (hR : Rel w0 m S w) {ty : TypeId} {sz : Nat} {ag : Bool} (hsz : szT P ty = some sz) (hag : aggT P ty = some ag) {id o : Nat} {v : Value} (hv : ldv S ag id o sz = some v)
  {r : Loc} (hr : m id = some r) : ∃ u, VRel m v u ∧ (loadVar ty ⟨r.cb, r.dl + o, none⟩).run P w = .ok u w := by
 cases ag with
 | true =>
  simp only [ldv] at hv
  obtain ⟨cs, hco, rfl⟩ := Option.map_eq_some_iff.1 hv
  obtain ⟨hlen, hone, us, hru, hcell⟩ := hR.read hco hr
  have hrr := ARel.of_list hru
  refine ⟨.agg us.toArray, .agg hrr.1 (fun z hz => hone z (by simpa using hz)) hrr.2, ?_⟩
  have hld := run_loadCells_list (P := P) w ⟨r.cb, r.dl + o, none⟩ us hcell
  rw [← hru.1, hlen] at hld
  simp [loadVar, run_isAgg hag, run_sizeOf hsz, hld]
 | false =>
  simp only [ldv, rd] at hv
  split at hv
  case h_2 => cases hv
  rename_i b hb
  obtain ⟨hone, c, e, fr, h1, h2, h3, _, _, h6⟩ := hR.blk id b r hb hr
  obtain ⟨u, huc, hvu⟩ := h6 o v hv
  have hcell : w.cell? ⟨r.cb, r.dl + o, none⟩ = some u := by rw [cell_of_row w r.cb (r.dl + o) c e fr h1]; exact huc
  exact ⟨u, hvu, by simp [loadVar, run_isAgg hag, hcell]⟩
theorem does_load {t : TypeId} {x : Operand} {ho : HO} (hc : compH P (.load t x) = some ho) (hR : Rel w0 m S w) (hs : Sees m ρ ρ' ho.operands) {v : Value} {S' : St} (hv : aheap ρ S ho = some (v, S')) :
  Does P w0 m S w ρ' ⟨dst, .load t x, type, pos, after, guard⟩ v S' := by
 change (szT P t).bind (fun sz => (aggT P t).bind fun ag => some (.load sz ag x)) = some ho at hc
 obtain ⟨sz, hsz, hc⟩ := Option.bind_eq_some_iff.1 hc
 obtain ⟨ag, hag, hc⟩ := Option.bind_eq_some_iff.1 hc
 cases hc
 simp only [aheap] at hv
 split at hv
 case h_2 => cases hv
 rename_i id o hx
 obtain ⟨y, hy, hv⟩ := Option.map_eq_some_iff.1 hv
 cases hv
 obtain ⟨r, hr, hu⟩ := (hs x (by simp [HO.operands])).of_ptr hx
 obtain ⟨u, hvu, hld⟩ := ldv_rel (P := P) hR hsz hag hy hr
 refine ⟨m, u, w, m.le_refl, hR, .refl _ _ _, Nat.le_refl _, hvu, .inl ?_⟩
 simp [execOp, hu, Instr.loadAt, Instr.sureAddr, hld]
theorem does_store {t : TypeId} {x y : Operand} {ho : HO} (hc : compH P (.store t x y) = some ho) (hR : Rel w0 m S w) (hs : Sees m ρ ρ' ho.operands) {v : Value} {S' : St} (hv : aheap ρ S ho = some (v, S')) :
  Does P w0 m S w ρ' ⟨dst, .store t x y, type, pos, after, guard⟩ v S' := by
 change (szT P t).map (fun sz => HO.store sz x y) = some ho at hc
 obtain ⟨sz, hsz, rfl⟩ := Option.map_eq_some_iff.1 hc
 simp only [aheap] at hv
 split at hv
 case h_2 => cases hv
 rename_i id o hx
 cases hb : S.blk id with
 | none => simp [hb] at hv
 | some b =>
  simp only [hb] at hv
  split at hv
  case isFalse => cases hv
  rename_i hcnd
  obtain ⟨hro, hsize, hlen, hst⟩ := hcnd
  cases hv
  obtain ⟨r, hr, hu⟩ := (hs x (by simp [HO.operands])).of_ptr hx
  have hy := hs y (by simp [HO.operands])
  obtain ⟨hone, c, e, fr, h1, h2, h3, h4, _, h6⟩ := hR.blk id b r hb hr
  obtain ⟨rfl, hB⟩ := h4 hro
  have hcl := hy.cells
  have hone1 := hy.cells_one hst
  have hone2 : ∀ z ∈ (ρ' y).cells.toList, z.oneCell' = true := by
   intro z hz
   obtain ⟨i, hi⟩ := List.getElem?_of_mem hz
   have hi' : i < (ρ y).cells.toList.length := by rw [hcl.1]; exact (List.getElem?_eq_some_iff.1 hi).1
   have := hcl.2 i _ z (List.getElem?_eq_getElem hi') hi
   rw [← this.oneCell]
   exact hone1 _ (List.getElem_mem hi')
  have hw := hR.write hb hro hr hcl hone1 (o := o) (by rw [hsize]; exact hlen) c e h1
  refine ⟨m, undef, _, m.le_refl, hw, .write w hb hro hr { b with cells := Go.Proofs.YtegaklgjcicnfaaGreat.Abs.ow b.cells o (ρ y).cells.toList } rfl _, Nat.le_refl _, .tuple rfl (fun i a b ha => by simp at ha), .inr ⟨?_, rfl⟩⟩
  have hul : (ρ' y).cells.toList.length = sz := by rw [← hcl.1]; exact hsize
  have hstore := run_storeCells_at P r.cb (r.dl + o) e (ρ' y).cells.toList 0 c w h1 (by rw [hul]; omega) hone2
  have hus : (ρ' y).cells.size = sz := by simpa using hul
  simp only [Nat.add_zero] at hstore
  simp [execOp, hu, Instr.storeAt, Instr.sureAddr, storeVar, run_sizeOf hsz, hus, hstore]
/-- A new row of cells. -/
theorem Rel.newRow (hR : Rel w0 m S w) {vs : List Value} {us : Array Value} (e : TypeId) (hone : ∀ v ∈ vs, v.oneCell' = true) (hrel : LRel m vs us.toList) :
  Rel w0 (m.ext S.next ⟨w.heap.size, 0, us.size⟩) (S.new ⟨false, vs⟩) (w.alloc (.cells us e)) := by
 have hl : vs.length = us.size := by simpa using hrel.1
 exact hR.new vs us e hone (by omega) (by rw [List.take_of_length_le (by simp [hl])]; exact hrel)
theorem vrel_new {id : Nat} {r : Loc} (hr : m id = some r) (h0 : r.dl = 0) : VRel m (.pointer (some ⟨id, 0, none⟩)) (.pointer (some ⟨r.cb, 0, none⟩)) := by
 have := VRel.ptr (off := 0) hr
 rwa [h0] at this
/-- What only makes a new block. -/
def isAlloc : HO → Bool
 | .box _ => true
 | .alloc _ => true
 | .buildSlice _ _ _ _ => true
 | .makeSlice _ _ _ _ _ => true
 | _ => false
/-- Such an operation, in whatever memory. -/
structure Makes (P : Program) (m : LMap) (ρ ρ' : Operand → Value) (ho : HO) (o : Oper) (S : St) (v : Value) (S' : St) : Prop where
 ex : ∃ (vs : List Value) (us : Array Value) (e : TypeId) (mk u : Nat → Value), S' = S.new ⟨false, vs⟩ ∧ v = mk S.next ∧ (∀ x ∈ vs, x.oneCell' = true) ∧ LRel m vs us.toList ∧
  (∀ T : St, aheap ρ T ho = some (mk T.next, T.new ⟨false, vs⟩)) ∧ (∀ w : World, (execOp ρ' o).run P w = .ok (.value (u w.heap.size)) (w.alloc (.cells us e))) ∧
  (∀ (m' : LMap) id cb, m' id = some ⟨cb, 0, us.size⟩ → VRel m' (mk id) (u cb)) ∧ (∀ id id', (mk id = mk id' → id = id'))
theorem atoms_rel {cs : List Value} (h : ∀ x ∈ cs, atomOk x = true) : LRel m cs cs ∧ ∀ x ∈ cs, x.oneCell' = true :=
 ⟨⟨rfl, fun i v u hv hu => by rw [hv] at hu; cases hu; exact (atomOk_rel m (h v (List.mem_of_getElem? hv))).1⟩, fun x hx => (atomOk_rel m (h x hx)).2⟩
theorem zeros_atoms {z : Array Value} (h : z.toList.all atomOk = true) (n : Nat) (hn : 0 < z.size) : ∀ x ∈ ((Array.range n).map (z[· % z.size]!)).toList, atomOk x = true := by
 intro x hx
 simp only [Array.toList_map, List.mem_map] at hx
 obtain ⟨i, hi, rfl⟩ := hx
 have hlt : i % z.size < z.size := Nat.mod_lt _ hn
 rw [getElem!_pos z (i % z.size) hlt]
 exact List.all_eq_true.1 h _ (by simp)
theorem vrel_newSlice {id n cap e : Nat} {r : Loc} (hr : m id = some r) (h0 : r.dl = 0) (hl : n ≤ cap) (hc : cap * e ≤ r.csz) (hm : e = 0 ∨ cap ≤ 9223372036854775807) : VRel m (.slice (some ⟨id, 0, none⟩) n e) (.slice (some ⟨r.cb, 0, none⟩) n cap) := by
 have := VRel.slice (off := 0) (e := e) hr hl (hm.elim .inl fun hm => .inr ⟨by omega, hm⟩)
 rwa [h0] at this
theorem makes_box {t : TypeId} {x : Operand} {ho : HO} (hc : compH P (.box t x) = some ho) (hs : Sees m ρ ρ' ho.operands) {v : Value} {S' : St} (hv : aheap ρ S ho = some (v, S')) :
  Makes P m ρ ρ' ho ⟨dst, .box t x, type, pos, after, guard⟩ S v S' := by
 cases hc
 simp only [aheap] at hv
 split at hv
 case isFalse => cases hv
 rename_i hst
 cases hv
 have hx := hs.head
 refine ⟨_, (ρ' x).cells, t, fun i => .pointer (some ⟨i, 0, none⟩), fun b => .pointer (some ⟨b, 0, none⟩), rfl, rfl, hx.cells_one hst, hx.cells, fun T => by simp only [aheap, if_pos hst], fun w => ?_, fun m' id cb hm => vrel_new (r := ⟨cb, 0, _⟩) hm rfl, fun i j h => by simpa using h⟩
 simp [execOp, Instr.box, newVar, newRow]
theorem makes_alloc {t : TypeId} {ho : HO} (hc : compH P (.alloc t) = some ho) {v : Value} {S' : St} (hv : aheap ρ S ho = some (v, S')) :
  Makes P m ρ ρ' ho ⟨dst, .alloc t, type, pos, after, guard⟩ S v S' := by
 change (zeroT P t).bind (fun z => if constOk z = true then some (HO.alloc z.cells.toList) else none) = some ho at hc
 obtain ⟨z, hz, hc⟩ := Option.bind_eq_some_iff.1 hc
 split at hc
 case isFalse => cases hc
 rename_i hzo
 cases hc
 cases hv
 obtain ⟨h1, h2⟩ := atoms_rel (m := m) (constOk_cells hzo)
 refine ⟨_, z.cells, t, fun i => .pointer (some ⟨i, 0, none⟩), fun b => .pointer (some ⟨b, 0, none⟩), rfl, rfl, h2, h1, fun T => rfl, fun w => ?_, fun m' id cb hm => vrel_new (r := ⟨cb, 0, _⟩) hm rfl, fun i j h => by simpa using h⟩
 simp [execOp, Instr.alloc, run_zeroValue (P := P) (t := t) hz, newVar, newRow]
theorem makes_buildSlice {t : TypeId} {len : Nat} {parts : Array (Nat × Operand)} {ho : HO} (hc : compH P (.buildSlice t len parts) = some ho) (hs : Sees m ρ ρ' ho.operands) {v : Value} {S' : St} (hv : aheap ρ S ho = some (v, S')) :
  Makes P m ρ ρ' ho ⟨dst, .buildSlice t len parts, type, pos, after, guard⟩ S v S' := by
 simp only [compH] at hc
 split at hc
 case h_2 => cases hc
 rename_i e hut
 obtain ⟨sz, hsz, hc⟩ := Option.bind_eq_some_iff.1 hc
 obtain ⟨z, hz, hc⟩ := Option.bind_eq_some_iff.1 hc
 split at hc
 case isFalse => cases hc
 rename_i hcnd
 obtain ⟨h24, hall, hzs⟩ := hcnd
 cases hc
 simp only [aheap] at hv
 obtain ⟨vs, hvs, hv⟩ := Option.map_eq_some_iff.1 hv
 cases hv
 have hzl : ∀ x ∈ (if len * sz = 0 then #[] else (Array.range (len * sz)).map (z.cells[· % z.cells.size]!)).toList, atomOk x = true := by
  intro x hx
  split at hx
  ·simp at hx
  ·exact zeros_atoms hall _ hzs x hx
 obtain ⟨us, hus, hru, hou⟩ := fillL_map_rel hzl (by simpa [HO.operands] using hs) hvs
 have hzlen : (if len * sz = 0 then #[] else (Array.range (len * sz)).map (z.cells[· % z.cells.size]!)).toList.length = len * sz := by split <;> simp [*]
 have hfl : ∀ (ps : List (Nat × Nat × Value)) (cs : List Value) {vs}, fillL cs ps = some vs → vs.length = cs.length := by
  intro ps
  induction ps with
  | nil => intro cs vs h; simp [fillL] at h; rw [h]
  | cons p ps ih =>
   intro cs vs h
   obtain ⟨o, s, v⟩ := p
   simp only [fillL] at h
   split at h
   ·rw [ih _ h, ow_length]
   ·cases h
 have husl : us.length = len * sz := by rw [hfl _ _ hus, hzlen]
 refine ⟨vs, us.toArray, e, fun i => .slice (some ⟨i, 0, none⟩) len sz, fun b => .slice (some ⟨b, 0, none⟩) len len, rfl, rfl, hou, by simpa using hru, fun T => by simp only [aheap, hvs, Option.map_some], fun w => ?_, fun m' id cb hm => vrel_newSlice (r := ⟨cb, 0, us.toArray.size⟩) hm rfl (Nat.le_refl _) (by simp [husl]) (by
  rcases Nat.eq_zero_or_pos sz with h0 | h0
  ·exact .inl h0
  ·have := Nat.le_mul_of_pos_right len h0; exact .inr (by omega)), fun i j h => by simpa using h⟩
 have hfill := fillOf (fun i => some (i * sz, sz)) (parts.map fun (i, x) => (i, ρ' x)).toList ((parts.toList.map fun p => (p.1 * sz, sz, p.2)).map fun p => (p.1, p.2.1, ρ' p.2.2)) _ (by simp)
    (fun i p q hp hq => by
     simp only [Array.toList_map, List.getElem?_map] at hp hq
     obtain ⟨p0, hp0, rfl⟩ := Option.map_eq_some_iff.1 hp
     obtain ⟨q0, hq0, rfl⟩ := Option.map_eq_some_iff.1 hq
     obtain ⟨q1, hq1, rfl⟩ := Option.map_eq_some_iff.1 hq0
     rw [hp0] at hq1; cases hq1
     simp) hus
 simp only [Array.toArray_toList] at hfill
 have h24' : ¬ (len * sz > 2 ^ 24) := by omega
 show ((do pure (.value (← Instr.buildSlice t len (parts.map fun (i, x) => (i, ρ' x))))) : Sem Next).run P w = _
 simp only [Instr.buildSlice, Sem.run_bind, run_underlying hut, Result.andThen_ok, run_sizeOf hsz, h24', if_false]
 by_cases h0 : len * sz = 0
 ·simp only [h0, if_true, Array.range_zero', Array.map_empty] at hfill ⊢
  simp only [hfill, Sem.run_bind, newRow, run_newObj, Result.andThen_ok, Sem.run_pure]
  rfl
 ·simp only [h0, if_false] at hfill ⊢
  simp only [Sem.run_bind, run_zeroValue (P := P) (t := e) hz w, Result.andThen_ok, Sem.run_pure, hfill, newRow, run_newObj]
  rfl
theorem makes_makeSlice {t : TypeId} {l c : Operand} {ho : HO} (hc : compH P (.makeSlice t l c) = some ho) (hs : Sees m ρ ρ' ho.operands) {v : Value} {S' : St} (hv : aheap ρ S ho = some (v, S')) :
  Makes P m ρ ρ' ho ⟨dst, .makeSlice t l c, type, pos, after, guard⟩ S v S' := by
 simp only [compH] at hc
 split at hc
 case h_2 => cases hc
 rename_i e hut
 obtain ⟨i, hi, hc⟩ := Option.bind_eq_some_iff.1 hc
 obtain ⟨z, hz, hc⟩ := Option.bind_eq_some_iff.1 hc
 split at hc
 case isFalse => cases hc
 rename_i hcnd
 obtain ⟨hall, hb0, hzs⟩ := hcnd
 cases hc
 simp only [aheap] at hv
 split at hv
 case h_2 => cases hv
 rename_i kl l' kc c' hl hcc
 split at hv
 case isFalse => cases hv
 rename_i hcnd
 obtain ⟨hl0, hlc, hcb⟩ := hcnd
 cases hv
 simp only [Array.toArray_toList]
 have hat := zeros_atoms hall (c'.toNat * i.size) hzs
 obtain ⟨h1, h2⟩ := atoms_rel (m := m) hat
 have hc63 : c' ≤ 1099511627776 := by
  have : c' * 1 ≤ c' * (i.bytes : Int) := Int.mul_le_mul_of_nonneg_left (by omega) (by omega)
  omega
 have hb : (i.bytes : Int) * c' ≤ 281474976710656 := by rw [Int.mul_comm]; omega
 have e1 := (hs l (by simp [HO.operands])).of_int hl
 have e2 := (hs c (by simp [HO.operands])).of_int hcc
 refine ⟨_, madeCells z.cells (c'.toNat * i.size), e, fun b => .slice (some ⟨b, 0, none⟩) l'.toNat i.size, fun b => .slice (some ⟨b, 0, none⟩) l'.toNat c'.toNat, rfl, rfl, h2, h1, fun T => by simp only [aheap, hl, hcc, if_pos (And.intro hl0 (And.intro hlc hcb)), Array.toArray_toList], fun w => ?_, fun m' id cb hm => vrel_newSlice (r := ⟨cb, 0, _⟩) hm rfl (by omega) (by simp [size_madeCells]) (.inr (by omega)), fun i j h => by simpa using h⟩
 have hr := run_make (P := P) w t e i z hut hi hz kl kc l' c' hl0 hlc hb (by omega)
 simp [execOp, e1, e2, hr]
theorem makes_of (o : Oper) {ho : HO} (hc : compH P o.op = some ho) (ha : isAlloc ho = true) (hs : Sees m ρ ρ' ho.operands) {v : Value} {S' : St} (hv : aheap ρ S ho = some (v, S')) : Makes P m ρ ρ' ho o S v S' := by
 obtain ⟨dst, op, type, pos, after, guard⟩ := o
 simp only at hc
 cases op
 case box => exact makes_box hc hs hv
 case alloc => exact makes_alloc hc hv
 case buildSlice => exact makes_buildSlice hc hs hv
 case makeSlice => exact makes_makeSlice hc hs hv
 case load t x =>
  simp only [compH] at hc
  obtain ⟨_, _, hc⟩ := Option.bind_eq_some_iff.1 hc
  obtain ⟨_, _, hc⟩ := Option.bind_eq_some_iff.1 hc
  cases hc
  cases ha
 case store t x y =>
  simp only [compH] at hc
  obtain ⟨_, _, rfl⟩ := Option.map_eq_some_iff.1 hc
  cases ha
 case convert a b x =>
  simp only [compH] at hc
  split at hc
  ·split at hc
   ·cases hc; cases ha
   ·cases hc
  ·cases hc
 case call c =>
  obtain ⟨callee, args, ats⟩ := c
  simp only [compH] at hc
  split at hc <;> try (simp only [reduceCtorEq] at *; done)
  all_goals first
   | (unfold compAppend at hc
      split at hc
      ·split at hc
       ·split at hc
        ·obtain ⟨_, _, hc⟩ := Option.bind_eq_some_iff.1 hc
         split at hc
         ·cases hc
         ·obtain ⟨_, _, hc⟩ := Option.bind_eq_some_iff.1 hc
          split at hc
          ·cases hc; cases ha
          ·cases hc
        ·cases hc
       ·cases hc
      ·cases hc)
   | (unfold compClear at hc
      split at hc
      ·split at hc
       ·obtain ⟨_, _, hc⟩ := Option.bind_eq_some_iff.1 hc
        split at hc
        ·cases hc; cases ha
        ·cases hc
       ·cases hc
      ·cases hc)
 all_goals (cases hc)
theorem does_new (o : Oper) {ho : HO} (hc : compH P o.op = some ho) (ha : isAlloc ho = true) (hR : Rel w0 m S w) (hs : Sees m ρ ρ' ho.operands) {v : Value} {S' : St} (hv : aheap ρ S ho = some (v, S')) : Does P w0 m S w ρ' o v S' := by
 obtain ⟨vs, us, e, mk, u, rfl, rfl, hone, hlr, _, hrun, hvr, _⟩ := (makes_of o hc ha hs hv).ex
 exact ⟨_, u w.heap.size, _, LMap.le_ext hR.fresh _, hR.newRow e hone hlr, .new _ _ _ _ _ _ _, by simp [St.new], hvr _ _ _ (by simp [LMap.ext]), .inl (hrun w)⟩
theorem does_clear {c : Call} {ho : HO} (hcb : c.callee = .builtin .clear) (hc : compClear P c.args.toList c.argTypes.toList = some ho) (hR : Rel w0 m S w) (hs : Sees m ρ ρ' ho.operands) {v : Value} {S' : St} (hv : aheap ρ S ho = some (v, S')) :
  Does P w0 m S w ρ' ⟨dst, .call c, type, pos, after, guard⟩ v S' := by
 obtain ⟨callee, args, ats⟩ := c
 simp only at hcb hc
 subst hcb
 unfold compClear at hc
 split at hc
 case h_2 => cases hc
 rename_i x t hx ht
 obtain rfl : args = #[x] := by cases args; simp_all
 obtain rfl : ats = #[t] := by cases ats; simp_all
 split at hc
 case h_2 => cases hc
 rename_i e hut
 obtain ⟨z, hz, hc⟩ := Option.bind_eq_some_iff.1 hc
 split at hc
 case isFalse => cases hc
 rename_i hall
 cases hc
 have hsx := hs.head
 have hexec : ∀ w', (Builtin.clear_ #[t] type #[ρ' x]).run P w = .ok (.tuple #[]) w' → (execOp ρ' ⟨dst, .call ⟨.builtin .clear, #[x], #[t]⟩, type, pos, after, guard⟩).run P w = .ok (.value (.tuple #[])) w' := by
  intro w' h
  simp [execOp, resolve, invoke, builtin, h]
 have hun : ∀ m, VRel m undef (.tuple #[]) := fun m => .tuple rfl fun i a b ha => by simp at ha
 simp only [aheap, clearV] at hv
 split at hv
 ·rename_i hx0
  cases hv
  obtain ⟨_, _, hu⟩ := hsx.of_snil hx0
  refine ⟨m, .tuple #[], w, m.le_refl, hR, .refl _ _ _, Nat.le_refl _, hun m, .inl (hexec _ ?_)⟩
  simp [Builtin.clear_, run_underlying hut, hu]
 ·rename_i id o n ec hx0
  obtain ⟨r, hr, hc⟩ := hsx.of_slice hx0
  split at hv
  ·rename_i hn0
   subst hn0
   cases hv
   refine ⟨m, .tuple #[], w, m.le_refl, hR, .refl _ _ _, Nat.le_refl _, hun m, .inl (hexec _ ?_)⟩
   rcases hc with ⟨cap, hu, _⟩ | ⟨_, a, hu⟩ <;> simp [Builtin.clear_, run_underlying hut, hu]
  rename_i hn0
  cases hb : S.blk id with
  | none => simp [hb] at hv
  | some b =>
   simp only [hb] at hv
   split at hv
   case isFalse => cases hv
   rename_i hcnd
   obtain ⟨hro, hlen⟩ := hcnd
   cases hv
   rcases hc with ⟨cap, hu, _⟩ | ⟨h0, _⟩
   case inr => exact absurd h0 hn0
   obtain ⟨hone, c, e', fr, h1, h2, h3, h4, _, h6⟩ := hR.blk id b r hb hr
   obtain ⟨rfl, hB⟩ := h4 hro
   simp only [Array.toArray_toList] at *
   have hzl : (Builtin.zeroCells z.cells n).toList.length = n * z.cells.toList.length := by simp [size_zeroCells]
   have hat : ∀ y ∈ (Builtin.zeroCells z.cells n).toList, atomOk y = true := by
    intro y hy
    rcases Nat.eq_zero_or_pos z.cells.size with h0 | h0
    ·simp [Builtin.zeroCells, h0] at hy
    ·exact zeros_atoms hall _ h0 y hy
   obtain ⟨k1, k2⟩ := atoms_rel (m := m) hat
   have hw := hR.write hb hro hr k1 k2 (o := o) (by rw [hzl]; exact hlen) c e' h1
   refine ⟨m, .tuple #[], _, m.le_refl, hw, .write w hb hro hr { b with cells := Go.Proofs.YtegaklgjcicnfaaGreat.Abs.ow b.cells o (Builtin.zeroCells z.cells n).toList } rfl _, Nat.le_refl _, hun m, .inl (hexec _ ?_)⟩
   have hst := run_storeCells_at P r.cb (r.dl + o) e' (Builtin.zeroCells z.cells n).toList 0 c w h1 (by rw [hzl]; omega) k2
   simp only [Nat.add_zero] at hst
   cases n with
   | zero => exact absurd rfl hn0
   | succ n => simp [Builtin.clear_, run_underlying hut, hu, run_zeroValue (P := P) (t := e) hz, hst]
 ·cases hv
/-- The end of an in-place append: the elder name is forgotten, the block bears a new one. -/
theorem Rel.regrow (h : Rel w0 m S w) {id o : Nat} {b : Blk} {r : Loc} (hb : S.blk id = some b) (hro : b.ro = false) (hm : m id = some r) {old new us : List Value} (hold : cellsOf S id o old.length = some old)
  (hnew : LRel m new us) (hone : ∀ v ∈ new, v.oneCell' = true) (c : Array Value) (e : TypeId) (hc : w.heap[r.cb]? = some (.cells c e (0, 0))) (hsz : c.size = r.csz) (hfit : r.dl + o + old.length + us.length ≤ c.size) :
  Rel w0 (m.ext S.next ⟨r.cb, r.dl + o, r.csz⟩) ((S.kill id).new ⟨false, old ++ new⟩) (w.setRow r.cb (c.toList.take (r.dl + o + old.length) ++ us ++ c.toList.drop (r.dl + o + old.length + us.length)).toArray) := by
 have hfr := h.fresh
 have hle := LMap.le_ext hfr ⟨r.cb, r.dl + o, r.csz⟩
 obtain ⟨hone', c', e', fr', h1, h2, h3, h4, h5, h6⟩ := h.blk id b r hb hm
 rw [hc] at h1
 cases h1
 obtain ⟨_, hB⟩ := h4 hro
 have hother : ∀ k, k ≠ r.cb → (w.setRow r.cb (c.toList.take (r.dl + o + old.length) ++ us ++ c.toList.drop (r.dl + o + old.length + us.length)).toArray).heap[k]? = w.heap[k]? := fun k hk => setRow_other w r.cb k _ hk
 have hold' : o + old.length ≤ b.cells.length ∧ old = (b.cells.drop o).take old.length := by
  unfold cellsOf at hold
  rw [hb] at hold
  simp only at hold
  split at hold
  ·rename_i hl
   exact ⟨hl, (Option.some.inj hold).symm⟩
  ·cases hold
 obtain ⟨hol, holde⟩ := hold'
 have hlive : ∀ i d, S.blk i = some d → i ≠ id → ∀ s, m i = some s → s.cb ≠ r.cb := by
  intro i d hd hi s hs hcb
  obtain ⟨_, _, _, _, _, _, _, g4, g5, _⟩ := h.blk i d s hd hs
  cases hdro : d.ro with
  | true => have := g5 hdro; omega
  | false => exact hi (h.inj i id d b s r hd hb hdro hro hs hm hcb)
 have cases_ : ∀ i d, ((S.kill id).new ⟨false, old ++ new⟩).blk i = some d → (i = S.next ∧ d = ⟨false, old ++ new⟩) ∨ (i ≠ S.next ∧ i ≠ id ∧ S.blk i = some d) := by
  intro i d hd
  by_cases hi : i = S.next
  ·subst hi; simp [St.new, St.kill] at hd; exact .inl ⟨rfl, hd.symm⟩
  ·by_cases hii : i = id
   ·simp [St.new, St.kill, hii] at hd; subst hii; simp [hi] at hd
   ·simp [St.new, St.kill, hi, hii] at hd; exact .inr ⟨hi, hii, hd⟩
 refine ⟨h.below.trans ⟨rfl, rfl, rfl, by simp [World.setRow], fun k hk => hother k (by omega)⟩, fun i s hs => ?_, fun i d hd => ?_, fun i d s hd hs => ?_, fun i j d d' s s' hd hd' p p' hs hs' hcb => ?_⟩
 ·show i < S.next + 1
  unfold LMap.ext at hs
  by_cases hi : i = S.next
  ·omega
  ·rw [if_neg hi] at hs; have := h.dom i s hs; omega
 ·show i < S.next + 1
  rcases cases_ i d hd with ⟨rfl, rfl⟩ | ⟨hi, hii, hd⟩
  ·omega
  ·have := h.live i d hd; omega
 ·rcases cases_ i d hd with ⟨rfl, rfl⟩ | ⟨hi, hii, hd⟩
  ·simp [LMap.ext] at hs
   subst hs
   refine ⟨fun v hv => ?_, _, e, (0, 0), setRow_heap w r.cb c _ e (0, 0) hc, ?_, ?_, fun _ => ⟨rfl, hB⟩, fun hx => (by simp at hx), fun i v hv => ?_⟩
   ·simp at hv
    rcases hv with hv | hv
    ·rw [holde] at hv; exact hone' v (List.mem_of_mem_drop (List.mem_of_mem_take hv))
    ·exact hone v hv
   ·simp only [List.size_toArray, List.length_append, List.length_take, List.length_drop, Array.length_toList]; omega
   ·have := hnew.1; simp; omega
   ·simp only [List.getElem?_toArray]
    simp only [List.getElem?_append] at hv
    rw [List.append_assoc, List.getElem?_append]
    have hlt : (c.toList.take (r.dl + o + old.length)).length = r.dl + o + old.length := by simp; omega
    split at hv
    ·rename_i hi
     rw [if_pos (by omega), List.getElem?_take, if_pos (by omega)]
     rw [holde, List.getElem?_take, if_pos hi, List.getElem?_drop] at hv
     obtain ⟨u, hu, hvu⟩ := h6 _ v hv
     exact ⟨u, by rw [← hu]; simp [Nat.add_assoc], hvu.mono hle⟩
    ·rename_i hi
     rw [if_neg (by omega), hlt, List.getElem?_append]
     obtain ⟨u, hu, hvu⟩ := hnew.get hv
     have hul : i - old.length < us.length := (List.getElem?_eq_some_iff.1 hu).1
     rw [if_pos (by omega)]
     exact ⟨u, by rw [← hu]; congr 1; omega, hvu.mono hle⟩
  ·simp [LMap.ext, hi] at hs
   exact ((h.blk i d s hd hs).mono hle).world (hother _ (hlive i d hd hii s hs))
 ·rcases cases_ i d hd with ⟨rfl, rfl⟩ | ⟨hi, hii, hd⟩
  ·rcases cases_ j d' hd' with ⟨rfl, rfl⟩ | ⟨hj, hji, hd'⟩
   ·rfl
   ·simp [LMap.ext] at hs
    simp [LMap.ext, hj] at hs'
    subst hs
    exact absurd hcb.symm (hlive j d' hd' hji s' hs')
  ·rcases cases_ j d' hd' with ⟨rfl, rfl⟩ | ⟨hj, hji, hd'⟩
   ·simp [LMap.ext] at hs'
    simp [LMap.ext, hi] at hs
    subst hs'
    exact absurd hcb (hlive i d hd hii s hs)
   ·simp [LMap.ext, hi] at hs
    simp [LMap.ext, hj] at hs'
    exact h.inj i j d d' s s' hd hd' p p' hs hs' hcb
end
section
variable {P : Program} {m : LMap} {ρ ρ' : Operand → Value} {w0 w : World} {S : St}
variable {dst : Option Tmp} {type : TypeId} {pos : String} {after : Array Edge} {guard : Option (Nat × Bool)}
theorem numsOf_map : ∀ {cs : List Value} {ns : List Int}, numsOf cs = some ns → cs = ns.map (Value.int .u8) := by
 intro cs
 induction cs with
 | nil => intro ns h; simp [numsOf] at h; subst h; rfl
 | cons c cs ih =>
  intro ns h
  unfold numsOf at h
  split at h
  ·rename_i he; cases he
  ·rename_i n r he
   cases he
   obtain ⟨ms, hms, rfl⟩ := Option.map_eq_some_iff.1 h
   simp [← ih hms]
  ·cases h
theorem does_b2s {src d : TypeId} {x : Operand} {ho : HO} (hc : compH P (.convert src d x) = some ho) (hR : Rel w0 m S w) (hs : Sees m ρ ρ' ho.operands) {v : Value} {S' : St} (hv : aheap ρ S ho = some (v, S')) :
  Does P w0 m S w ρ' ⟨dst, .convert src d x, type, pos, after, guard⟩ v S' := by
 simp only [compH] at hc
 split at hc
 case h_2 => cases hc
 rename_i e h1 h2
 split at hc
 case h_2 => cases hc
 rename_i h3
 cases hc
 simp only [aheap, b2sV] at hv
 split at hv
 ·rename_i hx
  cases hv
  obtain ⟨_, _, hu⟩ := hs.head.of_snil hx
  refine ⟨m, .string .empty, w, m.le_refl, hR, .refl _ _ _, Nat.le_refl _, .string _, .inl ?_⟩
  have := run_convert_bytes_nil (P := P) w src e h1 h3 0 0 d h2
  simp [execOp, hu, this]
 ·rename_i id o n _ hx
  cases hco : cellsOf S id o n with
  | none => simp [hco] at hv
  | some cs =>
   simp only [hco] at hv
   obtain ⟨ns, hns, hv⟩ := Option.map_eq_some_iff.1 hv
   cases hv
   have hcs := numsOf_map hns
   obtain ⟨r, hr, ⟨cap, hu, _, _⟩ | ⟨h0, a, hu⟩⟩ := hs.head.of_slice hx
   ·obtain ⟨hlen, hone, us, hru, hcell⟩ := hR.read hco hr
    have hus : us = ns.map (Value.int .u8) := by
     subst hcs
     apply List.ext_getElem?
     intro i
     cases hn : (ns.map (Value.int .u8))[i]? with
     | none =>
      have : ns.length ≤ i := by simpa using hn
      rw [List.getElem?_eq_none]
      rw [← hru.1]; simpa using this
     | some y =>
      obtain ⟨u, hu, hvu⟩ := hru.get hn
      simp at hn
      obtain ⟨k, hk, rfl⟩ := hn
      rw [hu, hvu.of_int rfl]
    refine ⟨m, .string (strOfNums ns), w, m.le_refl, hR, .refl _ _ _, Nat.le_refl _, .string _, .inl ?_⟩
    have hnl : ns.length = n := by rw [hcs] at hlen; simpa using hlen
    have := run_convert_bytes_arg (P := P) w src e h1 h3 r.cb (r.dl + o) n cap ns hnl (fun i hi => by
     have hi' : i < ns.length := by omega
     have := hcell i (.int .u8 ns[i]) (by rw [hus]; simp [hi'])
     rw [addr_add] at this
     rw [this]
     simp [List.getD, hi']) d h2
    simp [execOp, hu, this]
   ·subst h0
    have : cs = [] := by unfold cellsOf at hco; split at hco; (split at hco; (cases hco; simp); cases hco); cases hco
    subst this
    simp [numsOf] at hns
    subst hns
    refine ⟨m, .string .empty, w, m.le_refl, hR, .refl _ _ _, Nat.le_refl _, .string _, .inl ?_⟩
    have : (convert src d (.slice (some a) 0 0)).run P w = .ok (.string .empty) w := by
     rw [run_convert_bytes_string w src d e _ _ _ h1 h3 h2]
     simp [Conv.bytesToString, loadCells, loadCellsFrom]
    simp [execOp, hu, this]
 ·cases hv
theorem run_append_none (t ty e : TypeId) (i : TypeInfo) (ht : P.underlying t = some (.slice e)) (hi : P.info? e = some i) (base b : Option Addr) (len cap c : Nat) (hl : len ≤ cap) :
  (Builtin.append_ #[t, t] ty #[.slice base len cap, .slice b 0 c]).run P w = .ok (.slice base len cap) w := by
 cases b with
 | none => cases base <;> simp [Builtin.append_, run_underlying ht, sizeOf, typeInfo, hi, Builtin.lenOf, hl, Builtin.firstCells, storeCells]
 | some b => cases base <;> simp [Builtin.append_, run_underlying ht, sizeOf, typeInfo, hi, Builtin.lenOf, hl, Builtin.firstCells, storeCells, loadCells, loadCellsFrom]
/-- An append where there is room. -/
theorem run_append_place (t ty e : TypeId) (i : TypeInfo) (ht : P.underlying t = some (.slice e)) (hi : P.info? e = some i) (cb o sLen sCap : Nat) (cur : Array Value) (e' : TypeId) (hg : w.heap[cb]? = some (.cells cur e' (0, 0)))
  (a : Addr) (n c : Nat) (news : List Value) (hl : news.length = n * i.size) (hnews : ∀ (j : Nat) u, news[j]? = some u → w.cell? (a.add j) = some u) (h1 : ∀ u ∈ news, u.oneCell' = true)
  (hroom : sLen + n ≤ sCap) (hfit : o + sLen * i.size + news.length ≤ cur.size) :
  (Builtin.append_ #[t, t] ty #[.slice (some ⟨cb, o, none⟩) sLen sCap, .slice (some a) n c]).run P w =
   .ok (.slice (some ⟨cb, o, none⟩) (sLen + n) sCap) (w.setRow cb (cur.toList.take (o + sLen * i.size) ++ news ++ cur.toList.drop (o + sLen * i.size + news.length)).toArray) := by
 have hf := run_firstCells_some (P := P) w i.size n a n c news hl hnews
 have hst := run_storeCells_at P cb (o + sLen * i.size) e' news 0 cur w hg (by omega) h1
 simp only [Nat.add_zero] at hst
 simp [Builtin.append_, run_underlying ht, sizeOf, typeInfo, hi, Builtin.lenOf, hroom, hf, addr_add, hst]
theorem VRel.slice_end {v u : Value} {a : Option Addr} {l e : Nat} (h : VRel m v u) (hv : v = .slice a l e) : ∃ b cap, u = .slice b l cap ∧ l ≤ cap := by
 subst hv
 cases h with
 | snil => exact ⟨none, 0, rfl, Nat.le_refl _⟩
 | slice h hl hc => exact ⟨_, _, rfl, hl⟩
 | sempty h e a => exact ⟨some a, 0, rfl, Nat.le_refl _⟩
theorem size_grown {us : List Value} {z : Array Value} {n k cap : Nat} (hz : z.size = k) (hu : us.length = n * k) (hc : n ≤ cap) : (us.toArray ++ Builtin.zeroCells z (cap - n)).size = cap * k := by
 simp only [Array.size_append, List.size_toArray, size_zeroCells, hz, hu, ← Nat.add_mul]
 congr 1
 omega
/-- One append of cells that are read before. -/
theorem does_append {c : Call} {ho : HO} (hcb : c.callee = .builtin .append) (hc : compAppend P c.args.toList c.argTypes.toList = some ho) (hR : Rel w0 m S w) (hs : Sees m ρ ρ' ho.operands) {v : Value} {S' : St} (hv : aheap ρ S ho = some (v, S')) :
  Does P w0 m S w ρ' ⟨dst, .call c, type, pos, after, guard⟩ v S' := by
 obtain ⟨callee, args, ats⟩ := c
 simp only at hcb hc
 subst hcb
 unfold compAppend at hc
 split at hc
 case h_2 => cases hc
 rename_i x y t t' hx ht
 obtain rfl : args = #[x, y] := by cases args; simp_all
 obtain rfl : ats = #[t, t'] := by cases ats; simp_all
 split at hc
 case isFalse => cases hc
 rename_i htt
 subst htt
 split at hc
 case h_2 => cases hc
 rename_i e hut
 obtain ⟨i, hi, hc⟩ := Option.bind_eq_some_iff.1 hc
 split at hc
 ·cases hc
 rename_i hsz0
 obtain ⟨z, hz, hc⟩ := Option.bind_eq_some_iff.1 hc
 split at hc
 case isFalse => cases hc
 rename_i hzs
 obtain ⟨hzs, hby⟩ := hzs
 cases hc
 have hsx := hs x (by simp [HO.operands])
 have hsy := hs y (by simp [HO.operands])
 have hexec : ∀ (u : Value) w', (Builtin.append_ #[t', t'] type #[ρ' x, ρ' y]).run P w = .ok u w' → (execOp ρ' ⟨dst, .call ⟨.builtin .append, #[x, y], #[t', t']⟩, type, pos, after, guard⟩).run P w = .ok (.value u) w' := by
  intro u w' h
  simp [execOp, resolve, invoke, builtin, h]
 simp only [aheap, doAppend] at hv
 split at hv
 ·
  rename_i a len e0 hx0 hy0
  cases hv
  obtain ⟨b, cap, hu, hle⟩ := hsx.slice_end hx0
  obtain ⟨_, _, hu'⟩ := hsy.of_snil hy0
  rw [hx0] at hsx
  refine ⟨m, ρ' x, w, m.le_refl, hR, .refl _ _ _, Nat.le_refl _, hsx, .inl (hexec _ _ ?_)⟩
  rw [hu, hu']
  exact run_append_none t' type e i hut hi b none len cap 0 hle
 ·rename_i a len e0 id' o' n e1 hx0 hy0
  split at hv
  ·rename_i hn0
   subst hn0
   cases hv
   obtain ⟨b, cap, hu, hle⟩ := hsx.slice_end hx0
   obtain ⟨b', cap', hu', _⟩ := hsy.slice_end hy0
   rw [hx0] at hsx
   refine ⟨m, ρ' x, w, m.le_refl, hR, .refl _ _ _, Nat.le_refl _, hsx, .inl (hexec _ _ ?_)⟩
   rw [hu, hu']
   exact run_append_none t' type e i hut hi b b' len cap cap' hle
  rename_i hn0
  split at hv
  case isFalse => cases hv
  rename_i hbound
  cases hnew : cellsOf S id' o' (n * i.size) with
  | none => simp [hnew] at hv
  | some new =>
   simp only [hnew] at hv
   obtain ⟨r', hr', ⟨cap', hu', _, _⟩ | ⟨hz0, _⟩⟩ := hsy.of_slice hy0
   case inr => exact absurd hz0 hn0
   obtain ⟨hnl, hno, us, hnu, hnc⟩ := hR.read hnew hr'
   have husl : us.length = n * i.size := by rw [← hnu.1]; exact hnl
   have hno' : ∀ u ∈ us, u.oneCell' = true := by
    intro u hu
    obtain ⟨j, hj⟩ := List.getElem?_of_mem hu
    have hj' : j < new.length := by rw [hnu.1]; exact (List.getElem?_eq_some_iff.1 hj).1
    rw [← (hnu.2 j _ u (List.getElem?_eq_getElem hj') hj).oneCell]
    exact hno _ (List.getElem_mem hj')
   have h63 : len + n ≤ 1099511627776 := by
    have : (len + n) * 1 ≤ (len + n) * i.bytes := Nat.mul_le_mul_left _ hby
    omega
   split at hv
   ·
    rename_i hx1
    split at hv
    case isFalse => cases hv
    rename_i hz
    obtain ⟨rfl, rfl⟩ := hz
    cases hv
    obtain ⟨_, _, hu⟩ := hsx.of_snil hx0
    have hr := run_append_nil (P := P) w t' type e i z hut hi hz ⟨r'.cb, r'.dl + o', none⟩ n cap' us husl hnc (by omega) (by omega) (by simp at hbound; omega)
    have hge := grownCap_ge w n 0 e
    have hsize := size_grown (z := z.cells) (cap := grownCap w n 0 e) hzs husl hge
    have hn := hR.drew.new new (us.toArray ++ Builtin.zeroCells z.cells (grownCap w n 0 e - n)) e hno (by rw [hsize, hnl]; exact Nat.mul_le_mul_right _ hge) (by
     have : (us.toArray ++ Builtin.zeroCells z.cells (grownCap w n 0 e - n)).toList.take new.length = us := by rw [hnu.1]; simp
     rw [this]; exact hnu)
    refine ⟨_, .slice (some ⟨w.heap.size, 0, none⟩) n (grownCap w n 0 e), _, LMap.le_ext hR.fresh _, hn, Frame.drew.trans (.new _ _ w.drew _ _ _ _), by simp [St.new], vrel_newSlice (r := ⟨w.heap.size, 0, (us.toArray ++ Builtin.zeroCells z.cells (grownCap w n 0 e - n)).size⟩) (by simp only [LMap.ext, if_true]; rfl) rfl hge (Nat.le_of_eq hsize.symm) (.inr (grownCap_le_maxLen _ _ _ _ (by unfold maxLen; omega))), .inl (hexec _ _ ?_)⟩
    rw [hu, hu']
    exact hr
   ·rename_i _ id o
    cases hb : S.blk id with
    | none => simp [hb] at hv
    | some b =>
     cases hold : cellsOf S id o (len * i.size) with
     | none => simp [hb, hold] at hv
     | some old =>
      simp only [hb, hold] at hv
      split at hv
      case isFalse => cases hv
      rename_i hcnd
      obtain ⟨hro, rfl⟩ := hcnd
      cases hv
      obtain ⟨r, hr, halt⟩ := hsx.of_slice hx0
      obtain ⟨hol, hoo, olds, hou, hoc⟩ := hR.read hold hr
      have holds : olds.length = len * i.size := by rw [← hou.1]; exact hol
      have grow : ∀ (A : Addr) (cap : Nat), ρ' x = .slice (some A) len cap → cap < len + n → (∀ (j : Nat) v, olds[j]? = some v → w.cell? (A.add j) = some v) →
        Does P w0 m S w ρ' ⟨dst, .call ⟨.builtin .append, #[x, y], #[t', t']⟩, type, pos, after, guard⟩ (.slice (some ⟨S.next, 0, none⟩) (len + n) i.size) ((S.kill id).new ⟨false, old ++ new⟩) := by
       intro A cap hu hcap hAc
       have hrun := run_append_grow (P := P) w t' type e i z hut hi hz A len cap olds holds hAc ⟨r'.cb, r'.dl + o', none⟩ n cap' us husl hnc hcap (by omega) (growslice_fits hcap (by omega))
       have hge := grownCap_ge w (len + n) cap e
       have hsize := size_grown (us := olds ++ us) (z := z.cells) (n := len + n) (cap := grownCap w (len + n) cap e) hzs (by simp [holds, husl, Nat.add_mul]) hge
       have hn := (hR.drew.kill id).new (old ++ new) ((olds ++ us).toArray ++ Builtin.zeroCells z.cells (grownCap w (len + n) cap e - (len + n))) e
        (by intro v hv; simp at hv; rcases hv with hv | hv; exact hoo v hv; exact hno v hv)
        (by rw [hsize]; simp only [List.length_append, hol, hnl, ← Nat.add_mul]; exact Nat.mul_le_mul_right _ hge) (by
         have : ((olds ++ us).toArray ++ Builtin.zeroCells z.cells (grownCap w (len + n) cap e - (len + n))).toList.take (old ++ new).length = olds ++ us := by
          rw [show (old ++ new).length = (olds ++ us).length from by rw [List.length_append, List.length_append, hou.1, hnu.1], Array.toList_append]
          exact List.take_left
         rw [this]; exact hou.append hnu)
       refine ⟨_, .slice (some ⟨w.heap.size, 0, none⟩) (len + n) (grownCap w (len + n) cap e), _, LMap.le_ext (id := S.next) hR.fresh _, hn, Frame.drew.trans (((Frame.refl S m w.drew).kill id hr).trans (.new (S.kill id) m w.drew _ _ _ _)), by simp [St.new, St.kill], vrel_newSlice (r := ⟨w.heap.size, 0, ((olds ++ us).toArray ++ Builtin.zeroCells z.cells (grownCap w (len + n) cap e - (len + n))).size⟩) (by simp only [LMap.ext, if_true]; rfl) rfl hge (Nat.le_of_eq hsize.symm) (.inr (grownCap_le_maxLen _ _ _ _ (by unfold maxLen; omega))), .inl (hexec _ _ ?_)⟩
       rw [hu, hu']
       simpa using hrun
      rcases halt with ⟨cap, hu, hle, hcap⟩ | ⟨rfl, A, hu⟩
      ·have hcap' : r.dl + o + cap * i.size ≤ r.csz := by rcases hcap with h0 | h0; exact absurd h0 hsz0; exact h0.1
       by_cases hroom : len + n ≤ cap
       ·obtain ⟨hone', cc, ee, fr, h1, h2, h3, h4, _, h6⟩ := hR.blk id b r hb hr
        obtain ⟨rfl, hB⟩ := h4 hro
        have hfit : r.dl + o + len * i.size + us.length ≤ cc.size := by
         rw [h2, husl]
         have : (len + n) * i.size ≤ cap * i.size := Nat.mul_le_mul_right _ hroom
         rw [Nat.add_mul] at this
         omega
        have hrun := run_append_place (P := P) (w := w) t' type e i hut hi r.cb (r.dl + o) len cap cc ee h1 ⟨r'.cb, r'.dl + o', none⟩ n cap' us husl hnc hno' hroom hfit
        have hg := hR.regrow hb hro hr (old := old) (new := new) (us := us) (by rw [hol]; exact hold) hnu hno cc ee h1 h2 (by rw [hol]; exact hfit)
        rw [hol] at hg
        refine ⟨_, .slice (some ⟨r.cb, r.dl + o, none⟩) (len + n) cap, _, LMap.le_ext hR.fresh _, hg, .regrow w hb hro hr _ _ _ _, by simp [St.new, St.kill], ?_, .inl (hexec _ _ ?_)⟩
        ·have := VRel.slice (m := m.ext S.next ⟨r.cb, r.dl + o, r.csz⟩) (id := S.next) (off := 0) (len := len + n) (cap := cap) (e := i.size) (r := ⟨r.cb, r.dl + o, r.csz⟩) (by simp [LMap.ext]) hroom (.inr ⟨by simpa using hcap', by rcases hcap with h0 | h0; exact absurd h0 hsz0; exact h0.2⟩)
         simpa using this
        ·rw [hu, hu']
         exact hrun
       ·exact grow _ cap hu (by omega) hoc
      ·have hold0 : olds = [] := List.eq_nil_of_length_eq_zero (by simpa using holds)
       exact grow A 0 hu (by omega) (fun j v hj => by rw [hold0] at hj; simp at hj)
   ·cases hv
 ·cases hv
end
end Go.Proofs.YtegaklgjcicnfaaGreat.Abs
