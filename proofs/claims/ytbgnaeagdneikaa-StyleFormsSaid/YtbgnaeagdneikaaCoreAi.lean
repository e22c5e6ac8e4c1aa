/- Regions in whatever order, the code, and functions, over the abstract memory. -/
import Derived.Test.YtbgnaeagdneikaaCoreAh
namespace Go.Proofs.Ytbgnaeagdneikaa.Abs
open Go Go.RowKit

inductive ATree where
  | done
  | op (o : AOper) (rest : ATree)
  | both (l r : ATree)

inductive ACode where
  | skip
  | reg (tr : ATree)
  | seq (a b : ACode)
  | cond (c : Operand) (thn els : ACode)
  | block (id : Nat) (body : ACode)
  | loop (body : ACode)
  | exit (id : Nat)
  | ret

def ATree.ok (n : Nat) : ATree → Bool
  | .done => true
  | .op o r => o.ok n && r.ok n
  | .both l r => l.ok n && r.ok n

def ACode.ok (n : Nat) : ACode → Bool
  | .skip | .exit _ | .ret => true
  | .reg tr => tr.ok n
  | .seq a b => a.ok n && b.ok n
  | .cond c a b => opdOk n c && a.ok n && b.ok n
  | .block _ b => b.ok n
  | .loop b => b.ok n

def treeWp (P : Program) : ATree → Env → St → (Env → St → Prop) → Prop
  | .done, t, S, K => K t S
  | .op o r, t, S, K => opWp P o t S fun t S => treeWp P r t S K
  | .both l r, t, S, K => treeWp P l t S K ∧ treeWp P r t S K

/-- Operations in the text's order. -/
def lineTree (P : Program) (ops : Array Oper) : List Oper → Option ATree
  | [] => some .done
  | o :: rest => (compO P ops o).bind fun ao => (lineTree P ops rest).map fun r => .op ao r

def pureAt (P : Program) (ops : Array Oper) (i : Nat) : Bool :=
  match ops[i]? with
  | some o => (compP P o.op).isSome
  | none => false

def bothAll : List ATree → ATree
  | [] => .done
  | [t] => t
  | t :: ts => .both t (bothAll ts)

/-- Operations in whatever order their edges allow: what only computes comes first. -/
def drawTree (P : Program) (ops : Array Oper) : Nat → Array Bool → Option ATree
  | 0, listed => if (Region.ready .any ops listed).isEmpty = true then some .done else none
  | fuel + 1, listed =>
    if (Region.ready .any ops listed).isEmpty = true then some .done else
    match (Region.ready .any ops listed).find? (fun i => pureAt P ops i && Region.free .any ops listed i) with
    | some i => match ops[i]? with
      | some o => (compO P ops o).bind fun ao => (drawTree P ops fuel (listed.setIfInBounds i true)).map fun r => .op ao r
      | none => none
    | none => ((Region.ready .any ops listed).mapM fun i => match ops[i]? with
      | some o => (compO P ops o).bind fun ao => (drawTree P ops fuel (listed.setIfInBounds i true)).map fun r => ATree.op ao r
      | none => none).map bothAll

def regTree (P : Program) (ops : Array Oper) (draw : Bool) : Option ATree :=
  if draw = true then (if Region.noSelect ops = true then drawTree P ops ops.size (Array.replicate ops.size false) else none)
  else lineTree P ops ops.toList

def compC (P : Program) : Code → Option ACode
  | .skip => some .skip
  | .region _ ops draw => (regTree P ops draw).map .reg
  | .seq a b => (compC P a).bind fun x => (compC P b).map fun y => .seq x y
  | .cond c a b => (compC P a).bind fun x => (compC P b).map fun y => .cond c x y
  | .block id b => (compC P b).map fun x => .block id x
  | .loop b => (compC P b).map fun x => .loop x
  | .exit id => some (.exit id)
  | .ret => some .ret
  | _ => none

section
variable {P : Program} {m : LMap} {w0 w : World} {S : St} {n : Nat}

theorem treeWp_both {ts : List ATree} {t : Env} {K : Env → St → Prop} (h : treeWp P (bothAll ts) t S K) (hn : ts ≠ []) : ∀ x ∈ ts, treeWp P x t S K := by
  induction ts with
  | nil => exact absurd rfl hn
  | cons y ys ih =>
    cases ys with
    | nil => intro x hx; simp at hx; subst hx; exact h
    | cons z zs =>
      intro x hx
      simp only [List.mem_cons] at hx
      rcases hx with rfl | hx
      · exact h.1
      · exact ih h.2 (by simp) x (by simpa using hx)

theorem ok_both {ts : List ATree} (h : (bothAll ts).ok n = true) : ∀ x ∈ ts, x.ok n = true := by
  induction ts with
  | nil => intro x hx; simp at hx
  | cons y ys ih =>
    cases ys with
    | nil => intro x hx; simp at hx; subst hx; exact h
    | cons z zs =>
      have h' : y.ok n = true ∧ (bothAll (z :: zs)).ok n = true := by simpa [bothAll, ATree.ok] using h
      intro x hx
      simp only [List.mem_cons] at hx
      rcases hx with rfl | hx
      · exact h'.1
      · exact ih h'.2 x (by simpa using hx)

/-- Leaving a region. -/
def Leaves (w0 : World) (m : LMap) (nx n : Nat) (K : Env → St → Prop) (Q' : Exit → Act → World → Prop) : Prop :=
  ∀ m' t S a w, m.le m' → Rel w0 m' S w → nx ≤ S.next → EnvRel m' n t a → a.defers = [] → K t S → Q' .normal a w

theorem Leaves.later {nx nx' : Nat} {m' : LMap} {K : Env → St → Prop} {Q' : Exit → Act → World → Prop} (h : Leaves w0 m nx n K Q') (hm : m.le m') (hn : nx ≤ nx') : Leaves w0 m' nx' n K Q' :=
  fun m'' t S a w h1 h2 h3 => h m'' t S a w (LMap.le_trans hm h1) h2 (Nat.le_trans hn h3)

theorem line_sound {ops : Array Oper} {Q' : Exit → Act → World → Prop} : ∀ (l : List Oper) (k : Nat) {tr : ATree}, (∀ j, l[j]? = ops[k + j]?) → lineTree P ops l = some tr → tr.ok n = true →
    ∀ {t : Env} {S : St} {a : Act} {w : World} {m : LMap} {K : Env → St → Prop}, Rel w0 m S w → EnvRel m n t a → a.defers = [] → treeWp P tr t S K → Leaves w0 m S.next n K Q' →
    wpOps P ops Q' (List.range' k l.length) a w := by
  intro l
  induction l with
  | nil =>
    intro k tr _ htr _ t S a w m K hR he hd h hL
    simp [lineTree] at htr
    subst htr
    exact hL m t S a w m.le_refl hR (Nat.le_refl _) he hd h
  | cons o rest ih =>
    intro k tr hl htr hok t S a w m K hR he hd h hL
    simp only [lineTree] at htr
    obtain ⟨ao, hao, htr⟩ := Option.bind_eq_some_iff.1 htr
    obtain ⟨r, hr, rfl⟩ := Option.map_eq_some_iff.1 htr
    have hok' : ao.ok n = true ∧ r.ok n = true := by simpa [ATree.ok] using hok
    have h0 : ops[k]? = some o := by simpa using (hl 0).symm
    rw [List.length_cons, List.range'_succ, wpOps_cons]
    refine op_sound h0 hao hok'.1 hR he hd h fun m' t' S' a' w' hm hR' hn he' hd' hk => ?_
    exact ih (k + 1) (fun j => by have := hl (j + 1); simpa [Nat.add_assoc, Nat.add_comm 1 j] using this) hr hok'.2 hR' he' hd' hk (hL.later hm hn)

theorem draw_sound {ops : Array Oper} {Q' : Exit → Act → World → Prop} (hQ : ∀ c a w, ¬ Q' (.panic c) a w) (hns : Region.noSelect ops = true) : ∀ (fuel : Nat) (listed : Array Bool) {tr : ATree}, drawTree P ops fuel listed = some tr → tr.ok n = true →
    ∀ {t : Env} {S : St} {a : Act} {w : World} {m : LMap} {K : Env → St → Prop}, Rel w0 m S w → EnvRel m n t a → a.defers = [] → treeWp P tr t S K → Leaves w0 m S.next n K Q' →
    wpAny P .any ops Q' fuel listed a w := by
  intro fuel
  induction fuel with
  | zero =>
    intro listed tr htr _ t S a w m K hR he hd h hL
    unfold drawTree at htr
    split at htr
    · rename_i hr
      cases htr
      exact wpAny_done (by simpa using hr) (hL m t S a w m.le_refl hR (Nat.le_refl _) he hd h) 0
    · cases htr
  | succ fuel ih =>
    intro listed tr htr hok t S a w m K hR he hd h hL
    unfold drawTree at htr
    split at htr
    · rename_i hr
      cases htr
      exact wpAny_done (by simpa using hr) (hL m t S a w m.le_refl hR (Nat.le_refl _) he hd h) _
    · rename_i hne
      split at htr
      · rename_i i hfind
        have hsome := List.find?_some hfind
        have hmem := List.mem_of_find?_eq_some hfind
        simp only [Bool.and_eq_true] at hsome
        split at htr
        case h_2 => cases htr
        rename_i o hi
        obtain ⟨ao, hao, htr⟩ := Option.bind_eq_some_iff.1 htr
        obtain ⟨r, hr, rfl⟩ := Option.map_eq_some_iff.1 htr
        have hok' : ao.ok n = true ∧ r.ok n = true := by simpa [ATree.ok] using hok
        obtain ⟨ha, hdst, hg, hops⟩ := compO_spec hao hok'.1
        have hp : ∃ p, compP P o.op = some p := by
          have := hsome.1
          unfold pureAt at this
          rw [hi] at this
          exact Option.isSome_iff_exists.1 this
        obtain ⟨p, hp⟩ := hp
        have hap : ao.op = .p p := by
          unfold compA at ha
          rw [hp] at ha
          exact (Option.some.inj ha).symm
        have hw := wanted_rel (ops := ops) (o := o) he hg
        have hput : ∀ {v u : Value}, VRel m v u → EnvRel m n (t.put ao.dst v) (a.put o.dst u) := fun hv => by rw [← hdst]; exact he.put hv o.dst
        have hdp : ∀ u, (a.put o.dst u).defers = [] := by intro u; cases hh : o.dst <;> simp [Act.put, hd]
        have h' : opWp P ao t S fun t S => treeWp P r t S K := h
        unfold opWp at h'
        have take : ∀ {v u}, VRel m v u → Yields P ops o u a → treeWp P r (t.put ao.dst v) S K → wpAny P .any ops Q' (fuel + 1) listed a w := by
          intro v u hv hy hk
          exact wpAny_take hi hns hsome.2 (by simpa using hmem) (fun c a w hq => absurd hq (hQ c _ w)) hy (ih _ hr hok'.2 hR (hput hv) (hdp u) hk hL)
        cases hgb : guardB ao.guard t with
        | false =>
          rw [hgb] at h'
          simp only [Bool.false_eq_true, if_false] at h'
          exact take (.tuple rfl (fun i x y hx => by simp at hx)) (.inr ⟨by rw [hw, hgb], rfl⟩) h'
        | true =>
          rw [hgb, hap] at h'
          simp only [if_true] at h'
          simp only [bodyWp, optV] at h'
          split at h'
          case h_2 => exact h'.elim
          rename_i v hv
          have hsees : Sees m (ev t) a.eval p.operands := fun x hx => he.ev (hops x (by rw [hap]; exact hx))
          obtain ⟨u, hvu, hrun⟩ := pure_sound o (fun y c hy => by rw [hy]; rfl) hp hsees hv
          exact take hvu (.inl ⟨by rw [hw, hgb], hrun⟩) h'
      · obtain ⟨ts, hts, rfl⟩ := Option.map_eq_some_iff.1 htr
        have hne' : Region.ready .any ops listed ≠ [] := by simpa using hne
        have hlen : ∀ (l : List Nat) (ts : List ATree), (l.mapM fun i => match ops[i]? with
            | some o => (compO P ops o).bind fun ao => (drawTree P ops fuel (listed.setIfInBounds i true)).map fun r => ATree.op ao r
            | none => none) = some ts → (l ≠ [] → ts ≠ []) ∧ ∀ i ∈ l, ∃ o ao r, ops[i]? = some o ∧ compO P ops o = some ao ∧ drawTree P ops fuel (listed.setIfInBounds i true) = some r ∧ ATree.op ao r ∈ ts := by
          intro l
          induction l with
          | nil => intro ts _; exact ⟨fun h => absurd rfl h, fun i hi => by simp at hi⟩
          | cons i l ihl =>
            intro ts h
            rw [List.mapM_cons] at h
            obtain ⟨x, hx, h⟩ := Option.bind_eq_some_iff.1 h
            obtain ⟨xs, hxs, h⟩ := Option.bind_eq_some_iff.1 h
            cases h
            refine ⟨fun _ => by simp, fun j hj => ?_⟩
            simp only [List.mem_cons] at hj
            rcases hj with rfl | hj
            · split at hx
              case h_2 => cases hx
              rename_i o ho
              obtain ⟨ao, hao, hx⟩ := Option.bind_eq_some_iff.1 hx
              obtain ⟨r, hr, rfl⟩ := Option.map_eq_some_iff.1 hx
              exact ⟨o, ao, r, ho, hao, hr, by simp⟩
            · obtain ⟨o, ao, r, h1, h2, h3, h4⟩ := (ihl xs hxs).2 j hj
              exact ⟨o, ao, r, h1, h2, h3, by simp [h4]⟩
        obtain ⟨g1, g2⟩ := hlen _ ts hts
        refine wpAny_all rfl hne' fun i hi => ?_
        obtain ⟨o, ao, r, h1, h2, h3, h4⟩ := g2 i hi
        have hb := treeWp_both h (g1 hne') _ h4
        have hokr := ok_both hok _ h4
        have hok' : ao.ok n = true ∧ r.ok n = true := by simpa [ATree.ok] using hokr
        refine op_sound h1 h2 hok'.1 hR he hd hb fun m' t' S' a' w' hm hR' hn he' hd' hk => ?_
        exact ih _ h3 hok'.2 hR' he' hd' hk (hL.later hm hn)

/-- The logic: code over the abstract memory. -/
def AWp (P : Program) (n : Nat) (ac : ACode) (Q : Exit → Env → St → Prop) (t : Env) (S : St) : Prop :=
  P.follows .mixedOrders = true → ∀ c, compC P c = some ac → ac.ok n = true →
    ∀ (w0 : World) (m : LMap) (w : World) (a : Act), Rel w0 m S w → EnvRel m n t a → a.defers = [] → c.wp P (Lift w0 m S.next n Q) a w

variable {Q : Exit → Env → St → Prop} {t : Env}

theorem Lift.no_panic {nx : Nat} (c : List PanicEntry) (a : Act) (w : World) : ¬ Lift w0 m nx n Q (.panic c) a w := fun h => h.1

theorem Lift.later {nx nx' : Nat} {m' : LMap} {e : Exit} {a : Act} {w : World} (hm : m.le m') (hn : nx ≤ nx') (h : Lift w0 m' nx' n Q e a w) : Lift w0 m nx n Q e a w := by
  obtain ⟨hp, m'', t, S, h1, h2, h3, h4, h5, h6⟩ := h
  exact ⟨hp, m'', t, S, LMap.le_trans hm h1, h2, Nat.le_trans hn h3, h4, h5, h6⟩

theorem compC_skip {c : Code} (h : compC P c = some .skip) : c = .skip := by cases c <;> simp [compC, Option.bind_eq_some_iff] at h; rfl
theorem compC_exit {c : Code} {id : Nat} (h : compC P c = some (.exit id)) : c = .exit id := by cases c <;> simp [compC, Option.bind_eq_some_iff] at h; rw [h]
theorem compC_ret {c : Code} (h : compC P c = some .ret) : c = .ret := by cases c <;> simp [compC, Option.bind_eq_some_iff] at h; rfl
theorem compC_reg {c : Code} {tr : ATree} (h : compC P c = some (.reg tr)) : ∃ id ops draw, c = .region id ops draw ∧ regTree P ops draw = some tr := by
  cases c <;> simp [compC, Option.bind_eq_some_iff] at h
  exact ⟨_, _, _, rfl, h⟩
theorem compC_seq {c : Code} {x y : ACode} (h : compC P c = some (.seq x y)) : ∃ a b, c = .seq a b ∧ compC P a = some x ∧ compC P b = some y := by
  cases c <;> simp [compC, Option.bind_eq_some_iff] at h
  obtain ⟨h1, h2⟩ := h
  exact ⟨_, _, rfl, h1, h2⟩
theorem compC_cond {c : Code} {e : Operand} {x y : ACode} (h : compC P c = some (.cond e x y)) : ∃ a b, c = .cond e a b ∧ compC P a = some x ∧ compC P b = some y := by
  cases c <;> simp [compC, Option.bind_eq_some_iff] at h
  obtain ⟨_, h1, _, h2, rfl, rfl, rfl⟩ := h
  exact ⟨_, _, rfl, h1, h2⟩
theorem compC_block {c : Code} {id : Nat} {x : ACode} (h : compC P c = some (.block id x)) : ∃ a, c = .block id a ∧ compC P a = some x := by
  cases c <;> simp [compC, Option.bind_eq_some_iff] at h
  obtain ⟨h1, rfl⟩ := h
  exact ⟨_, rfl, h1⟩
theorem compC_loop {c : Code} {x : ACode} (h : compC P c = some (.loop x)) : ∃ a, c = .loop a ∧ compC P a = some x := by
  cases c <;> simp [compC, Option.bind_eq_some_iff] at h
  exact ⟨_, rfl, h⟩

theorem AWp.region {tr : ATree} (h : treeWp P tr t S (Q .normal)) : AWp P n (.reg tr) Q t S := by
  intro hm c hc hok w0 m w a hR he hd
  obtain ⟨id, ops, draw, rfl, htr⟩ := compC_reg hc
  have hL : ∀ nx m, Leaves w0 m nx n (Q .normal) (Lift w0 m nx n Q) := fun nx m m' t S a w h1 h2 h3 h4 h5 h6 => ⟨trivial, m', t, S, h1, h2, h3, h4, h5, h6⟩
  unfold regTree at htr
  cases draw with
  | true =>
    simp only [if_true] at htr
    split at htr
    case isFalse => cases htr
    rename_i hns
    exact wp_region_any hm (draw_sound Lift.no_panic hns _ _ htr hok hR.drew he hd h (hL _ _))
  | false =>
    simp only [Bool.false_eq_true, if_false] at htr
    refine wp_region ?_
    have := line_sound ops.toList 0 (ops := ops) (by intro j; simp) htr hok hR he hd h (hL _ _)
    rw [List.range_eq_range']
    simpa using this

theorem AWp.skip (h : Q .normal t S) : AWp P n .skip Q t S := by
  intro hm c hc hok w0 m w a hR he hd
  obtain rfl := compC_skip hc
  exact wp_skip ⟨trivial, m, t, S, m.le_refl, hR, Nat.le_refl _, he, hd, h⟩

theorem AWp.exit {id : Nat} (h : Q (.exit id) t S) : AWp P n (.exit id) Q t S := by
  intro hm c hc hok w0 m w a hR he hd
  obtain rfl := compC_exit hc
  exact wp_exit ⟨trivial, m, t, S, m.le_refl, hR, Nat.le_refl _, he, hd, h⟩

theorem AWp.ret (h : Q .ret t S) : AWp P n .ret Q t S := by
  intro hm c hc hok w0 m w a hR he hd
  obtain rfl := compC_ret hc
  exact wp_ret ⟨trivial, m, t, S, m.le_refl, hR, Nat.le_refl _, he, hd, h⟩

def thenQ (K : Env → St → Prop) (Q : Exit → Env → St → Prop) : Exit → Env → St → Prop
  | .normal, t, S => K t S
  | e, t, S => Q e t S

theorem AWp.seq {x y : ACode} (h : AWp P n x (thenQ (AWp P n y Q) Q) t S) : AWp P n (.seq x y) Q t S := by
  intro hm c hc hok w0 m w a hR he hd
  obtain ⟨c1, c2, rfl, hx, hy⟩ := compC_seq hc
  have hok' : x.ok n = true ∧ y.ok n = true := by simpa [ACode.ok] using hok
  refine wp_seq (wp_mono (h hm c1 hx hok'.1 w0 m w a hR he hd) ?_)
  rintro e a' w' ⟨hp, m', t', S', h1, h2, h3, h4, h5, h6⟩
  cases e with
  | normal => exact wp_mono (h6 hm c2 hy hok'.2 w0 m' w' a' h2 h4 h5) fun e a w hl => hl.later h1 h3
  | panic c => exact hp.elim
  | _ => exact ⟨trivial, m', t', S', h1, h2, h3, h4, h5, h6⟩

theorem AWp.cond {c : Operand} {x y : ACode} {b : Bool} (hb : ev t c = .bool b) (h : if b = true then AWp P n x Q t S else AWp P n y Q t S) : AWp P n (.cond c x y) Q t S := by
  intro hm cd hc hok w0 m w a hR he hd
  obtain ⟨c1, c2, rfl, hx, hy⟩ := compC_cond hc
  have hok' : (opdOk n c = true ∧ x.ok n = true) ∧ y.ok n = true := by simpa [ACode.ok] using hok
  have hv := (he.ev hok'.1.1).of_bool hb
  refine wp_cond hv ?_
  cases b with
  | true => exact h hm c1 hx hok'.1.2 w0 m w a hR he hd
  | false => exact h hm c2 hy hok'.2 w0 m w a hR he hd

def inBlockQ (id : Nat) (Q : Exit → Env → St → Prop) : Exit → Env → St → Prop
  | .exit id', t, S => if id' = id then Q .normal t S else Q (.exit id') t S
  | e, t, S => Q e t S

theorem AWp.block {id : Nat} {x : ACode} (h : AWp P n x (inBlockQ id Q) t S) : AWp P n (.block id x) Q t S := by
  intro hm c hc hok w0 m w a hR he hd
  obtain ⟨c1, rfl, hx⟩ := compC_block hc
  refine wp_block (wp_mono (h hm c1 hx hok w0 m w a hR he hd) ?_)
  rintro e a' w' ⟨hp, m', t', S', h1, h2, h3, h4, h5, h6⟩
  cases e with
  | exit id' =>
    simp only [Exit.inBlock]
    simp only [inBlockQ] at h6
    split
    · rename_i he'
      rw [if_pos he'] at h6
      exact ⟨trivial, m', t', S', h1, h2, h3, h4, h5, h6⟩
    · rename_i he'
      rw [if_neg he'] at h6
      exact ⟨trivial, m', t', S', h1, h2, h3, h4, h5, h6⟩
  | panic c => exact hp.elim
  | _ => exact ⟨trivial, m', t', S', h1, h2, h3, h4, h5, h6⟩

/-- A loop: what holds at every round's head, and what each round lowers. -/
theorem AWp.loop {x : ACode} (I : Env → St → Prop) (μ : Env → St → Nat) (h0 : I t S)
    (round : ∀ t S, I t S → AWp P n x (thenQ (fun t' S' => I t' S' ∧ μ t' S' < μ t S) Q) t S) : AWp P n (.loop x) Q t S := by
  intro hm c hc hok w0 m w a hR he hd
  obtain ⟨c1, rfl, hx⟩ := compC_loop hc
  intro b k cs
  have key : ∀ (d : Nat) (m1 : LMap) (t1 : Env) (S1 : St) (a1 : Act) (w1 : World), μ t1 S1 = d → m.le m1 → S.next ≤ S1.next → Rel w0 m1 S1 w1 → EnvRel m1 n t1 a1 → a1.defers = [] → I t1 S1 →
      ∃ e a' w', Lift w0 m S.next n Q e a' w' ∧ Arrives P (lone (b.at a1 (.code c1 :: .inLoop c1 :: k)) cs w1) b k cs e a' w' := by
    intro d
    induction d using Nat.strongRecOn with
    | _ d ih =>
      intro m1 t1 S1 a1 w1 hd1 hm1 hn1 hR1 he1 hdf1 hI
      obtain ⟨e, a2, w2, ⟨hp, m2, t2, S2, g1, g2, g3, g4, g5, g6⟩, harr⟩ := round t1 S1 hI hm c1 hx hok w0 m1 w1 a1 hR1 he1 hdf1 b (.inLoop c1 :: k) cs
      cases e with
      | normal =>
        obtain ⟨hI2, hlt⟩ := g6
        obtain ⟨e, a', w', hq, harr'⟩ := ih (μ t2 S2) (hd1 ▸ hlt) m2 t2 S2 a2 w2 rfl (LMap.le_trans hm1 g1) (Nat.le_trans hn1 g3) g2 g4 g5 hI2
        exact ⟨e, a', w', hq, .of_steps (Steps.trans harr (.one step_inLoop)) harr'⟩
      | panic c => exact hp.elim
      | exit id => exact ⟨_, a2, w2, ⟨trivial, m2, t2, S2, LMap.le_trans hm1 g1, g2, Nat.le_trans hn1 g3, g4, g5, g6⟩, .pass (x := .inLoop c1) rfl (fun _ _ => .inl (by simp)) harr⟩
      | goto l => exact ⟨_, a2, w2, ⟨trivial, m2, t2, S2, LMap.le_trans hm1 g1, g2, Nat.le_trans hn1 g3, g4, g5, g6⟩, .pass (x := .inLoop c1) rfl (fun _ _ => .inl (by simp)) harr⟩
      | ret => exact ⟨_, a2, w2, ⟨trivial, m2, t2, S2, LMap.le_trans hm1 g1, g2, Nat.le_trans hn1 g3, g4, g5, g6⟩, .pass (x := .inLoop c1) rfl (fun _ _ => .inl (by simp)) harr⟩
      | outgrown => exact ⟨_, a2, w2, ⟨trivial, m2, t2, S2, LMap.le_trans hm1 g1, g2, Nat.le_trans hn1 g3, g4, g5, g6⟩, .pass (x := .inLoop c1) rfl (fun _ _ => .inl (by simp)) harr⟩
  obtain ⟨e, a', w', hq, harr⟩ := key _ m t S a w rfl m.le_refl (Nat.le_refl _) hR he hd h0
  exact ⟨e, a', w', hq, .of_steps (.one step_loop) harr⟩

theorem AWp.mono {x : ACode} {Q' : Exit → Env → St → Prop} (h : AWp P n x Q t S) (hq : ∀ e t' S', S.next ≤ S'.next → Q e t' S' → Q' e t' S') : AWp P n x Q' t S := by
  intro hm c hc hok w0 m w a hR he hd
  refine wp_mono (h hm c hc hok w0 m w a hR he hd) ?_
  rintro e a' w' ⟨hp, m', t', S', h1, h2, h3, h4, h5, h6⟩
  exact ⟨hp, m', t', S', h1, h2, h3, h4, h5, hq _ _ _ h3 h6⟩

def condWp (v : Value) (A B : Prop) : Prop :=
  match v with
  | .bool r => if r = true then A else B
  | _ => False

/-- Code without loops is run; a loop is left as it stands. -/
def cwp (P : Program) (n : Nat) : ACode → (Exit → Env → St → Prop) → Env → St → Prop
  | .skip, Q, t, S => Q .normal t S
  | .reg tr, Q, t, S => treeWp P tr t S (Q .normal)
  | .seq a b, Q, t, S => cwp P n a (thenQ (cwp P n b Q) Q) t S
  | .cond c a b, Q, t, S => condWp (ev t c) (cwp P n a Q t S) (cwp P n b Q t S)
  | .block id b, Q, t, S => cwp P n b (inBlockQ id Q) t S
  | .loop b, Q, t, S => AWp P n (.loop b) Q t S
  | .exit id, Q, t, S => Q (.exit id) t S
  | .ret, Q, t, S => Q .ret t S

theorem AWp.of_cwp : ∀ (c : ACode) {Q : Exit → Env → St → Prop} {t : Env} {S : St}, cwp P n c Q t S → AWp P n c Q t S
  | .skip, _, _, _, h => .skip h
  | .reg _, _, _, _, h => .region h
  | .seq a b, Q, _, _, h => .seq ((AWp.of_cwp a h).mono fun e t S _ hq => by
      cases e with
      | normal => exact AWp.of_cwp b hq
      | _ => exact hq)
  | .cond c a b, _, t, _, h => by
    simp only [cwp, condWp] at h
    split at h
    case h_2 => exact h.elim
    rename_i r hr
    refine .cond hr ?_
    cases r with
    | true => exact AWp.of_cwp a h
    | false => exact AWp.of_cwp b h
  | .block _ b, _, _, _, h => .block (AWp.of_cwp b h)
  | .loop _, _, _, _, h => h
  | .exit _, _, _, _, h => .exit h
  | .ret, _, _, _, h => .ret h

/-! ### functions -/
inductive ARes where
  | tmp (t : Nat)
  | cell (t sz : Nat) (agg : Bool)

structure AFun where
  ntmps : Nat
  results : List ARes
  body : ACode

def compR (P : Program) : ResultVar → Option ARes
  | .tmp t => some (.tmp t)
  | .cell a ty => (szT P ty).bind fun sz => (aggT P ty).map fun ag => .cell a sz ag

def compF (P : Program) (fn : Func) : Option AFun :=
  fn.body.bind fun c => (compC P c).bind fun ac => (fn.results.toList.mapM (compR P)).map fun rs => ⟨fn.ntmps, rs, ac⟩

def ARes.ok (n : Nat) : ARes → Bool
  | .tmp t => decide (t < n)
  | .cell t _ _ => decide (t < n)

def AFun.ok (f : AFun) : Bool := f.body.ok f.ntmps && f.results.all (·.ok f.ntmps)

def resVal (t : Env) (S : St) : ARes → Option Value
  | .tmp i => some (t i)
  | .cell i sz ag => match t i with
    | .pointer (some ⟨id, o, none⟩) => ldv S ag id o sz
    | _ => none

def resVals (t : Env) (S : St) : List ARes → Option (List Value)
  | [] => some []
  | r :: rs => (resVal t S r).bind fun v => (resVals t S rs).map fun vs => v :: vs

def oneOr : List Value → Value
  | [v] => v
  | vs => .tuple vs.toArray

def bodyQ (rs : List ARes) (R : Value → St → Prop) : Exit → Env → St → Prop
  | .normal, t, S => match resVals t S rs with
    | some vs => R (oneOr vs) S
    | none => False
  | .ret, t, S => match resVals t S rs with
    | some vs => R (oneOr vs) S
    | none => False
  | _, _, _ => False

def entry (args : List Value) : Env := fun i => args.getD i undef

theorem results_sound {fn : Func} {rs : List ARes} (hrs : fn.results.toList.mapM (compR P) = some rs) (hok : rs.all (·.ok n) = true) (hR : Rel w0 m S w) {a : Act} (he : EnvRel m n t a)
    {vs : List Value} (hv : resVals t S rs = some vs) : ∃ u, (results fn a.tmps).run P w = .ok u w ∧ VRel m (oneOr vs) u := by
  have key : ∀ (l : List ResultVar) (rs : List ARes), l.mapM (compR P) = some rs → rs.all (·.ok n) = true → ∀ {vs}, resVals t S rs = some vs → ∃ us, LRel m vs us ∧
      (l.mapM (fun | .tmp t => pure (a.tmps.getD t undef) | .cell ad ty => do loadVar ty (← asAddr (a.tmps.getD ad undef))) : Sem (List Value)).run P w = .ok us w := by
    intro l
    induction l with
    | nil => intro rs h _ vs hv; simp at h; subst h; simp [resVals] at hv; subst hv; exact ⟨[], .nil m, rfl⟩
    | cons x l ih =>
      intro rs h hok vs hv
      rw [List.mapM_cons] at h
      obtain ⟨r, hr, h⟩ := Option.bind_eq_some_iff.1 h
      obtain ⟨rs', hrs', h⟩ := Option.bind_eq_some_iff.1 h
      cases h
      simp only [List.all_cons, Bool.and_eq_true] at hok
      simp only [resVals] at hv
      obtain ⟨v, hv1, hv⟩ := Option.bind_eq_some_iff.1 hv
      obtain ⟨vs', hvs', rfl⟩ := Option.map_eq_some_iff.1 hv
      obtain ⟨us, hus, hrun⟩ := ih rs' hrs' hok.2 hvs'
      cases x with
      | tmp i =>
        cases hr
        cases hv1
        refine ⟨_, .cons (he.2 i (by simpa [ARes.ok] using hok.1)) hus, ?_⟩
        rw [List.mapM_cons]
        simp only [Sem.run_bind, Sem.run_pure, Result.andThen_ok, hrun]
      | cell ad ty =>
        simp only [compR] at hr
        obtain ⟨sz, hsz, hr⟩ := Option.bind_eq_some_iff.1 hr
        obtain ⟨ag, hag, rfl⟩ := Option.map_eq_some_iff.1 hr
        have hrel := he.2 ad (by simpa [ARes.ok] using hok.1)
        simp only [resVal] at hv1
        split at hv1
        case h_2 => cases hv1
        rename_i id o hp
        obtain ⟨r, hr, hu⟩ := hrel.of_ptr hp
        obtain ⟨u, hvu, hld⟩ := ldv_rel (P := P) hR hsz hag hv1 hr
        refine ⟨_, .cons hvu hus, ?_⟩
        rw [List.mapM_cons]
        have h1 : asAddr (a.tmps.getD ad undef) = pure ⟨r.cb, r.dl + o, none⟩ := by rw [hu]; rfl
        simp only [Sem.run_bind, h1, Sem.run_pure, Result.andThen_ok, hld, hrun]
  obtain ⟨us, hus, hrun⟩ := key _ rs hrs hok hv
  have hres : (results fn a.tmps).run P w = .ok (if h : us.toArray.size = 1 then us.toArray[0] else .tuple us.toArray) w := by
    unfold results
    rw [Array.mapM_eq_mapM_toList]
    simp only [Sem.run_bind, Sem.run_map, Sem.run_pure]
    exact congrArg (fun r : Result (List Value) => (r.andThen fun a w' => Result.ok a.toArray w').andThen fun a w' => Result.ok (if h : a.size = 1 then a[0] else Value.tuple a) w') hrun
  refine ⟨_, hres, ?_⟩
  cases vs with
  | nil =>
    have : us = [] := List.eq_nil_of_length_eq_zero (by have := hus.1; simpa using this.symm)
    subst this
    exact .tuple rfl (fun i x y hx => by simp at hx)
  | cons v vs =>
    cases us with
    | nil => have := hus.1; simp at this
    | cons u us =>
      cases vs with
      | nil =>
        have : us = [] := List.eq_nil_of_length_eq_zero (by have := hus.1; simpa using this.symm)
        subst this
        simpa [oneOr] using hus.2 0 v u rfl rfl
      | cons v' vs =>
        cases us with
        | nil => have := hus.1; simp at this
        | cons u' us =>
          have hne : ¬ ((u :: u' :: us).toArray.size = 1) := by simp
          rw [dif_neg hne]
          have := ARel.of_list hus
          exact .tuple this.1 this.2

/-- A call by its function's code. -/
theorem ACalls.of_body {f : FuncId} {fn : Func} {af : AFun} {args : List Value} {R : Value → St → Prop} (hm : P.follows .mixedOrders = true) (hf : P.funcs[f]? = some fn) (hc : compF P fn = some af) (hok : af.ok = true) (hl : args.length ≤ af.ntmps)
    (h : AWp P af.ntmps af.body (bodyQ af.results R) (entry args) S) : ACalls P f args S R := by
  intro w0 m w cargs hR hargs
  unfold compF at hc
  obtain ⟨c, hb, hc⟩ := Option.bind_eq_some_iff.1 hc
  obtain ⟨ac, hac, hc⟩ := Option.bind_eq_some_iff.1 hc
  obtain ⟨rs, hrs, rfl⟩ := Option.map_eq_some_iff.1 hc
  simp only [AFun.ok, Bool.and_eq_true] at hok
  simp only at h hl
  refine calls_of_wp hf hb (wp_mono (h hm c hac hok.1 w0 m w _ hR ⟨?_, fun i hi => ?_⟩ rfl) ?_)
  · have := hargs.1; simp; omega
  · unfold entry
    rw [Array.getD_eq_getD_getElem?, Array.getElem?_append]
    by_cases h1 : i < args.length
    · have h2 : i < cargs.length := by rw [← hargs.1]; exact h1
      have := hargs.2 i _ _ (List.getElem?_eq_getElem h1) (List.getElem?_eq_getElem h2)
      simpa [h2, List.getD, h1] using this
    · have h2 : ¬ i < cargs.length := by rw [← hargs.1]; exact h1
      have e1 : args.getD i undef = undef := by simp [List.getD, List.getElem?_eq_none (Nat.le_of_not_lt h1)]
      rw [e1]
      simp only [List.size_toArray, if_neg h2, Array.getElem?_replicate]
      have : (if i - cargs.length < fn.ntmps - cargs.length then some undef else none).getD undef = undef := by split <;> rfl
      rw [this]
      exact .tuple rfl (fun i x y hx => by simp at hx)
  · rintro e a' w' ⟨hp, m', t', S', h1, h2, h3, h4, h5, h6⟩
    have fin : (match resVals t' S' rs with | some vs => R (oneOr vs) S' | none => False) → a'.defers = [] ∧ ∃ v, (results fn a'.tmps).run P w' = .ok v w' ∧
        ∃ m' v' u S', m.le m' ∧ Rel w0 m' S' w' ∧ S.next ≤ S'.next ∧ VRel m' v' u ∧ Ending.returned v = .returned u ∧ R v' S' := by
      intro h6
      split at h6
      case h_2 => exact h6.elim
      rename_i vs hvs
      obtain ⟨u, hu, hvu⟩ := results_sound hrs hok.2 h2 h4 hvs
      exact ⟨h5, u, hu, m', _, u, S', h1, h2, h3, hvu, rfl, h6⟩
    cases e with
    | normal => exact fin h6
    | ret => exact fin h6
    | panic c => exact hp.elim
    | exit id => exact h6.elim
    | goto l => exact h6.elim
    | outgrown => exact h6.elim

end
end Go.Proofs.Ytbgnaeagdneikaa.Abs
