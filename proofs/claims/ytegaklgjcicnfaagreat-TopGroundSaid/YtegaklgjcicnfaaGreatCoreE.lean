/- Rules by which code is run by rewriting; shapes of values in the abstract memory. -/
import Derived.Test.YtegaklgjcicnfaaGreatCoreD
import Derived.OpenShut
import Derived.ChangeSame
import Derived.ChangeAt
import Derived.ChangeOld
import Derived.Below
set_option linter.unusedSimpArgs false
set_option linter.unusedVariables false
namespace Go.Proofs.YtegaklgjcicnfaaGreat.Abs
open Go Go.RowKit
theorem Env.get_put (t : Env) (d : Nat) (v : Value) (i : Nat) : Env.put t (some d) v i = if i = d then v else t i := by unfold Env.put; rfl
theorem Env.get_clr (t : Env) (l : List Nat) (i : Nat) : t.clr l i = if l.contains i = true then undef else t i := by unfold Env.clr; rfl
theorem Env.put_none (t : Env) (v : Value) : Env.put t none v = t := by unfold Env.put; rfl
theorem optWp_some (v : Value) (S : St) (K : Value → St → Prop) : optWp (some (v, S)) K = K v S := by unfold optWp; rfl
/-- What lives has a name below the next one. -/
def Live (S : St) : Prop := ∀ i b, S.blk i = some b → i < S.next
section
variable {P : Program} {f : FuncId} {args : List Value} {S : St} {R : Value → St → Prop}
theorem ACalls.live (h : ACalls P f args S R) : ACalls P f args S fun v S' => Live S' ∧ R v S' :=
 fun w0 m w cargs a b => (h w0 m w cargs a b).mono fun _ _ ⟨m', v, u, S', h1, h2, hf, h3, h4, h5, h6⟩ => ⟨m', v, u, S', h1, h2, hf, h3, h4, h5, fun i b hb => h2.lt hb, h6⟩
theorem ACalls.of_live (h : Live S → ACalls P f args S R) : ACalls P f args S R :=
 fun w0 m w cargs hR ha => h (fun i b hb => hR.lt hb) w0 m w cargs hR ha
theorem AWp.of_live {n : Cfg} {c : ACode} {Q : Exit → Env → St → Prop} {t : Env} (h : Live S → AWp P n c Q t S) : AWp P n c Q t S :=
 fun hm cd hc hok G m w a hB => h (fun i b hb => hB.rel.lt hb) hm cd hc hok G m w a hB
end
/-! The steps of a run, as rewrites: what stands behind a step is data alone, so that nothing is run ahead of its time. -/
inductive Stk where
 | nil
 | seq (c : ACode) (s : Stk)
 | blk (id : Nat) (s : Stk)
 | lp (c : ACode) (s : Stk)
def stkQ (P : Program) (n : Cfg) (Q : Exit → Env → St → Prop) : Stk → Exit → Env → St → Prop
 | .nil => Q
 | .seq c s => thenQ (cwp P n c (stkQ P n Q s)) (stkQ P n Q s)
 | .blk id s => inBlockQ id (stkQ P n Q s)
 | .lp c s => thenQ (AWpL P n c (stkQ P n Q s)) (stkQ P n Q s)
def pK (P : Program) (x : Option Value) (d : Option Nat) (r : ATree) (t : Env) (S : St) (K : Env → St → Prop) : Prop := optV x fun v => treeWp P r (t.put d v) S K
def hK (P : Program) (x : Option (Value × St)) (d : Option Nat) (r : ATree) (t : Env) (K : Env → St → Prop) : Prop := optWp x fun v S' => treeWp P r (t.put d v) S' K
def cK (P : Program) (f : FuncId) (args : List Value) (S : St) (d : Option Nat) (r : ATree) (t : Env) (K : Env → St → Prop) : Prop := ACalls P f args S fun v S' => treeWp P r (t.put d v) S' K
def vK (P : Program) (x : Value) (args : List Value) (S : St) (d : Option Nat) (r : ATree) (t : Env) (K : Env → St → Prop) : Prop :=
 match x with
 | .func (.func f) first captured => enters P f = true ∧ cK P f (first.toList ++ args ++ captured.toList) S d r t K
 | _ => False
def mK (P : Program) (x : Value) (name : String) (args : List Value) (S : St) (d : Option Nat) (r : ATree) (t : Env) (K : Env → St → Prop) : Prop :=
 match x with
 | .iface ty v => match methA P S ty v name with
  | some (f, rv) => enters P f = true ∧ cK P f (rv :: args) S d r t K
  | none => False
 | _ => False
def gK (P : Program) (b : Bool) (d : Option Nat) (o : BOp) (r : ATree) (t : Env) (S : St) (K : Env → St → Prop) : Prop :=
 if b = true then treeWp P (.op ⟨d, o, none⟩ r) t S K else treeWp P r (t.put d undef) S K
def iK (P : Program) (n : Cfg) (x : Value) (a b : ACode) (Q : Exit → Env → St → Prop) (s : Stk) (t : Env) (S : St) : Prop := condWp x (cwp P n a (stkQ P n Q s) t S) (cwp P n b (stkQ P n Q s) t S)
def lK (P : Program) (n : Cfg) (b : ACode) (Q : Exit → Env → St → Prop) (s : Stk) (t : Env) (S : St) : Prop := AWpL P n b (stkQ P n Q s) t S
def xK (id id' : Nat) (P : Program) (n : Cfg) (Q : Exit → Env → St → Prop) (s : Stk) (t : Env) (S : St) : Prop := if id' = id then stkQ P n Q s .normal t S else stkQ P n Q s (.exit id') t S
section
variable {P : Program} {n : Cfg} {Q : Exit → Env → St → Prop} {K : Env → St → Prop} {t : Env} {S : St} {s : Stk} {d : Option Nat} {r : ATree}
theorem k_skip : cwp P n .skip (stkQ P n Q s) t S = stkQ P n Q s .normal t S := by unfold cwp; rfl
theorem k_reg {tr : ATree} : cwp P n (.reg tr) (stkQ P n Q s) t S = treeWp P tr t S (stkQ P n Q s .normal) := by unfold cwp; rfl
theorem k_seq {a b : ACode} : cwp P n (.seq a b) (stkQ P n Q s) t S = cwp P n a (stkQ P n Q (.seq b s)) t S := by rw [cwp, stkQ]
theorem k_cond {c : Operand} {a b : ACode} : cwp P n (.cond c a b) (stkQ P n Q s) t S = iK P n (ev t c) a b Q s t S := by rw [cwp, iK]
theorem k_block {id : Nat} {b : ACode} : cwp P n (.block id b) (stkQ P n Q s) t S = cwp P n b (stkQ P n Q (.blk id s)) t S := by rw [cwp, stkQ]
theorem k_loop {b : ACode} : cwp P n (.loop b) (stkQ P n Q s) t S = lK P n b Q s t S := by rw [cwp, lK]
theorem k_exit {id : Nat} : cwp P n (.exit id) (stkQ P n Q s) t S = stkQ P n Q s (.exit id) t S := by rw [cwp]
theorem k_ret : cwp P n .ret (stkQ P n Q s) t S = stkQ P n Q s .ret t S := by rw [cwp]
theorem k_lp_normal {c : ACode} : stkQ P n Q (.lp c s) .normal t S = lK P n c Q s t S := by rw [stkQ, thenQ]; rfl
theorem k_lp_exit {c : ACode} {id : Nat} : stkQ P n Q (.lp c s) (.exit id) t S = stkQ P n Q s (.exit id) t S := by rw [stkQ, thenQ]; intro h; cases h
theorem k_lp_ret {c : ACode} : stkQ P n Q (.lp c s) .ret t S = stkQ P n Q s .ret t S := by rw [stkQ, thenQ]; intro h; cases h
/-- One round of a loop. -/
theorem lK_unroll {b : ACode} (h : cwp P n b (stkQ P n Q (.lp b s)) t S) : lK P n b Q s t S := AWpL.unroll (.of_cwp _ (by rw [stkQ] at h; exact h))
theorem k_nil {e : Exit} : stkQ P n Q .nil e t S = Q e t S := by unfold stkQ; rfl
theorem k_seq_normal {c : ACode} : stkQ P n Q (.seq c s) .normal t S = cwp P n c (stkQ P n Q s) t S := by rw [stkQ, thenQ]
theorem k_seq_exit {c : ACode} {id : Nat} : stkQ P n Q (.seq c s) (.exit id) t S = stkQ P n Q s (.exit id) t S := by rw [stkQ, thenQ]; intro h; cases h
theorem k_seq_ret {c : ACode} : stkQ P n Q (.seq c s) .ret t S = stkQ P n Q s .ret t S := by rw [stkQ, thenQ]; intro h; cases h
theorem k_blk_normal {id : Nat} : stkQ P n Q (.blk id s) .normal t S = stkQ P n Q s .normal t S := by rw [stkQ]; unfold inBlockQ; rfl
theorem k_blk_exit {id id' : Nat} : stkQ P n Q (.blk id s) (.exit id') t S = xK id id' P n Q s t S := by rw [stkQ]; unfold inBlockQ xK; rfl
theorem k_blk_ret {id : Nat} : stkQ P n Q (.blk id s) .ret t S = stkQ P n Q s .ret t S := by rw [stkQ]; unfold inBlockQ; rfl
theorem k_x_same {id : Nat} : xK id id P n Q s t S = stkQ P n Q s .normal t S := by unfold xK; rw [if_pos rfl]
theorem k_x_other {id id' : Nat} (h : (id' == id) = false) : xK id id' P n Q s t S = stkQ P n Q s (.exit id') t S := by unfold xK; rw [if_neg (by simpa using h)]
theorem k_i_true {a b : ACode} : iK P n (.bool true) a b Q s t S = cwp P n a (stkQ P n Q s) t S := by simp [iK, condWp]
theorem k_i_false {a b : ACode} : iK P n (.bool false) a b Q s t S = cwp P n b (stkQ P n Q s) t S := by simp [iK, condWp]
theorem iK_split {a b : ACode} {c : Bool} (h1 : c = true → cwp P n a (stkQ P n Q s) t S) (h2 : c = false → cwp P n b (stkQ P n Q s) t S) : iK P n (.bool c) a b Q s t S := by
 cases c
 ·rw [k_i_false]; exact h2 rfl
 ·rw [k_i_true]; exact h1 rfl
/-- What both branches come to. -/
theorem iK_cut {x : Value} {a b : ACode} (M : Env → St → Prop) (h : ∀ Q1 : Exit → Env → St → Prop, (∀ t' S', M t' S' → Q1 .normal t' S') → (∀ e t' S', e ≠ .normal → stkQ P n Q s e t' S' → Q1 e t' S') → iK P n x a b Q1 .nil t S)
  (k : ∀ t' S', M t' S' → stkQ P n Q s .normal t' S') : iK P n x a b Q s t S := by
 have := h (stkQ P n Q s) k (fun _ _ _ _ h => h)
 unfold iK at this ⊢
 exact this
theorem k_done {K : Env → St → Prop} : treeWp P .done t S K = K t S := by unfold treeWp; rfl
theorem k_both {l r : ATree} : treeWp P (.both l r) t S K = (treeWp P l t S K ∧ treeWp P r t S K) := by rw [treeWp]
theorem k_p {o : PO} : treeWp P (.op ⟨d, .p o, none⟩ r) t S K = pK P (apure (ev t) o) d r t S K := by rw [treeWp]; simp only [opWp, guardB, if_true, bodyWp, pK]
theorem k_h {o : HO} : treeWp P (.op ⟨d, .h o, none⟩ r) t S K = hK P (aheap (ev t) S o) d r t K := by rw [treeWp]; simp only [opWp, guardB, if_true, bodyWp, hK]
theorem k_call {f : Nat} {args : List Operand} : treeWp P (.op ⟨d, .call f args, none⟩ r) t S K = cK P f (args.map (ev t)) S d r t K := by rw [treeWp]; simp only [opWp, guardB, if_true, bodyWp, cK]
theorem k_callv {x : Operand} {args : List Operand} : treeWp P (.op ⟨d, .callv x args, none⟩ r) t S K = vK P (ev t x) (args.map (ev t)) S d r t K := by rw [treeWp]; simp only [opWp, guardB, if_true, bodyWp, vK, cK]; rfl
theorem k_g {o : BOp} {g : Nat} {want : Bool} : treeWp P (.op ⟨d, o, some (g, want)⟩ r) t S K = gK P (guardB (some (g, want)) t) d o r t S K := by
 rw [treeWp]; unfold gK; rw [treeWp]; simp only [opWp, guardB, if_true]; rfl
theorem k_l {o : LO} : treeWp P (.op ⟨d, .l o, none⟩ r) t S K = pK P (lval t o) (o.tgt d) r (t.clr o.clr) S K := by rw [treeWp]; simp only [opWp, guardB, if_true, pK]
theorem k_lnew {e : Nat} {z : List Value} : treeWp P (.op ⟨d, .l (.new e none z), none⟩ r) t S K = pK P (lnewV (t e) none z) (some e) r t S K := by rw [k_l]; simp only [lval, LO.tgt, LO.clr, Option.getD_none, Env.clr_nil]
theorem k_lnew2 {e : Nat} {es : List Nat} {z : List Value} : treeWp P (.op ⟨d, .l (.new e (some es) z), none⟩ r) t S K = pK P (some (.agg z.toArray)) (some e) r (t.clr es) S K := by rw [k_l]; simp only [lval, LO.tgt, LO.clr, Option.getD_some, lnewV]
theorem k_lbox {e : Nat} {x : Operand} : treeWp P (.op ⟨d, .l (.box e none x), none⟩ r) t S K = pK P (if storable (ev t x) = true then lnewV (t e) none (ev t x).cells.toList else none) (some e) r t S K := by rw [k_l]; simp only [lval, LO.tgt, LO.clr, Option.getD_none, Env.clr_nil]
theorem k_lbox2 {e : Nat} {es : List Nat} {x : Operand} : treeWp P (.op ⟨d, .l (.box e (some es) x), none⟩ r) t S K = pK P (if storable (ev t x) = true then some (.agg (ev t x).cells) else none) (some e) r (t.clr es) S K := by rw [k_l]; simp only [lval, LO.tgt, LO.clr, Option.getD_some, lnewV, Array.toArray_toList]
theorem k_laddr {s' e off : Nat} : treeWp P (.op ⟨d, .l (.addr s' e off), none⟩ r) t S K = pK P (laddrV (t e) (offOf t s' e) off) d r t S K := by rw [k_l]; simp only [lval, LO.tgt, LO.clr, Env.clr_nil]
theorem k_lidx {s' e len esz : Nat} {i : Operand} : treeWp P (.op ⟨d, .l (.idx s' e len esz i), none⟩ r) t S K = pK P (lidxV (t e) (offOf t s' e) len esz (ev t i)) d r t S K := by rw [k_l]; simp only [lval, LO.tgt, LO.clr, Env.clr_nil]
theorem k_lload {s' e sz : Nat} {ag : Bool} : treeWp P (.op ⟨d, .l (.load s' e sz ag), none⟩ r) t S K = pK P (lloadV (t e) (offOf t s' e) sz ag) d r t S K := by rw [k_l]; simp only [lval, LO.tgt, LO.clr, Env.clr_nil]
theorem k_lstore {s' e sz : Nat} {x : Operand} : treeWp P (.op ⟨d, .l (.store s' e sz x), none⟩ r) t S K = pK P (lstoreV (t e) (offOf t s' e) sz (ev t x)) (some e) r t S K := by rw [k_l]; simp only [lval, LO.tgt, LO.clr, Env.clr_nil]
theorem k_chk {ps : List Pend} : treeWp P (.chk ps r) t S K = (pendsOk t S ps ∧ treeWp P r t S K) := by rw [treeWp]
theorem k_pend_nil : pendsOk t S [] = True := by unfold pendsOk; rfl
theorem k_pend_cons {p : Pend} {ps : List Pend} : pendsOk t S (p :: ps) = (pendOk t S p ∧ pendsOk t S ps) := by rw [pendsOk]
theorem k_pend {d : Nat} {o : HO} : pendOk t S ⟨d, o, none⟩ = (pendV t S o = some (t d)) := by unfold pendOk guardB; simp only [if_true]
theorem k_pend_g {d : Nat} {o : HO} {g : Nat} {want : Bool} : pendOk t S ⟨d, o, some (g, want)⟩ = (if guardB (some (g, want)) t = true then pendV t S o = some (t d) else t d = undef) := by unfold pendOk; rfl
theorem k_guard {g : Nat} {want : Bool} : guardB (some (g, want)) t = match t g with | .bool b => b == want | _ => false := by unfold guardB; rfl
theorem k_p_some {v : Value} : pK P (some v) d r t S K = treeWp P r (t.put d v) S K := by unfold pK optV; rfl
theorem k_h_some {v : Value} {S' : St} : hK P (some (v, S')) d r t K = treeWp P r (t.put d v) S' K := by unfold hK optWp; rfl
theorem k_g_true {o : BOp} : gK P true d o r t S K = treeWp P (.op ⟨d, o, none⟩ r) t S K := by unfold gK; rw [if_pos rfl]
theorem k_g_false {o : BOp} : gK P false d o r t S K = treeWp P r (t.put d undef) S K := by unfold gK; rw [if_neg (by simp)]
theorem gK_split {o : BOp} {c : Bool} (h1 : c = true → treeWp P (.op ⟨d, o, none⟩ r) t S K) (h2 : c = false → treeWp P r (t.put d undef) S K) : gK P c d o r t S K := by
 cases c
 ·rw [k_g_false]; exact h2 rfl
 ·rw [k_g_true]; exact h1 rfl
theorem gK_splitN {o : BOp} {c : Bool} (h1 : c = false → treeWp P (.op ⟨d, o, none⟩ r) t S K) (h2 : c = true → treeWp P r (t.put d undef) S K) : gK P (!c) d o r t S K := by
 cases c
 ·exact (k_g_true (d := d) (r := r)).symm ▸ h1 rfl
 ·exact (k_g_false (d := d) (r := r)).symm ▸ h2 rfl
theorem k_v {f : Nat} {fst cap : Array Value} {args : List Value} : vK P (.func (.func f) fst cap) args S d r t K = (enters P f = true ∧ cK P f (fst.toList ++ args ++ cap.toList) S d r t K) := by simp [vK]
theorem k_inv {x : Operand} {name : String} {args : List Operand} : treeWp P (.op ⟨d, .inv x name args, none⟩ r) t S K = mK P (ev t x) name (args.map (ev t)) S d r t K := by
 rw [treeWp]
 simp only [opWp, guardB, if_true, bodyWp, mK, cK]
 rfl
theorem cK_of {f : FuncId} {args : List Value} {R : Value → St → Prop} (h : ACalls P f args S R) (k : ∀ v S', S.next ≤ S'.next → Live S' → R v S' → treeWp P r (t.put d v) S' K) : cK P f args S d r t K := h.live.mono fun v S' h1 h2 => k v S' h1 h2.1 h2.2
theorem hK_of {x : Option (Value × St)} {R : Value → St → Prop} (h : optWp x R) (k : ∀ v S', R v S' → treeWp P r (t.put d v) S' K) : hK P x d r t K := by
 unfold hK
 unfold optWp at h ⊢
 split at h
 ·exact k _ _ h
 ·exact h.elim
theorem lK_of {b : ACode} (I : Env → St → Prop) (μ : Env → St → Nat) (h0 : I t S)
  (round : ∀ t1 S1 Q1, I t1 S1 → Live S1 → (∀ t' S', I t' S' → μ t' S' < μ t1 S1 → Q1 .normal t' S') → (∀ e t' S', e ≠ .normal → stkQ P n Q s e t' S' → Q1 e t' S') → cwp P n b (stkQ P n Q1 .nil) t1 S1) : lK P n b Q s t S := by
 refine AWpL.loop I μ (fun t1 S1 hI => .of_live fun hL => .of_cwp _ ?_) _ t S rfl h0
 refine round t1 S1 _ hI hL (fun t' S' h1 h2 => ?_) (fun e t' S' he h => ?_)
 ·exact ⟨h1, h2⟩
 ·cases e <;> first | exact absurd rfl he | exact h
/-! Short forms, for printed code. -/
def oP (d : Nat) (o : PO) (r : ATree) : ATree := .op ⟨some d, .p o, none⟩ r
def oM (d x : Nat) (r : ATree) : ATree := .op ⟨some d, .p (.mov (.tmp x)), none⟩ r
def oG (g : Nat) (w : Bool) (d : Nat) (o : PO) (r : ATree) : ATree := .op ⟨some d, .p o, some (g, w)⟩ r
def oH (d : Nat) (o : HO) (r : ATree) : ATree := .op ⟨some d, .h o, none⟩ r
def oS (sz : Nat) (x v : Operand) (r : ATree) : ATree := .op ⟨none, .h (.store sz x v), none⟩ r
def oC (d f : Nat) (args : List Operand) (r : ATree) : ATree := .op ⟨some d, .call f args, none⟩ r
def oA (d s b o : Nat) (r : ATree) : ATree := .op ⟨some d, .l (.addr s b o), none⟩ r
def oL (d s b sz : Nat) (ag : Bool) (r : ATree) : ATree := .op ⟨some d, .l (.load s b sz ag), none⟩ r
def oW (s b sz : Nat) (v : Operand) (r : ATree) : ATree := .op ⟨none, .l (.store s b sz v), none⟩ r
def cI (n : Int) : Operand := .const (.int .i64 n)
def cB (b : Bool) : Operand := .const (.bool b)
theorem ev_cI (n : Int) : ev t (cI n) = .int .i64 n := by unfold cI ev; rfl
theorem ev_cB (b : Bool) : ev t (cB b) = .bool b := by unfold cB ev; rfl
theorem ev_tmp (i : Nat) : ev t (.tmp i) = t i := by unfold ev; rfl
theorem ev_const (v : Value) : ev t (.const v) = v := by unfold ev; rfl
theorem ev_func (f : Nat) : ev t (.func f) = .func (.func f) #[] #[] := by unfold ev; rfl
theorem ev_cI' (n : Int) : ev t (cI n) = .int .i64 n := ev_cI n
theorem ev_cB' (b : Bool) : ev t (cB b) = .bool b := ev_cB b
theorem k_oP {d : Nat} {o : PO} : treeWp P (oP d o r) t S K = pK P (apure (ev t) o) (some d) r t S K := k_p
theorem k_oM {d x : Nat} : treeWp P (oM d x r) t S K = treeWp P r (t.put (some d) (t x)) S K := by unfold oM; rw [k_p, pK]; rfl
theorem k_oG {g : Nat} {w : Bool} {d : Nat} {o : PO} : treeWp P (oG g w d o r) t S K = gK P (guardB (some (g, w)) t) (some d) (.p o) r t S K := k_g
theorem k_oH {d : Nat} {o : HO} : treeWp P (oH d o r) t S K = hK P (aheap (ev t) S o) (some d) r t K := k_h
theorem k_oS {sz : Nat} {x v : Operand} : treeWp P (oS sz x v r) t S K = hK P (aheap (ev t) S (.store sz x v)) none r t K := k_h
theorem k_oC {d f : Nat} {args : List Operand} : treeWp P (oC d f args r) t S K = cK P f (args.map (ev t)) S (some d) r t K := k_call
theorem k_oA {d s' e off : Nat} : treeWp P (oA d s' e off r) t S K = pK P (laddrV (t e) (offOf t s' e) off) (some d) r t S K := k_laddr
theorem k_oL {d s' e sz : Nat} {ag : Bool} : treeWp P (oL d s' e sz ag r) t S K = pK P (lloadV (t e) (offOf t s' e) sz ag) (some d) r t S K := k_lload
theorem k_oW {s' e sz : Nat} {x : Operand} : treeWp P (oW s' e sz x r) t S K = pK P (lstoreV (t e) (offOf t s' e) sz (ev t x)) (some e) r t S K := k_lstore
theorem ow_all : ∀ (vs cs : List Value), vs.length = cs.length → ow cs 0 vs = vs := by
 have key : ∀ (vs pre cs : List Value), vs.length = cs.length → ow (pre ++ cs) pre.length vs = pre ++ vs := by
  intro vs
  induction vs with
  | nil => intro pre cs h; rw [List.eq_nil_of_length_eq_zero h.symm]; rfl
  | cons v vs ih =>
   intro pre cs h
   cases cs with
   | nil => simp at h
   | cons c cs =>
    have := ih (pre ++ [v]) cs (by simpa using h)
    simp only [ow]
    rw [List.set_append, if_neg (by omega)]
    simpa using this
 intro vs cs h
 simpa using key vs [] cs h
/-- A store over all of a local. -/
theorem lstoreV_full {xs : Array Value} {x : Value} {sz : Nat} (h1 : xs.toList.length = sz) (h2 : x.cells.toList.length = sz) : lstoreV (.agg xs) (some 0) sz x = if storable x = true then some (.agg x.cells) else none := by
 unfold lstoreV aliveV
 simp only
 split
 ·rename_i h
  rw [if_pos h.2.2, ow_all _ _ (by omega)]
 ·rename_i h
  rw [if_neg fun h3 => h ⟨h2, by omega, h3⟩]
theorem lloadV_agg (xs : Array Value) (o sz : Nat) (ag : Bool) : lloadV (.agg xs) (some o) sz ag = partL ag o sz xs.toList := by unfold lloadV aliveV; rfl
theorem lstoreV_agg (xs : Array Value) (o sz : Nat) (x : Value) : lstoreV (.agg xs) (some o) sz x = if x.cells.toList.length = sz ∧ o + sz ≤ xs.toList.length ∧ storable x = true then some (.agg (ow xs.toList o x.cells.toList).toArray) else none := by unfold lstoreV aliveV; rfl
theorem laddrV_agg (xs : Array Value) (o off : Nat) : laddrV (.agg xs) (some o) off = some (.int .i64 ((o + off : Nat) : Int)) := by unfold laddrV aliveV; rfl
theorem lidxV_agg (xs : Array Value) (o len esz : Nat) (k : IntKind) (i : Int) : lidxV (.agg xs) (some o) len esz (.int k i) = if 0 ≤ i ∧ i < (len : Int) then some (.int .i64 ((o + i.toNat * esz : Nat) : Int)) else none := by unfold lidxV aliveV; rfl
theorem lnewV_again (v : Value) (es : List Nat) (z : List Value) : lnewV v (some es) z = some (.agg z.toArray) := by unfold lnewV; rfl
theorem lnewV_undef (z : List Value) : lnewV undef none z = some (.agg z.toArray) := by unfold lnewV aliveV undef; rfl
theorem offV_nat (k : IntKind) (n : Nat) : offV (.int k (n : Int)) = some n := by simp [offV]
theorem offV_lit (k : IntKind) (n : Nat) : offV (.int k (no_index (@OfNat.ofNat Int n instOfNat))) = some n := offV_nat k n
theorem i64_wrap_id (n : Int) (h1 : -9223372036854775808 ≤ n) (h2 : n ≤ 9223372036854775807) : IntKind.i64.wrap n = n := by
 rw [IntKind.wrap_i64]
 omega
/-- What holds of some places. -/
def Slots (t : Env) : List (Nat × Value) → Prop
 | [] => True
 | (i, v) :: r => t i = v ∧ Slots t r
theorem slots_nil : Slots t [] = True := by unfold Slots; rfl
theorem slots_cons {i : Nat} {v : Value} {r : List (Nat × Value)} : Slots t ((i, v) :: r) = (t i = v ∧ Slots t r) := by rw [Slots]
def retQ (R : Value → St → Prop) (S : St) (vs : Option (List Value)) : Prop := match vs with | some vs => R (oneOr vs) S | none => False
theorem retQ_some (R : Value → St → Prop) (S : St) (vs : List Value) : retQ R S (some vs) = R (oneOr vs) S := by unfold retQ; rfl
theorem k_body_normal {rs : List ARes} {R : Value → St → Prop} : bodyQ rs R .normal t S = retQ R S (resVals t S rs) := by unfold bodyQ retQ; rfl
theorem k_body_ret {rs : List ARes} {R : Value → St → Prop} : bodyQ rs R .ret t S = retQ R S (resVals t S rs) := by unfold bodyQ retQ; rfl
end
section
variable {P : Program} {f : FuncId} {args : List Value} {S : St} {R : Value → St → Prop}
/-- A call by its code, run. -/
theorem ACalls.run {fn : Func} {af : AFun} (hm : P.follows .mixedOrders = true) (hf : P.funcs[f]? = some fn) (hc : compF P af.cfg.pm af.cfg.lz fn = some af) (hok : af.ok = true) (hl : af.free args.length = true)
  (h : Live S → ∀ Q : Exit → Env → St → Prop, (∀ e t S', bodyQ af.results R e t S' → Q e t S') → cwp P af.cfg af.body (stkQ P af.cfg Q .nil) (entry args) S) : ACalls P f args S R :=
 .of_live fun hL => .of_body hm hf hc hok hl (.of_cwp _ (h hL _ fun _ _ _ h => h))
end
theorem St.blk_new (S : St) (b : Blk) (i : Nat) : (S.new b).blk i = if i = S.next then some b else S.blk i := rfl
theorem St.blk_set (S : St) (id : Nat) (b : Blk) (i : Nat) : (S.set id b).blk i = if i = id then some b else S.blk i := rfl
theorem St.blk_kill (S : St) (id i : Nat) : (S.kill id).blk i = if i = id then none else S.blk i := rfl
theorem St.next_new (S : St) (b : Blk) : (S.new b).next = S.next + 1 := rfl
theorem St.next_set (S : St) (id : Nat) (b : Blk) : (S.set id b).next = S.next := rfl
theorem St.next_kill (S : St) (id : Nat) : (S.kill id).next = S.next := rfl
theorem Live.set {S : St} (h : Live S) (id : Nat) (b : Blk) (hid : id < S.next) : Live (S.set id b) := fun i c hc => by
 rw [St.blk_set] at hc
 split at hc
 ·rename_i e; rw [e]; exact hid
 ·exact h i c hc
theorem Live.new {S : St} (h : Live S) (b : Blk) : Live (S.new b) := fun i c hc => by
 rw [St.blk_new] at hc
 rw [St.next_new]
 split at hc
 ·omega
 ·have := h i c hc; omega
theorem Live.kill {S : St} (h : Live S) (id : Nat) : Live (S.kill id) := fun i c hc => by
 rw [St.blk_kill] at hc
 rw [St.next_kill]
 split at hc
 ·cases hc
 ·exact h i c hc
theorem append_live {S : St} {esz bytes : Nat} {x y : Value} {R : Value → St → Prop} (hL : Live S) (h : optWp (doAppend esz bytes x y S) R) : optWp (doAppend esz bytes x y S) fun v S' => Live S' ∧ R v S' := by
 cases hd : doAppend esz bytes x y S with
 | none => rw [hd] at h; exact h
 | some p =>
  rw [hd] at h
  refine ⟨?_, h⟩
  unfold doAppend at hd
  split at hd
  ·cases hd; exact hL
  ·split at hd
   ·cases hd; exact hL
   ·split at hd
    ·split at hd
     ·cases hd
     ·split at hd
      ·split at hd
       ·cases hd; exact hL.new _
       ·cases hd
      ·split at hd
       ·split at hd
        ·cases hd; exact (hL.kill _).new _
        ·cases hd
       ·cases hd
      ·cases hd
    ·cases hd
  ·cases hd
theorem rd_new (S : St) (b : Blk) (i o : Nat) : rd (S.new b) i o = if i = S.next then b.cells[o]? else rd S i o := by
 unfold rd; rw [St.blk_new]; by_cases h : i = S.next <;> simp [h]
theorem rd_set (S : St) (id : Nat) (b : Blk) (i o : Nat) : rd (S.set id b) i o = if i = id then b.cells[o]? else rd S i o := by
 unfold rd; rw [St.blk_set]; by_cases h : i = id <;> simp [h]
theorem rd_of_blk {S : St} {i : Nat} {b : Blk} (h : S.blk i = some b) (o : Nat) : rd S i o = b.cells[o]? := by unfold rd; rw [h]
theorem ldv_false (S : St) (i o sz : Nat) : ldv S false i o sz = rd S i o := rfl
theorem ldv_true (S : St) (i o sz : Nat) : ldv S true i o sz = (cellsOf S i o sz).map fun cs => .agg cs.toArray := rfl
theorem cellsOf_of_blk {S : St} {i : Nat} {b : Blk} (h : S.blk i = some b) (o k : Nat) : cellsOf S i o k = if o + k ≤ b.cells.length then some ((b.cells.drop o).take k) else none := by unfold cellsOf; rw [h]
theorem cellsOf_congr {S S' : St} {d : Nat} (h : S'.blk d = S.blk d) (o k : Nat) : cellsOf S' d o k = cellsOf S d o k := by unfold cellsOf; rw [h]
theorem rd_congr {S S' : St} {d : Nat} (h : S'.blk d = S.blk d) (o : Nat) : rd S' d o = rd S d o := by unfold rd; rw [h]
theorem cellsOf_new (S : St) (b : Blk) (i o k : Nat) : cellsOf (S.new b) i o k = if i = S.next then (if o + k ≤ b.cells.length then some ((b.cells.drop o).take k) else none) else cellsOf S i o k := by
 unfold cellsOf; rw [St.blk_new]; by_cases h : i = S.next <;> simp [h]
theorem cellsOf_set (S : St) (id : Nat) (b : Blk) (i o k : Nat) : cellsOf (S.set id b) i o k = if i = id then (if o + k ≤ b.cells.length then some ((b.cells.drop o).take k) else none) else cellsOf S i o k := by
 unfold cellsOf; rw [St.blk_set]; by_cases h : i = id <;> simp [h]
theorem cellsOf_some {S : St} {d o k : Nat} {cs : List Value} (h : cellsOf S d o k = some cs) : ∃ b, S.blk d = some b ∧ o + k ≤ b.cells.length ∧ cs = (b.cells.drop o).take k ∧ cs.length = k := by
 unfold cellsOf at h
 split at h
 case h_2 => cases h
 rename_i b hb
 split at h
 case isFalse => cases h
 rename_i hl
 cases h
 exact ⟨b, hb, hl, rfl, by simp; omega⟩
/-- A cell of what a slice covers. -/
theorem rd_of_cells {S : St} {d o k : Nat} {cs : List Value} (h : cellsOf S d o k = some cs) {j : Nat} (hj : j < k) : rd S d (o + j) = cs[j]? := by
 obtain ⟨b, hb, hl, rfl, _⟩ := cellsOf_some h
 rw [rd_of_blk hb, List.getElem?_take, if_pos hj, List.getElem?_drop]
theorem cellsOf_of_cells {S : St} {d o k : Nat} {cs : List Value} (h : cellsOf S d o k = some cs) {j n : Nat} (hj : j + n ≤ k) : cellsOf S d (o + j) n = some ((cs.drop j).take n) := by
 obtain ⟨b, hb, hl, rfl, _⟩ := cellsOf_some h
 rw [cellsOf_of_blk hb, if_pos (by omega)]
 congr 1
 rw [List.drop_take, List.take_take, List.drop_drop, Nat.min_eq_left (by omega)]
/-- What a step leaves alone. -/
def Keeps (S S' : St) (P : Nat → Prop) : Prop := S.next ≤ S'.next ∧ ∀ i, i < S.next → P i → S'.blk i = S.blk i
abbrev KeepsAll (S S' : St) : Prop := Keeps S S' fun _ => True
theorem Keeps.refl (S : St) (P : Nat → Prop) : Keeps S S P := ⟨Nat.le_refl _, fun _ _ _ => rfl⟩
theorem Keeps.trans {S S' S'' : St} {P Q : Nat → Prop} (h : Keeps S S' P) (k : Keeps S' S'' Q) (hPQ : ∀ i, i < S.next → P i → Q i) : Keeps S S'' P :=
 ⟨Nat.le_trans h.1 k.1, fun i hi hp => (k.2 i (Nat.lt_of_lt_of_le hi h.1) (hPQ i hi hp)).trans (h.2 i hi hp)⟩
theorem Keeps.mono {S S' : St} {P Q : Nat → Prop} (h : Keeps S S' P) (hPQ : ∀ i, i < S.next → Q i → P i) : Keeps S S' Q := ⟨h.1, fun i hi hq => h.2 i hi (hPQ i hi hq)⟩
theorem Keeps.all {S S' : St} {P : Nat → Prop} (h : KeepsAll S S') : Keeps S S' P := h.mono fun _ _ _ => trivial
theorem Keeps.of_new (S : St) (b : Blk) (P : Nat → Prop) : Keeps S (S.new b) P := ⟨by simp [St.next_new], fun i hi _ => by simp [St.blk_new, Nat.ne_of_lt hi]⟩
theorem Keeps.new {S S' : St} {P : Nat → Prop} (h : Keeps S S' P) (b : Blk) : Keeps S (S'.new b) P :=
 h.trans (Keeps.of_new S' b fun _ => True) (fun _ _ _ => trivial)
theorem Keeps.set {S S' : St} {P : Nat → Prop} (h : Keeps S S' P) {id : Nat} (hid : ∀ i, i < S.next → P i → i ≠ id) (b : Blk) : Keeps S (S'.set id b) P :=
 ⟨h.1, fun i hi hp => by rw [St.blk_set, if_neg (hid i hi hp)]; exact h.2 i hi hp⟩
def Value.blkOf : Value → Option Nat
 | .slice (some a) _ _ => some a.block
 | .pointer (some a) => some a.block
 | _ => none
/-- A slice of n elements, each of so many cells, that reads as told. -/
def Sl (S : St) (esz : Nat) (v : Value) (n : Nat) (cs : List Value) : Prop :=
 (v = .slice none 0 0 ∧ n = 0 ∧ cs = []) ∨ ∃ d o e, v = .slice (some ⟨d, o, none⟩) n e ∧ (e = 0 ∨ e = esz) ∧ cellsOf S d o (n * esz) = some cs
/-- A slice that is all of a block of the call's own. -/
def Own (S : St) (esz : Nat) (v : Value) (n : Nat) (cs : List Value) : Prop :=
 (v = .slice none 0 0 ∧ n = 0 ∧ cs = []) ∨ ∃ d, v = .slice (some ⟨d, 0, none⟩) n esz ∧ S.blk d = some ⟨false, cs⟩ ∧ cs.length = n * esz
theorem Own.sl {S : St} {esz n : Nat} {v : Value} {cs : List Value} (h : Own S esz v n cs) : Sl S esz v n cs := by
 rcases h with h | ⟨d, rfl, hb, hl⟩
 ·exact .inl h
 ·exact .inr ⟨d, 0, esz, rfl, .inr rfl, by rw [cellsOf_of_blk hb, if_pos (by simp; omega)]; simp [← hl]⟩
theorem Sl.len {S : St} {esz n : Nat} {v : Value} {cs : List Value} (h : Sl S esz v n cs) : cs.length = n * esz := by
 rcases h with ⟨rfl, rfl, rfl⟩ | ⟨d, o, e, rfl, he, hc⟩
 ·simp
 ·exact (cellsOf_some hc).choose_spec.2.2.2
theorem Sl.keep {S S' : St} {esz n : Nat} {v : Value} {cs : List Value} (h : Sl S esz v n cs) (hk : ∀ d, Value.blkOf v = some d → S'.blk d = S.blk d) : Sl S' esz v n cs := by
 rcases h with h | ⟨d, o, e, rfl, he, hc⟩
 ·exact .inl h
 ·exact .inr ⟨d, o, e, rfl, he, by rw [cellsOf_congr (hk d rfl)]; exact hc⟩
theorem Own.keep {S S' : St} {esz n : Nat} {v : Value} {cs : List Value} (h : Own S esz v n cs) (hk : ∀ d, Value.blkOf v = some d → S'.blk d = S.blk d) : Own S' esz v n cs := by
 rcases h with h | ⟨d, rfl, hb, hl⟩
 ·exact .inl h
 ·exact .inr ⟨d, rfl, by rw [hk d rfl]; exact hb, hl⟩
theorem Sl.lt {S : St} (hL : Live S) {esz n : Nat} {v : Value} {cs : List Value} (h : Sl S esz v n cs) {d : Nat} (hd : Value.blkOf v = some d) : d < S.next := by
 rcases h with ⟨rfl, _⟩ | ⟨d', o, e, rfl, he, hc⟩
 ·simp [Value.blkOf] at hd
 ·simp [Value.blkOf] at hd
  subst hd
  obtain ⟨b, hb, _⟩ := cellsOf_some hc
  exact hL _ _ hb
theorem Sl.keeps {S S' : St} {P : Nat → Prop} (hL : Live S) {esz n : Nat} {v : Value} {cs : List Value} (h : Sl S esz v n cs) (hk : Keeps S S' P) (hP : ∀ d, Value.blkOf v = some d → P d) : Sl S' esz v n cs :=
 h.keep fun d hd => hk.2 d (h.lt hL hd) (hP d hd)
theorem Own.keeps {S S' : St} {P : Nat → Prop} (hL : Live S) {esz n : Nat} {v : Value} {cs : List Value} (h : Own S esz v n cs) (hk : Keeps S S' P) (hP : ∀ d, Value.blkOf v = some d → P d) : Own S' esz v n cs :=
 h.keep fun d hd => hk.2 d (h.sl.lt hL hd) (hP d hd)
theorem Sl.slice {S : St} {esz n : Nat} {v : Value} {cs : List Value} (h : Sl S esz v n cs) : ∃ a e, v = .slice a n e := by
 rcases h with ⟨rfl, rfl, rfl⟩ | ⟨d, o, e, rfl, he, hc⟩ <;> exact ⟨_, _, rfl⟩
/-- An append onto a slice of the call's own. -/
theorem append_own {S : St} {esz bytes n k : Nat} {x y : Value} {cs ds : List Value} (h0 : 0 < esz) (hx : Own S esz x n cs) (hy : Sl S esz y k ds) (hb : (n + k) * bytes ≤ 1099511627776) {R : Value → St → Prop}
  (h : ∀ v S', Own S' esz v (n + k) (cs ++ ds) → Keeps S S' (fun i => Value.blkOf x ≠ some i) → (∀ i, Value.blkOf v = some i → Value.blkOf x = some i ∨ S.next ≤ i) → R v S') : optWp (doAppend esz bytes x y S) R := by
 rcases hy with ⟨rfl, rfl, rfl⟩ | ⟨d', o', e', rfl, he', hc'⟩
 ·obtain ⟨a, e, rfl⟩ := hx.sl.slice
  simp only [doAppend, optWp_some]
  exact h _ _ (by simpa using hx) (Keeps.refl _ _) (fun i hi => .inl hi)
 ·obtain ⟨a, e, rfl⟩ := hx.sl.slice
  by_cases hk : k = 0
  ·subst hk
   have hds : ds = [] := List.eq_nil_of_length_eq_zero (by obtain ⟨b, _, _, _, hl⟩ := cellsOf_some hc'; simpa using hl)
   subst hds
   simp only [doAppend, if_true, optWp_some]
   exact h _ _ (by simpa using hx) (Keeps.refl _ _) (fun i hi => .inl hi)
  ·simp only [doAppend, if_neg hk, if_pos hb, hc']
   obtain ⟨b', hb', hl', hds, hdl⟩ := cellsOf_some hc'
   rcases hx with ⟨hv, rfl, rfl⟩ | ⟨d, hv, hbd, hl⟩
   ·cases hv
    simp only [and_self, if_true, optWp_some, Nat.zero_add, List.nil_append] at h ⊢
    exact h _ _ (.inr ⟨S.next, rfl, by simp [St.blk_new], hdl⟩) (Keeps.of_new _ _ _) (fun i hi => .inr (by simp [Value.blkOf] at hi; omega))
   ·cases hv
    have hco : cellsOf S d 0 (n * esz) = some cs := by rw [cellsOf_of_blk hbd, if_pos (by simp; omega)]; simp [← hl]
    simp only [hbd, hco, and_self, if_true, optWp_some]
    refine h _ _ (.inr ⟨S.next, rfl, by simp [St.blk_new, St.blk_kill, St.next_kill], by simp [hl, hdl, Nat.add_mul]⟩) ⟨by simp [St.next_new, St.next_kill], fun i hi hp => ?_⟩ (fun i hi => .inr (by simp [Value.blkOf] at hi; omega))
    have : i ≠ d := fun e => hp (by simp [Value.blkOf, e])
    simp [St.blk_new, St.blk_kill, St.next_kill, Nat.ne_of_lt hi, this]
def bytesV (xs : List Int) : List Value := xs.map (Value.int .u8)
theorem bytesV_append (xs ys : List Int) : bytesV (xs ++ ys) = bytesV xs ++ bytesV ys := by simp [bytesV]
/-- A slice of bytes. -/
def Bs (S : St) (v : Value) (xs : List Int) : Prop := Sl S 1 v xs.length (bytesV xs)
def OwnBs (S : St) (v : Value) (xs : List Int) : Prop := Own S 1 v xs.length (bytesV xs)
theorem append_bs {S : St} {x y : Value} {xs ys : List Int} (hx : OwnBs S x xs) (hy : Bs S y ys) (hb : xs.length + ys.length ≤ 1000000000) :
  optWp (doAppend 1 1 x y S) fun v S' => OwnBs S' v (xs ++ ys) ∧ Keeps S S' (fun i => Value.blkOf x ≠ some i) ∧ (∀ i, Value.blkOf v = some i → Value.blkOf x = some i ∨ S.next ≤ i) := by
 refine append_own (by omega) hx hy (by omega) fun v S' h1 h2 h3 => ⟨?_, h2, h3⟩
 unfold OwnBs
 rw [bytesV_append, List.length_append]
 exact h1
def Fresh (S : St) (v : Value) : Prop := ∀ d, Value.blkOf v = some d → S.next ≤ d
theorem Sl.ne {S : St} {esz n : Nat} {v : Value} {cs : List Value} (h : Sl S esz v n cs) (hn : 0 < n) : ∃ d o e, v = .slice (some ⟨d, o, none⟩) n e ∧ (e = 0 ∨ e = esz) ∧ cellsOf S d o (n * esz) = some cs := by
 rcases h with ⟨_, h0, _⟩ | ⟨d, o, e, rfl, he, hc⟩
 ·omega
 ·exact ⟨d, o, e, rfl, he, hc⟩
theorem Own.ne {S : St} {esz n : Nat} {v : Value} {cs : List Value} (h : Own S esz v n cs) (hn : 0 < n) : ∃ d, v = .slice (some ⟨d, 0, none⟩) n esz ∧ S.blk d = some ⟨false, cs⟩ ∧ cs.length = n * esz := by
 rcases h with ⟨_, h0, _⟩ | h
 ·omega
 ·exact h
end Go.Proofs.YtegaklgjcicnfaaGreat.Abs
namespace Go.Proofs.YtegaklgjcicnfaaGreat.Abs
open Go Go.RowKit Go.WideShapes Go.ChangeShapes
/-- What a cell of plain data is. -/
inductive Cel where
 | int (k : IntKind)
 | bool
def CelOk : Cel → Value → Prop
 | .int k, v => ∃ n, v = .int k n ∧ (Lit.int k n).wf = true
 | .bool, v => ∃ b, v = .bool b
def FlatOk : List Cel → List Value → Prop
 | [], [] => True
 | c :: sh, v :: cs => CelOk c v ∧ FlatOk sh cs
 | _, _ => False
theorem FlatOk.append : ∀ {sh sh' : List Cel} {cs cs' : List Value}, FlatOk sh cs → FlatOk sh' cs' → FlatOk (sh ++ sh') (cs ++ cs')
 | [], sh', [], cs', _, h' => h'
 | c :: sh, sh', v :: cs, cs', ⟨h1, h2⟩, h' => ⟨h1, FlatOk.append h2 h'⟩
theorem FlatOk.length : ∀ {sh : List Cel} {cs : List Value}, FlatOk sh cs → cs.length = sh.length
 | [], [], _ => rfl
 | c :: sh, v :: cs, ⟨_, h⟩ => by simp [FlatOk.length h]
theorem CelOk.rel {c : Cel} {v : Value} (h : CelOk c v) (m : LMap) : VRel m v v ∧ v.oneCell' = true := by
 cases c with
 | int k => obtain ⟨n, rfl, _⟩ := h; exact ⟨.int k n, rfl⟩
 | bool => obtain ⟨b, rfl⟩ := h; exact ⟨.bool b, rfl⟩
theorem FlatOk.mem : ∀ {sh : List Cel} {cs : List Value}, FlatOk sh cs → ∀ (i : Nat) v, cs[i]? = some v → ∃ c, CelOk c v
 | [], [], _, i, v, hv => by simp at hv
 | c :: sh, u :: cs, ⟨h1, h2⟩, 0, v, hv => by simp at hv; exact ⟨c, hv ▸ h1⟩
 | c :: sh, u :: cs, ⟨h1, h2⟩, i + 1, v, hv => FlatOk.mem h2 i v (by simpa using hv)
def fieldsShape (P : Program) (f : TypeId → Option (List Cel)) : List Field → Nat → Option (List Cel)
 | [], _ => some []
 | x :: xs, off => if x.offset = off then
   match f x.type with
   | some s => if s.length = P.cellsOf x.type then (fieldsShape P f xs (off + s.length)).map (s ++ ·) else none
   | none => none
  else none
def shapeOf (P : Program) : Nat → TypeId → Option (List Cel)
 | 0, _ => none
 | n + 1, t => match P.underlying t with
  | some (.int k) => some [.int k]
  | some .bool => some [.bool]
  | some (.struct fs) => match fieldsShape P (shapeOf P n) fs.toList 0 with
   | some s => if s.length = P.cellsOf t then some s else none
   | none => none
  | some (.array k e) => match shapeOf P n e with
   | some s => if s.length = P.cellsOf e ∧ k * s.length = P.cellsOf t then some (List.replicate k s).flatten else none
   | none => none
  | _ => none
section
variable {H : Type} {enc : TypeId × Value → H} {P : Program} {w : World} {base : Nat} {spare : Nat → Bool} {held : Bool}
theorem fields_flat {m : Nat} {cs : List Value} {f : TypeId → Option (List Cel)}
  (ih : ∀ t cs' sh x, f t = some sh → DataW.trod enc P w base spare held m t cs' = some x → FlatOk sh cs') :
  ∀ (l : List Field) (off : Nat) (sh : List Cel), fieldsShape P f l off = some sh → (∀ x ∈ l, ∃ y, DataW.trod enc P w base spare held m x.type ((cs.drop x.offset).take (P.cellsOf x.type)) = some y) →
   FlatOk sh ((cs.drop off).take sh.length) := by
 intro l
 induction l with
 | nil =>
  intro off sh h _
  simp [fieldsShape] at h
  subst h
  simp [FlatOk]
 | cons x l ihl =>
  intro off sh h hx
  simp only [fieldsShape] at h
  split at h
  case isFalse => cases h
  rename_i ho
  split at h
  case h_2 => cases h
  rename_i s hs
  split at h
  case isFalse => cases h
  rename_i hl
  obtain ⟨sh', hsh', rfl⟩ := Option.map_eq_some_iff.1 h
  obtain ⟨y, hy⟩ := hx x (by simp)
  have h1 := ih _ _ _ _ hs hy
  have h2 := ihl _ _ hsh' (fun z hz => hx z (by simp [hz]))
  rw [ho, ← hl] at h1
  rw [List.length_append, List.take_add, List.drop_drop]
  exact h1.append h2
theorem flat_of_trod : ∀ (n : Nat) (t : TypeId) (cs : List Value) (sh : List Cel) (fuel : Nat) (x : DataW H × List MemPlace), shapeOf P n t = some sh → DataW.trod enc P w base spare held fuel t cs = some x → FlatOk sh cs := by
 intro n
 induction n with
 | zero => intro t cs sh fuel x h; simp [shapeOf] at h
 | succ n ih =>
  intro t cs sh fuel x h hd
  simp only [shapeOf] at h
  split at h
  ·rename_i k hk
   cases h
   obtain ⟨z, rfl, _, hw⟩ := DataW.trod_int hk hd
   exact ⟨⟨z, rfl, hw⟩, trivial⟩
  ·rename_i hk
   cases h
   obtain ⟨b, rfl, _⟩ := DataW.trod_bool hk hd
   exact ⟨⟨b, rfl⟩, trivial⟩
  ·rename_i fs hk
   split at h
   case h_2 => cases h
   rename_i s hs
   split at h
   case isFalse => cases h
   rename_i hl
   cases h
   obtain ⟨xs, m, _, _, hcl, hxl, hf⟩ := DataW.trod_struct hk hd
   have := fields_flat (enc := enc) (w := w) (base := base) (spare := spare) (held := held) (m := m) (cs := cs) (fun t cs' sh x h hx => ih t cs' sh m x h hx) fs.toList 0 _ hs (fun z hz => by
    obtain ⟨i, hi⟩ := List.getElem?_of_mem hz
    have hi' : fs[i]? = some z := by simpa using hi
    rw [hf i z hi']
    have : i < xs.length := by rw [hxl]; exact (Array.getElem?_eq_some_iff.1 hi').1
    exact ⟨_, List.getElem?_eq_getElem this⟩)
   rw [List.drop_zero, List.take_of_length_le (by omega)] at this
   exact this
  ·rename_i k e hk
   split at h
   case h_2 => cases h
   rename_i s hs
   split at h
   case isFalse => cases h
   rename_i hl
   cases h
   obtain ⟨xs, m, _, _, hcl, hxl, hf⟩ := DataW.trod_array hk hd
   have key : ∀ j, j ≤ k → FlatOk (List.replicate j s).flatten (cs.take (j * s.length)) := by
    intro j
    induction j with
    | zero => intro _; simp [FlatOk]
    | succ j ihj =>
     intro hj
     have h1 := ihj (by omega)
     have h2 : FlatOk s ((cs.drop (j * s.length)).take s.length) := by
      have := hf j (by omega)
      rw [List.getElem?_eq_getElem (by omega)] at this
      rw [hl.1]
      exact ih _ _ _ _ _ hs this
     rw [List.replicate_succ', List.flatten_append, Nat.succ_mul, List.take_add]
     exact h1.append (by simpa using h2)
   have := key k (Nat.le_refl _)
   rwa [List.take_of_length_le (by omega)] at this
  ·cases h
end
theorem Rel.init (W : World) : Rel W (fun _ => none) ⟨fun _ => none, 0⟩ W :=
 ⟨Below.refl _ _, fun id r h => by simp at h, fun id b h => by simp at h, fun id b r h => by simp at h, fun i j b c r s h => by simp at h⟩
/-- A block of the caller's comes into sight. -/
theorem Rel.see {w0 : World} {m : LMap} {S : St} {w : World} (h : Rel w0 m S w) {cs : List Value} {r : Loc} (hb : BlkAt w0.heap.size (m.ext S.next r) w ⟨true, cs⟩ r) : Rel w0 (m.ext S.next r) (S.new ⟨true, cs⟩) w := by
 have hle := LMap.le_ext h.fresh r
 refine ⟨h.below, fun id s hs => ?_, fun id b hb' => ?_, fun id b s hb' hs => ?_, fun i j b c s u hi hj hbr hcr hmi hmj => ?_⟩
 ·unfold LMap.ext at hs
  split at hs
  ·rename_i e; simp [St.next_new, e]
  ·have := h.dom _ _ hs; simp [St.next_new]; omega
 ·rw [St.blk_new] at hb'
  rw [St.next_new]
  split at hb'
  ·omega
  ·have := h.live _ _ hb'; omega
 ·rw [St.blk_new] at hb'
  split at hb'
  ·rename_i e
   cases hb'
   simp [LMap.ext, e] at hs
   subst hs
   exact hb
  ·rename_i e
   simp [LMap.ext, e] at hs
   exact (h.blk _ _ _ hb' hs).mono hle
 ·rw [St.blk_new] at hi hj
  split at hi
  ·cases hi; cases hbr
  ·split at hj
   ·cases hj; cases hcr
   ·rename_i e1 e2
    simp only [LMap.ext, if_neg e1] at hmi
    simp only [LMap.ext, if_neg e2] at hmj
    exact h.inj i j b c s u hi hj hbr hcr hmi hmj
/-- The rows of a slice of plain elements. -/
def RowsOk (sh : List Cel) (n : Nat) (cs : List Value) : Prop := cs.length = n * sh.length ∧ ∀ i, i < n → FlatOk sh ((cs.drop (i * sh.length)).take sh.length)
section
variable {H : Type} {enc : TypeId × Value → H} {P : Program}
theorem Rel.arg_slice {w0 : World} {m : LMap} {S : St} (hR : Rel w0 m S w0) {t e : TypeId} {v : Value} {d : DataW H} {ps : List MemPlace} {base : Nat} {held : Bool} {n : Nat} {sh : List Cel}
  (ht : P.underlying t = some (.slice e)) (hval : Value.okWide P w0 .any base t v) (hd : DataW.Trod enc P w0 0 (fun _ => true) held t v d ps) (hsh : shapeOf P n e = some sh) (hsz : P.cellsOf e = sh.length) (h0 : 0 < sh.length) :
  ∃ m' S' x len cs, m.le m' ∧ Rel w0 m' S' w0 ∧ KeepsAll S S' ∧ VRel m' x v ∧ Sl S' sh.length x len cs ∧ RowsOk sh len cs ∧ len ≤ maxLen := by
 obtain ⟨a, len, cap, rfl⟩ := okWide_slice ht hval
 obtain ⟨fuel, hf⟩ := hd
 rcases DataW.trod_slice ht hf with ⟨hcs, _⟩ | ⟨a', len', cap', elems, rest, k, _, hcs, _, hb, hl, hm, hel, hlow, hsp, _⟩
 ·simp [Value.cells] at hcs
  obtain ⟨rfl, rfl, rfl⟩ := hcs
  exact ⟨m, S, .slice none 0 0, 0, [], LMap.le_refl m, hR, Keeps.refl _ _, .snil, .inl ⟨rfl, rfl, rfl⟩, ⟨by simp, fun i hi => by omega⟩, Nat.zero_le _⟩
 ·simp [Value.cells] at hcs
  obtain ⟨rfl, rfl, rfl⟩ := hcs
  simp only [Value.okWide, ht, Cell.okWide, Cell.ok, World.has] at hval
  obtain ⟨_, _, _, hspot, row, cells, hshape, _⟩ := hval
  obtain ⟨b, off, spot⟩ := a'
  simp only at hspot hshape hb
  subst hspot
  unfold World.shape? at hshape
  split at hshape
  case h_2 => cases hshape
  rename_i c e' fr hc
  have hblt : b < w0.heap.size := (Array.getElem?_eq_some_iff.1 hc).1
  by_cases hcap : cap = 0
  ·subst hcap
   obtain rfl : len = 0 := by omega
   refine ⟨m.ext S.next ⟨b, 0, c.size⟩, S.new ⟨true, []⟩, .slice (some ⟨S.next, 0, none⟩) 0 0, 0, [], LMap.le_ext hR.fresh _, hR.see ⟨by simp, c, e', fr, hc, rfl, by simp, by simp, fun _ => hblt, by simp⟩, Keeps.of_new _ _ _,
    .sempty (r := ⟨b, 0, c.size⟩) (by simp [LMap.ext]) 0 _, .inr ⟨S.next, 0, 0, rfl, .inl rfl, by simp [cellsOf, St.blk_new]⟩, ⟨by simp, fun i hi => by omega⟩, Nat.zero_le _⟩
  ·have hcell : ∀ i, i < cap → ∃ cs', w0.cells? 0 (Addr.add ⟨b, off, none⟩ (i * sh.length)) sh.length = some cs' ∧ FlatOk sh cs' := by
    intro i hi
    rw [hsz] at hlow hsp
    by_cases hil : i < len
    ·have := hlow i hil
     rw [List.getElem?_eq_getElem (by omega)] at this
     obtain ⟨cs', h1, h2⟩ := Option.bind_eq_some_iff.1 this
     exact ⟨cs', h1, flat_of_trod n e cs' sh _ _ hsh h2⟩
    ·obtain ⟨h1, h2⟩ := hsp rfl
     have := h2 (i - len) (by omega)
     rw [show len + (i - len) = i by omega, List.getElem?_eq_getElem (by omega)] at this
     obtain ⟨cs', h1, h2⟩ := Option.bind_eq_some_iff.1 this
     exact ⟨cs', h1, flat_of_trod n e cs' sh _ _ hsh h2⟩
   have hget : ∀ i, i < cap → ∀ j, j < sh.length → ∃ v, c[off + (i * sh.length + j)]? = some v := by
    intro i hi j hj
    obtain ⟨cs', h1, h2⟩ := hcell i hi
    obtain ⟨_, h3, h4⟩ := World.cells?_some h1
    have := h4 j hj
    rw [List.getElem?_eq_getElem (by omega)] at this
    have hw : w0.cell? ⟨b, off + (i * sh.length + j), none⟩ = some cs'[j] := by
     rw [← this]
     congr 1
     unfold Addr.add
     by_cases hz : i * sh.length = 0 <;> by_cases hj0 : j = 0 <;> simp [hz, hj0, Nat.add_assoc]
    unfold World.cell? at hw
    simp only [hc] at hw
    exact ⟨_, by simpa using hw⟩
   have hlast := hget (cap - 1) (by omega) (sh.length - 1) (by omega)
   have hsize : off + cap * sh.length ≤ c.size := by
    obtain ⟨v, hv⟩ := hlast
    have := (Array.getElem?_eq_some_iff.1 hv).1
    have e1 : (cap - 1) * sh.length + sh.length = cap * sh.length := by
     rw [← Nat.succ_mul]; congr 1; omega
    omega
   have hlc : len * sh.length ≤ cap * sh.length := Nat.mul_le_mul_right _ hl
   have hrows : RowsOk sh len ((c.toList.drop off).take (len * sh.length)) := by
    refine ⟨by simp; omega, fun i hi => ?_⟩
    obtain ⟨cs', h1, h2⟩ := hcell i (by omega)
    obtain ⟨_, h3, h4⟩ := World.cells?_some h1
    have e1 : ((((c.toList.drop off).take (len * sh.length)).drop (i * sh.length)).take sh.length) = cs' := by
     apply List.ext_getElem?
     intro j
     rw [List.getElem?_take]
     split
     ·rename_i hj
      rw [← h4 j hj, List.getElem?_drop, List.getElem?_take]
      have hle : i * sh.length + sh.length ≤ len * sh.length := by rw [← Nat.succ_mul]; exact Nat.mul_le_mul_right _ hi
      rw [if_pos (by omega), List.getElem?_drop]
      have e2 : (Addr.add (Addr.add ⟨b, off, none⟩ (i * sh.length)) j) = ⟨b, off + (i * sh.length + j), none⟩ := by
       unfold Addr.add
       by_cases hz : i * sh.length = 0 <;> by_cases hj0 : j = 0 <;> simp [hz, hj0, Nat.add_assoc]
      rw [e2]
      unfold World.cell?
      simp [hc]
     ·rename_i hj
      rw [List.getElem?_eq_none (by omega)]
    rw [e1]
    exact h2
   have hmem : ∀ (i : Nat) (v : Value), ((c.toList.drop off).take (len * sh.length))[i]? = some v → ∃ k, CelOk k v := by
    intro i v hv
    have hi : i < len * sh.length := by
     have := (List.getElem?_eq_some_iff.1 hv).1
     simp at this
     omega
    have hq := Nat.div_add_mod i sh.length
    have hr := Nat.mod_lt i h0
    have hd : i / sh.length < len := Nat.div_lt_of_lt_mul (by rw [Nat.mul_comm]; exact hi)
    refine (hrows.2 _ hd).mem (i % sh.length) v ?_
    rw [List.getElem?_take, if_pos hr, List.getElem?_drop, show i / sh.length * sh.length + i % sh.length = i by rw [Nat.mul_comm]; exact hq]
    exact hv
   refine ⟨m.ext S.next ⟨b, off, c.size⟩, S.new ⟨true, (c.toList.drop off).take (len * sh.length)⟩, .slice (some ⟨S.next, 0, none⟩) len 0, len, (c.toList.drop off).take (len * sh.length), LMap.le_ext hR.fresh _, hR.see ⟨?_, c, e', fr, hc, rfl, ?_, by simp, fun _ => hblt, ?_⟩, Keeps.of_new _ _ _, ?_, .inr ⟨S.next, 0, 0, rfl, .inl rfl, ?_⟩, hrows, Nat.le_trans hl hm⟩
   ·intro v hv
    obtain ⟨i, hi⟩ := List.getElem?_of_mem hv
    obtain ⟨k, hk⟩ := hmem i v hi
    exact (hk.rel m).2
   ·simp; omega
   ·intro i v hv
    obtain ⟨k, hk⟩ := hmem i v hv
    refine ⟨v, ?_, (hk.rel _).1⟩
    rw [List.getElem?_take] at hv
    split at hv
    ·rw [List.getElem?_drop] at hv
     simpa using hv
    ·cases hv
   ·exact .slice (r := ⟨b, off, c.size⟩) (by simp [LMap.ext]) hl (.inl rfl)
   ·rw [cellsOf_new, if_pos rfl, if_pos (by rw [hrows.1]; omega), List.drop_zero, List.take_of_length_le (by rw [hrows.1]; omega)]
/-- A struct that is passed whole. -/
theorem arg_agg {w0 : World} {t : TypeId} {v : Value} {d : DataW H} {ps : List MemPlace} {base : Nat} {held : Bool} {n : Nat} {sh : List Cel} {fs : Array Field}
  (ht : P.underlying t = some (.struct fs)) (hval : Value.okWide P w0 .any base t v) (hd : DataW.Trod enc P w0 0 (fun _ => true) held t v d ps) (hsh : shapeOf P n t = some sh) :
  ∃ cs, v = .agg cs.toArray ∧ FlatOk sh cs ∧ ∀ m, VRel m v v := by
 simp only [Value.okWide, ht] at hval
 obtain ⟨cs, rfl, _, _⟩ := hval
 obtain ⟨fuel, hf⟩ := hd
 have h := flat_of_trod n t _ sh _ _ hsh hf
 have hc : (Value.agg cs).cells.toList = cs.toList := rfl
 rw [hc] at h
 refine ⟨cs.toList, rfl, h, fun m => .agg rfl (fun x hx => ?_) (fun i x y hx hy => ?_)⟩
 ·obtain ⟨i, hi⟩ := Array.getElem?_of_mem hx
  obtain ⟨k, hk⟩ := h.mem i x (by simpa using hi)
  exact (hk.rel m).2
 ·rw [hx] at hy
  cases hy
  obtain ⟨k, hk⟩ := h.mem i x (by simpa using hx)
  exact (hk.rel m).1
end
/-- A law's call, from its abstract one. -/
theorem calls_of {P : Program} {f : FuncId} {args cargs : List Value} {S : St} {w0 : World} {m : LMap} (h : ACalls P f args S fun r _ => r = .bool true) (hR : Rel w0 m S w0) (ha : LRel m args cargs) :
  Calls P f cargs.toArray w0 fun e w' => e = .returned (.bool true) ∧ Below w0.heap.size w0 w' :=
 (h w0 m w0 cargs hR ha).mono fun e w' ⟨m', v, u, S', _, h2, _, _, h4, h5, h6⟩ => by
  subst h6
  cases h4
  exact ⟨h5, h2.below⟩
end Go.Proofs.YtegaklgjcicnfaaGreat.Abs
