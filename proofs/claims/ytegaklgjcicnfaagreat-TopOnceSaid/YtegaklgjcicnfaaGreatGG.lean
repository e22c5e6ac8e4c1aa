/- Heaps of entries: plain laws. -/
import Derived.Test.YtegaklgjcicnfaaGreatGF
set_option linter.unusedSimpArgs false
set_option linter.unusedVariables false
namespace Go.Proofs.YtegaklgjcicnfaaGreat
open Go Go.Proofs.YtegaklgjcicnfaaGreat.Abs
structure En where
 k : Int
 t : Int
 n : Int
deriving DecidableEq
def En.zero : En := ⟨0, 0, 0⟩
def En.cells (e : En) : List Value := [.int .i64 e.k, .int .i64 e.t, .int .i64 e.n]
def enC (es : List En) : List Value := es.flatMap En.cells
/-- Is one before another? -/
def ltE (a b : En) : Prop := a.k < b.k ∨ (a.k = b.k ∧ (a.t < b.t ∨ (a.t = b.t ∧ a.n < b.n)))
instance (a b : En) : Decidable (ltE a b) := by unfold ltE; infer_instance
theorem ltE_asymm {a b : En} (h : ltE a b) : ¬ ltE b a := by unfold ltE at *; omega
theorem geE_trans {a b c : En} (h : ¬ ltE a b) (k : ¬ ltE b c) : ¬ ltE a c := by unfold ltE at *; omega
theorem geE_lt {a b c : En} (h : ¬ ltE a b) (k : ltE c b) : ¬ ltE a c := by unfold ltE at *; omega
theorem ltE_irrefl (a : En) : ¬ ltE a a := by unfold ltE; omega
theorem enC_len (es : List En) : (enC es).length = es.length * 3 := by
 induction es with
 | nil => rfl
 | cons e es ih => simp only [enC, List.flatMap_cons, List.length_append, List.length_cons] at ih ⊢; rw [ih]; simp [En.cells]; omega
theorem enC_cons (e : En) (es : List En) : enC (e :: es) = e.cells ++ enC es := rfl
theorem enC_app (es fs : List En) : enC (es ++ fs) = enC es ++ enC fs := by simp [enC]
theorem enC_at : ∀ (es : List En) (i : Nat) (h : i < es.length), ((enC es).drop (i * 3)).take 3 = es[i].cells
 | e :: es, 0, _ => by simp [enC_cons, En.cells]
 | e :: es, i + 1, h => by
  rw [enC_cons, show (i + 1) * 3 = e.cells.length + i * 3 by simp [En.cells]; omega, ← List.drop_drop, List.drop_left]
  exact enC_at es i (by simpa using h)
theorem enC_set : ∀ (es : List En) (i : Nat) (e : En), i < es.length → Go.Proofs.YtegaklgjcicnfaaGreat.Abs.ow (enC es) (i * 3) e.cells = enC (es.set i e) := by
 intro es i e h
 rw [ow_eq _ _ _ (by rw [enC_len]; simp [En.cells]; omega)]
 have h1 : es = es.take i ++ es[i] :: es.drop (i + 1) := by simp
 have hl : (enC (es.take i)).length = i * 3 := by rw [enC_len, List.length_take, Nat.min_eq_left (by omega)]
 have h2 : enC es = enC (es.take i) ++ (es[i].cells ++ enC (es.drop (i + 1))) := by
  conv => lhs; rw [h1]
  rw [enC_app, enC_cons]
 have e1 : (enC es).take (i * 3) = enC (es.take i) := by rw [h2, List.take_left' hl]
 have e2 : (enC es).drop (i * 3 + e.cells.length) = enC (es.drop (i + 1)) := by
  rw [h2, ← List.append_assoc, List.drop_left']
  rw [List.length_append, hl]; simp [En.cells]
 rw [e1, e2, List.set_eq_take_append_cons_drop, if_pos h, enC_app, enC_cons, List.append_assoc]
/-- The entry at a place. -/
def g (xs : List En) (i : Nat) : En := xs.getD i .zero
theorem g_get {xs : List En} {i : Nat} (h : i < xs.length) : g xs i = xs[i] := by simp [g, List.getD_eq_getElem?_getD, h]
/-- Two change places. -/
def sw (xs : List En) (i j : Nat) : List En := (xs.set i (g xs j)).set j (g xs i)
theorem sw_len (xs : List En) (i j : Nat) : (sw xs i j).length = xs.length := by simp [sw]
theorem g_set {xs : List En} {i k : Nat} {e : En} (h : i < xs.length) : g (xs.set i e) k = if i = k then e else g xs k := by
 unfold g
 rw [List.getD_eq_getElem?_getD, List.getElem?_set, List.getD_eq_getElem?_getD]
 split
 ·rename_i e; subst e; simp [h]
 ·rfl
theorem g_sw {xs : List En} {i j k : Nat} (hi : i < xs.length) (hj : j < xs.length) : g (sw xs i j) k = if k = j then g xs i else if k = i then g xs j else g xs k := by
 unfold sw
 rw [g_set (by simpa using hj), g_set hi]
 by_cases h1 : j = k
 ·simp [h1]
 ·by_cases h2 : i = k
  ·simp [h1, h2, Ne.symm h1]
  ·simp [h1, h2, Ne.symm h1, Ne.symm h2]
theorem sw_perm {xs : List En} {i j : Nat} (hi : i < xs.length) (hj : j < xs.length) : (sw xs i j).Perm xs := by
 unfold sw
 rw [g_get hi, g_get hj]
 exact List.set_set_perm hi hj
def HeapN (xs : List En) (n : Nat) : Prop := ∀ i, 0 < i → i < n → ¬ ltE (g xs i) (g xs ((i - 1) / 2))
structure UpI (xs : List En) (n j : Nat) : Prop where
 a : ∀ i, 0 < i → i < n → i ≠ j → ¬ ltE (g xs i) (g xs ((i - 1) / 2))
 b : 0 < j → ∀ c, c < n → 0 < c → (c - 1) / 2 = j → ¬ ltE (g xs c) (g xs ((j - 1) / 2))
theorem UpI.done {xs : List En} {n j : Nat} (h : UpI xs n j) (hj : j = 0 ∨ ¬ ltE (g xs j) (g xs ((j - 1) / 2))) : HeapN xs n := fun i h0 hn => by
 by_cases e : i = j
 ·subst e
  exact hj.resolve_left (by omega)
 ·exact h.a i h0 hn e
theorem UpI.step {xs : List En} {n j : Nat} (h : UpI xs n j) (hn : n ≤ xs.length) (hj : j < n) (h0 : 0 < j) (hl : ltE (g xs j) (g xs ((j - 1) / 2))) : UpI (sw xs ((j - 1) / 2) j) n ((j - 1) / 2) := by
 have hp : (j - 1) / 2 < j := by omega
 have hp1 : (j - 1) / 2 < xs.length := by omega
 have hj1 : j < xs.length := by omega
 refine ⟨fun i hi0 hin hij => ?_, fun hp0 c hcn hc0 hcp => ?_⟩
 ·rw [g_sw hp1 hj1, g_sw hp1 hj1]
  by_cases e1 : i = j
  ·subst e1
   rw [if_pos rfl, if_neg (by omega), if_pos rfl]
   exact ltE_asymm hl
  ·rw [if_neg e1, if_neg hij]
   by_cases e2 : (i - 1) / 2 = j
   ·rw [if_pos e2]
    exact h.b h0 i hin hi0 e2
   ·rw [if_neg e2]
    by_cases e3 : (i - 1) / 2 = (j - 1) / 2
    ·rw [if_pos e3]
     have := h.a i hi0 hin e1
     rw [e3] at this
     exact geE_lt this hl
    ·rw [if_neg e3]
     exact h.a i hi0 hin e1
 ·rw [g_sw hp1 hj1, g_sw hp1 hj1]
  have hpp := h.a ((j - 1) / 2) hp0 (by omega) (by omega)
  rw [if_neg (show ¬ ((j - 1) / 2 - 1) / 2 = j by omega), if_neg (show ¬ ((j - 1) / 2 - 1) / 2 = (j - 1) / 2 by omega)]
  by_cases e1 : c = j
  ·rw [if_pos e1]
   exact hpp
  ·rw [if_neg e1, if_neg (by omega)]
   have := h.a c hc0 hcn e1
   rw [hcp] at this
   exact geE_trans this hpp
structure DnI (xs : List En) (n i : Nat) : Prop where
 a : ∀ k, 0 < k → k < n → (k - 1) / 2 ≠ i → ¬ ltE (g xs k) (g xs ((k - 1) / 2))
 b : 0 < i → ∀ k, k < n → 0 < k → (k - 1) / 2 = i → ¬ ltE (g xs k) (g xs ((i - 1) / 2))
theorem DnI.done {xs : List En} {n i : Nat} (h : DnI xs n i) (hj : ∀ k, 0 < k → k < n → (k - 1) / 2 = i → ¬ ltE (g xs k) (g xs i)) : HeapN xs n := fun k h0 hn => by
 by_cases e : (k - 1) / 2 = i
 ·rw [e]; exact hj k h0 hn e
 ·exact h.a k h0 hn e
theorem DnI.step {xs : List En} {n i j : Nat} (h : DnI xs n i) (hn : n ≤ xs.length) (hj : j < n) (h0 : 0 < j) (hp : (j - 1) / 2 = i) (hl : ltE (g xs j) (g xs i)) (hm : ∀ k, 0 < k → k < n → (k - 1) / 2 = i → ¬ ltE (g xs k) (g xs j)) : DnI (sw xs i j) n j := by
 have hij : i < j := by omega
 have hi1 : i < xs.length := by omega
 have hj1 : j < xs.length := by omega
 refine ⟨fun k hk0 hkn hkj => ?_, fun _ k hkn hk0 hkp => ?_⟩
 ·rw [g_sw hi1 hj1, g_sw hi1 hj1, if_neg hkj]
  by_cases e1 : k = j
  ·subst e1
   rw [if_pos rfl, if_pos hp]
   exact ltE_asymm hl
  ·rw [if_neg e1]
   by_cases e2 : k = i
   ·subst e2
    rw [if_pos rfl, if_neg (show ¬ (k - 1) / 2 = k by omega)]
    exact h.b hk0 j hj h0 hp
   ·rw [if_neg e2]
    by_cases e3 : (k - 1) / 2 = i
    ·rw [if_pos e3]
     exact hm k hk0 hkn e3
    ·rw [if_neg e3]
     exact h.a k hk0 hkn e3
 ·rw [g_sw hi1 hj1, g_sw hi1 hj1, if_neg (show ¬ k = j by omega), if_neg (show ¬ k = i by omega), if_neg (show ¬ (j - 1) / 2 = j by omega), if_pos hp]
  have := h.a k hk0 hkn (by omega)
  rw [hkp] at this
  exact this
theorem HeapN.least {xs : List En} {n : Nat} (h : HeapN xs n) : ∀ (d i : Nat), i ≤ d → i < n → ¬ ltE (g xs i) (g xs 0) := by
 intro d
 induction d with
 | zero => intro i hi _; rw [show i = 0 by omega]; exact ltE_irrefl _
 | succ d ih =>
  intro i hi hin
  by_cases h0 : i = 0
  ·rw [h0]; exact ltE_irrefl _
  ·exact geE_trans (h i (by omega) hin) (ih _ (by omega) (by omega))
/-- A pile of entries: a heap. -/
def Heap (es : List En) : Prop := HeapN es es.length
theorem Heap.nil : Heap [] := fun i h0 hn => absurd hn (by simp)
theorem Heap.head {e : En} {es : List En} (h : Heap (e :: es)) : ∀ x ∈ e :: es, ¬ ltE x e := fun x hx => by
 obtain ⟨i, hi, rfl⟩ := List.getElem_of_mem hx
 have := HeapN.least h i i (Nat.le_refl _) hi
 rw [g_get hi] at this
 exact this
theorem g_app {es fs : List En} {i : Nat} (h : i < es.length) : g (es ++ fs) i = g es i := by simp [g, List.getD_eq_getElem?_getD, List.getElem?_append_left h]
theorem Heap.push {es : List En} (h : Heap es) (e : En) : UpI (es ++ [e]) (es.length + 1) es.length := by
 refine ⟨fun i h0 hn hne => ?_, fun h0 c hc hc0 hcp => by omega⟩
 rw [g_app (by omega), g_app (by omega)]
 exact h i h0 (by omega)
theorem HeapN.take {xs : List En} {n : Nat} (h : HeapN xs n) (hn : n ≤ xs.length) : Heap (xs.take n) := fun i h0 hi => by
 rw [List.length_take] at hi
 have e : ∀ j, j < n → g (xs.take n) j = g xs j := fun j hj => by simp [g, List.getD_eq_getElem?_getD, List.getElem?_take, hj]
 rw [e _ (by omega), e _ (by omega)]
 exact h i h0 (by omega)
end Go.Proofs.YtegaklgjcicnfaaGreat
namespace Go.Proofs.YtegaklgjcicnfaaGreat
open Go Go.Proofs.YtegaklgjcicnfaaGreat.Abs
theorem _root_.Go.Proofs.YtegaklgjcicnfaaGreat.Abs.St.set_set (S : St) (d : Nat) (a b : Blk) : (S.set d a).set d b = S.set d b := by
 unfold St.set
 congr 1
 funext i
 by_cases h : i = d <;> simp [h]
theorem nan206 (a : Int) (S : St) : ACalls Tryz.prog 206 [.int .i64 a] S fun r S' => r = .bool false ∧ S' = S := by
 refine run_of hmix Tryz.func206 cF206 rfl fun hL Q hQ => ?_
 simp only [go_sem, seval, aF206]
 refine fin_at hQ rfl ?_; simp only [go_sem, seval, aF206]; rw [retQ_some]; simp only [oneOr]
 exact ⟨by simp, trivial⟩
def cmpI (a b : Int) : Int := if a < b then -1 else if b < a then 1 else 0
theorem cmp204 (a b : Int) (S : St) : ACalls Tryz.prog 204 [.int .i64 a, .int .i64 b] S fun r S' => r = .int .i64 (cmpI a b) ∧ S' = S := by
 refine run_of hmix Tryz.func204 cF204 rfl fun hL Q hQ => ?_
 simp only [go_sem, seval, aF204]
 refine cK_of (nan206 a S) ?_
 rintro v S1 _ hL1 ⟨rfl, hS1⟩
 obtain rfl := hS1.symm
 simp only [go_sem, seval]
 refine cK_of (nan206 b S) ?_
 rintro v S1 _ hL1 ⟨rfl, hS1⟩
 obtain rfl := hS1.symm
 unfold cmpI at hQ
 by_cases h1 : a < b
 ·simp only [go_sem, seval, h1]
  refine fin_at hQ rfl ?_; simp only [go_sem, seval, aF204]; rw [retQ_some]; simp only [oneOr]
  simp [h1]
 ·by_cases h2 : a > b
  ·simp only [go_sem, seval, h1, h2]
   refine fin_at hQ rfl ?_; simp only [go_sem, seval, aF204]; rw [retQ_some]; simp only [oneOr]
   simp [h1, show b < a from h2]
  ·simp only [go_sem, seval, h1, h2]
   refine fin_at hQ rfl ?_; simp only [go_sem, seval, aF204]; rw [retQ_some]; simp only [oneOr]
   simp [h1, show ¬ b < a from h2]
theorem cmp205 (a b : Int) (S : St) : ACalls Tryz.prog 205 [.int .i64 a, .int .i64 b] S fun r S' => r = .int .i64 (cmpI a b) ∧ S' = S := by
 have nan179 : ∀ (a : Int) (S : St), ACalls Tryz.prog 179 [.int .i64 a] S fun r S' => r = .bool false ∧ S' = S := fun a S => by
  refine run_of hmix Tryz.func179 cF179 rfl fun hL Q hQ => ?_
  simp only [go_sem, seval, aF179]
  refine fin_at hQ rfl ?_; simp only [go_sem, seval, aF179]; rw [retQ_some]; simp only [oneOr]
  exact ⟨by simp, trivial⟩
 refine run_of hmix Tryz.func205 cF205 rfl fun hL Q hQ => ?_
 simp only [go_sem, seval, aF205]
 refine cK_of (nan179 a S) ?_
 rintro v S1 _ hL1 ⟨rfl, hS1⟩
 obtain rfl := hS1.symm
 simp only [go_sem, seval]
 refine cK_of (nan179 b S) ?_
 rintro v S1 _ hL1 ⟨rfl, hS1⟩
 obtain rfl := hS1.symm
 unfold cmpI at hQ
 by_cases h1 : a < b
 ·simp only [go_sem, seval, h1]
  refine fin_at hQ rfl ?_; simp only [go_sem, seval, aF205]; rw [retQ_some]; simp only [oneOr]
  simp [h1]
 ·by_cases h2 : a > b
  ·simp only [go_sem, seval, h1, h2]
   refine fin_at hQ rfl ?_; simp only [go_sem, seval, aF205]; rw [retQ_some]; simp only [oneOr]
   simp [h1, show b < a from h2]
  ·simp only [go_sem, seval, h1, h2]
   refine fin_at hQ rfl ?_; simp only [go_sem, seval, aF205]; rw [retQ_some]; simp only [oneOr]
   simp [h1, show ¬ b < a from h2]
def or3 (a b c : Int) : Int := if a != 0 then a else if b != 0 then b else c
theorem or203 (a b c : Int) (x : Value) (S : St) (h : Sl S 1 x 3 (iV [a, b, c])) : ACalls Tryz.prog 203 [x] S fun r S' => r = .int .i64 (or3 a b c) ∧ S' = S := by
 refine run_of hmix Tryz.func203 cF203 rfl fun hL Q hQ => ?_
 obtain ⟨d, o, e, rfl, _, hc⟩ := h.ne (by omega)
 have c0 : rd S d o = some (.int .i64 a) := by have := rd_of_cells hc (j := 0) (by omega); exact this
 have c1 : rd S d (o + 1) = some (.int .i64 b) := by have := rd_of_cells hc (j := 1) (by omega); exact this
 have c2 : rd S d (o + 2) = some (.int .i64 c) := by have := rd_of_cells hc (j := 2) (by omega); exact this
 unfold or3 at hQ
 simp only [go_sem, seval, aF203]
 refine lK_unroll ?_
 cases ha : a != 0
 case' true =>
  simp only [go_sem, seval, c0, ha]
  refine fin_at hQ rfl ?_; simp only [go_sem, seval, aF203]; rw [retQ_some]; simp only [oneOr]
  simp [ha]
 simp only [go_sem, seval, c0, ha]
 refine lK_unroll ?_
 cases hb : b != 0
 case' true =>
  simp only [go_sem, seval, c1, hb]
  refine fin_at hQ rfl ?_; simp only [go_sem, seval, aF203]; rw [retQ_some]; simp only [oneOr]
  simp [ha, hb]
 simp only [go_sem, seval, c1, hb]
 refine lK_unroll ?_
 cases hcc : c != 0
 case' true =>
  simp only [go_sem, seval, c2, hcc]
  refine fin_at hQ rfl ?_; simp only [go_sem, seval, aF203]; rw [retQ_some]; simp only [oneOr]
  simp [ha, hb]
 simp only [go_sem, seval, c2, hcc]
 refine lK_unroll ?_
 simp only [go_sem, seval]
 refine fin_at hQ rfl ?_; simp only [go_sem, seval, aF203]; rw [retQ_some]; simp only [oneOr]
 have : c = 0 := by simpa using hcc
 simp [ha, hb, this]
theorem cmp202 (a b : En) (S : St) : ACalls Tryz.prog 202 [.agg a.cells.toArray, .agg b.cells.toArray] S fun r S' => (∃ c, r = .int .i64 c ∧ (c < 0 ↔ ltE a b)) ∧ KeepsAll S S' := by
 refine run_of hmix Tryz.func202 cF202 rfl fun hL Q hQ => ?_
 obtain ⟨ak, at_, an⟩ := a
 obtain ⟨bk, bt, bn⟩ := b
 simp only [go_sem, seval, aF202, En.cells]
 refine cK_of (cmp204 _ _ _) ?_
 rintro v S1 _ hL1 ⟨rfl, hS1⟩
 obtain rfl := hS1.symm
 simp only [go_sem, seval]
 refine cK_of (cmp204 _ _ _) ?_
 rintro v S1 _ hL1' ⟨rfl, hS1⟩
 obtain rfl := hS1.symm
 simp only [go_sem, seval]
 refine cK_of (cmp205 _ _ _) ?_
 rintro v S1 _ hL1'' ⟨rfl, hS1⟩
 obtain rfl := hS1.symm
 simp only [go_sem, seval]
 have hsl := sl_new S [cmpI ak bk, cmpI at_ bt, cmpI an bn]
 refine cK_of (or203 _ _ _ _ _ hsl) ?_
 rintro v S1 _ hL1'' ⟨rfl, rfl⟩
 simp only [go_sem, seval]
 refine fin_at hQ rfl ?_; simp only [go_sem, seval, aF202]; rw [retQ_some]; simp only [oneOr]
 refine ⟨⟨_, rfl, ?_⟩, Keeps.of_new _ _ _⟩
 unfold or3 cmpI ltE
 simp only [bne_iff_ne, ne_eq]
 repeat' split
 all_goals omega
/-- A pile: so many of some entries. -/
structure PB (S : St) (d n : Nat) (xs : List En) : Prop where
 blk : S.blk d = some ⟨false, enC xs⟩
 le : n ≤ xs.length
def slE (d n : Nat) : Value := .slice (some ⟨d, 0, none⟩) n 3
theorem PB.at {S : St} {d n i : Nat} {xs : List En} (h : PB S d n xs) (hi : i < n) : cellsOf S d (i * 3) 3 = some (g xs i).cells := by
 have := h.le
 rw [cellsOf_of_blk h.blk, if_pos (by show i * 3 + 3 ≤ (enC xs).length; rw [enC_len]; omega), g_get (by omega)]
 exact congrArg some (enC_at xs i (by omega))
theorem less200 (d n i j : Nat) (xs : List En) (S : St) (h : PB S d n xs) (hi : i < n) (hj : j < n) : ACalls Tryz.prog 200 [slE d n, .int .i64 i, .int .i64 j] S fun r S' => r = .bool (decide (ltE (g xs i) (g xs j))) ∧ KeepsAll S S' := by
 refine run_of hmix Tryz.func200 cF200 rfl fun hL Q hQ => ?_
 have hi0 : (0 : Int) ≤ i := by omega
 have hj0 : (0 : Int) ≤ j := by omega
 have hi1 : (i : Int) < n := by omega
 have hj1 : (j : Int) < n := by omega
 have ci := h.at hi
 have cj := h.at hj
 simp only [go_sem, seval, aF200, slE, hi0, hj0, hi1, hj1, Int.toNat_natCast, Nat.zero_add, ci, cj]
 refine cK_of (cmp202 _ _ _) ?_
 rintro v S1 _ hL1 ⟨⟨c, rfl, hc⟩, hk⟩
 simp only [go_sem, seval]
 refine fin_at hQ rfl ?_; simp only [go_sem, seval, aF200]; rw [retQ_some]; simp only [oneOr]
 exact ⟨by simp only [hc], hk⟩
theorem swap201 (d n i j : Nat) (xs : List En) (S : St) (h : PB S d n xs) (hi : i < n) (hj : j < n) : ACalls Tryz.prog 201 [slE d n, .int .i64 i, .int .i64 j] S fun r S' => S' = S.set d ⟨false, enC (sw xs i j)⟩ := by
 refine run_of hmix Tryz.func201 cF201 rfl fun hL Q hQ => ?_
 have hi0 : (0 : Int) ≤ i := by omega
 have hj0 : (0 : Int) ≤ j := by omega
 have hi1 : (i : Int) < n := by omega
 have hj1 : (j : Int) < n := by omega
 have hle := h.le
 have ci := h.at hi
 have cj := h.at hj
 have hb := h.blk
 have l1 : i * 3 + 3 ≤ (enC xs).length := by rw [enC_len]; omega
 have l2 : j * 3 + 3 ≤ (enC (xs.set i (g xs j))).length := by rw [enC_len, List.length_set]; omega
 have o1 : Go.Proofs.YtegaklgjcicnfaaGreat.Abs.ow (enC xs) (i * 3) (g xs j).cells = enC (xs.set i (g xs j)) := enC_set _ _ _ (by omega)
 have o2 : Go.Proofs.YtegaklgjcicnfaaGreat.Abs.ow (enC (xs.set i (g xs j))) (j * 3) (g xs i).cells = enC (sw xs i j) := enC_set _ _ _ (by rw [List.length_set]; omega)
 have n1 : (g xs i).cells.length = 3 := rfl
 have n2 : (g xs j).cells.length = 3 := rfl
 simp only [go_sem, seval, aF201, slE, hi0, hj0, hi1, hj1, Int.toNat_natCast, Nat.zero_add, ci, cj, hb, l1, l2, o1, o2, n1, n2]
 refine hQ _ _ _ ?_
 rw [k_body_normal]
 simp only [go_sem, seval, aF201]
 rw [retQ_some]
 exact St.set_set _ _ _ _
theorem len199 (d n : Nat) (S : St) : ACalls Tryz.prog 199 [slE d n] S fun r S' => r = .int .i64 n ∧ S' = S := by
 refine run_of hmix Tryz.func199 cF199 rfl fun hL Q hQ => ?_
 simp only [go_sem, seval, aF199, slE]
 refine fin_at hQ rfl ?_; simp only [go_sem, seval, aF199]; rw [retQ_some]; simp only [oneOr]
 exact ⟨trivial, trivial⟩
end Go.Proofs.YtegaklgjcicnfaaGreat
namespace Go.Proofs.YtegaklgjcicnfaaGreat
open Go Go.Proofs.YtegaklgjcicnfaaGreat.Abs
def pI (q o : Nat) : Value := .iface 147 (.pointer (some ⟨q, o, none⟩))
section
variable {S S' : St} {q o : Nat}
theorem meth_len : methA Tryz.prog S 147 (.pointer (some ⟨q, o, none⟩)) "Len" = (ldv S false q o 1).map fun u => (199, u) := by kernel_rfl
theorem meth_less : methA Tryz.prog S 147 (.pointer (some ⟨q, o, none⟩)) "Less" = (ldv S false q o 1).map fun u => (200, u) := by kernel_rfl
theorem meth_swap : methA Tryz.prog S 147 (.pointer (some ⟨q, o, none⟩)) "Swap" = (ldv S false q o 1).map fun u => (201, u) := by kernel_rfl
theorem meth_push : methA Tryz.prog S 147 (.pointer (some ⟨q, o, none⟩)) "Push" = some (209, .pointer (some ⟨q, o, none⟩)) := by kernel_rfl
theorem meth_pop : methA Tryz.prog S 147 (.pointer (some ⟨q, o, none⟩)) "Pop" = some (208, .pointer (some ⟨q, o, none⟩)) := by kernel_rfl
/-- A pile, in a place of some row. -/
structure PA (S : St) (q o : Nat) (qs : List Value) (d n : Nat) (xs : List En) : Prop where
 row : S.blk q = some ⟨false, qs⟩
 at_ : qs[o]? = some (slE d n)
 pb : PB S d n xs
 ne : q ≠ d
theorem PA.ld {qs : List Value} {d n : Nat} {xs : List En} (h : PA S q o qs d n xs) : ldv S false q o 1 = some (slE d n) := by rw [ldv_false, rd_of_blk h.row]; exact h.at_
theorem PA.keeps {qs : List Value} {d n : Nat} {xs : List En} (h : PA S q o qs d n xs) (hL : Live S) (hk : KeepsAll S S') : PA S' q o qs d n xs :=
 ⟨(hk.2 _ (hL _ _ h.row) trivial).trans h.row, h.at_, ⟨(hk.2 _ (hL _ _ h.pb.blk) trivial).trans h.pb.blk, h.pb.le⟩, h.ne⟩
theorem PA.sw {qs : List Value} {d n : Nat} {xs : List En} (h : PA S q o qs d n xs) (i j : Nat) : PA (S.set d ⟨false, enC (sw xs i j)⟩) q o qs d n (Go.Proofs.YtegaklgjcicnfaaGreat.sw xs i j) :=
 ⟨by rw [St.blk_set, if_neg h.ne]; exact h.row, h.at_, ⟨blk_set_self _ _ _, by rw [sw_len]; exact h.pb.le⟩, h.ne⟩
theorem mK_eq {P : Program} {d : Option Nat} {r : ATree} {t : Env} {K : Env → St → Prop} {ty : TypeId} {v rv : Value} {name : String} {args : List Value} {f : FuncId} (h : methA P S ty v name = some (f, rv)) : mK P (.iface ty v) name args S d r t K = (enters P f = true ∧ cK P f (rv :: args) S d r t K) := by
 unfold mK
 simp only [h]
theorem mLess {qs : List Value} {d n : Nat} {xs : List En} (h : PA S q o qs d n xs) : methA Tryz.prog S 147 (.pointer (some ⟨q, o, none⟩)) "Less" = some (200, slE d n) := by rw [meth_less, h.ld]; rfl
theorem mSwap {qs : List Value} {d n : Nat} {xs : List En} (h : PA S q o qs d n xs) : methA Tryz.prog S 147 (.pointer (some ⟨q, o, none⟩)) "Swap" = some (201, slE d n) := by rw [meth_swap, h.ld]; rfl
theorem mLen {qs : List Value} {d n : Nat} {xs : List En} (h : PA S q o qs d n xs) : methA Tryz.prog S 147 (.pointer (some ⟨q, o, none⟩)) "Len" = some (199, slE d n) := by rw [meth_len, h.ld]; rfl
set_option maxHeartbeats 1000000 in
theorem up110 {qs : List Value} {d n : Nat} (xs0 : List En) (j0 : Nat) (h : PA S q o qs d n xs0) (hn : n ≤ 1000000) (hj0 : j0 < n) (hu : UpI xs0 n j0) : ACalls Tryz.prog 110 [pI q o, .int .i64 j0] S fun r S' => ∃ xs, PA S' q o qs d n xs ∧ xs.Perm xs0 ∧ HeapN xs n ∧ Keeps S S' (· ≠ d) := by
 refine run_of hmix Tryz.func110 cF110 rfl fun hL Q hQ => ?_
 have fin : ∀ (S9 : St) (xs : List En), PA S9 q o qs d n xs → xs.Perm xs0 → HeapN xs n → Keeps S S9 (· ≠ d) → ∃ xs, PA S9 q o qs d n xs ∧ xs.Perm xs0 ∧ HeapN xs n ∧ Keeps S S9 (· ≠ d) := fun S9 xs a b c e => ⟨xs, a, b, c, e⟩
 simp only [go_sem, seval, aF110, pI]
 refine lK_of (fun t' S' => ∃ (j : Nat) (xs : List En), j < n ∧ PA S' q o qs d n xs ∧ xs.Perm xs0 ∧ UpI xs n j ∧ Live S' ∧ Keeps S S' (· ≠ d) ∧ Slots t' [(0, pI q o), (1, .int .i64 j)]) (fun t' _ => (RowKit.intOf (t' 1)).toNat) ?_ ?_
 ·refine ⟨j0, xs0, hj0, h, .refl _, hu, hL, Keeps.refl _ _, ?_⟩
  simp only [go_sem, seval, Int.natCast_add, Int.natCast_succ, pI]
 rintro t1 S1 Q1 ⟨j, xs, hj, hP, hp, hU, hL1, hk1, hs⟩ _ hN hE
 simp only [slots_cons, slots_nil, pI] at hs
 by_cases hz : j = 0
 ·subst hz
  have hq0 : IntKind.i64.wrap (Int.tdiv (-1) 2) = 0 := by decide
  simp only [go_sem, seval, hs, hq0]
  refine hE _ _ _ (by simp) ?_
  simp only [go_sem, seval, hs]
  refine hQ _ _ _ ?_
  rw [k_body_normal]
  simp only [go_sem, seval, aF110]
  rw [retQ_some]
  exact fin _ _ hP hp (hU.done (.inl rfl)) hk1
 have hw : IntKind.i64.wrap ((j : Int) - 1) = ((j - 1 : Nat) : Int) := by rw [wrap64_id (by omega) (by omega)]; omega
 have hq : IntKind.i64.wrap (Int.tdiv ((j - 1 : Nat) : Int) 2) = (((j - 1) / 2 : Nat) : Int) := by
  rw [Int.tdiv_eq_ediv_of_nonneg (by omega), wrap64_id (by omega) (by omega)]; omega
 have hne : ((((j - 1) / 2 : Nat) : Int) == (j : Int)) = false := by
  rw [beq_eq_false_iff_ne]; omega
 simp only [go_sem, seval, hs, hw, hq, hne]
 rw [mK_eq (mLess hP)]
 refine ⟨by kernel_rfl, cK_of (less200 d n j ((j - 1) / 2) xs S1 hP.pb hj (by omega)) ?_⟩
 rintro v S2 _ hL2 ⟨rfl, hk2⟩
 have hP2 := hP.keeps hL1 hk2
 have hk12 : Keeps S S2 (· ≠ d) := hk1.trans hk2 fun _ _ _ => trivial
 by_cases hl : ltE (g xs j) (g xs ((j - 1) / 2))
 ·simp only [go_sem, seval, hs, hl, decide_true]
  rw [mK_eq (mSwap hP2)]
  refine ⟨by kernel_rfl, cK_of (swap201 d n ((j - 1) / 2) j xs S2 hP2.pb (by omega) hj) ?_⟩
  rintro v S3 _ hL3 rfl
  simp only [go_sem, seval, hs]
  refine hN _ _ ⟨(j - 1) / 2, sw xs ((j - 1) / 2) j, by omega, hP2.sw _ _, (sw_perm (by have := hP.pb.le; omega) (by have := hP.pb.le; omega)).trans hp, hU.step hP.pb.le hj (by omega) hl, hL3, hk12.set (fun i _ h => h) _, ?_⟩ ?_
  ·simp only [go_sem, seval, Int.natCast_add, Int.natCast_succ, hs, pI]
  ·simp only [go_sem, seval, hs]
   simp [RowKit.intOf]
   omega
 ·simp only [go_sem, seval, hs, hl, decide_false]
  refine hE _ _ _ (by simp) ?_
  simp only [go_sem, seval, hs]
  refine hQ _ _ _ ?_
  rw [k_body_normal]
  simp only [go_sem, seval, aF110]
  rw [retQ_some]
  exact fin _ _ hP2 hp (hU.done (.inr hl)) hk12
set_option maxHeartbeats 1000000 in
theorem down111 {qs : List Value} {d n m : Nat} (xs0 : List En) (h : PA S q o qs d n xs0) (hn : n ≤ 1000000) (hm : m ≤ n) (hu : DnI xs0 m 0) : ACalls Tryz.prog 111 [pI q o, .int .i64 0, .int .i64 m] S fun r S' => ∃ xs, PA S' q o qs d n xs ∧ xs.Perm xs0 ∧ HeapN xs m ∧ (∀ k, m ≤ k → g xs k = g xs0 k) ∧ Keeps S S' (· ≠ d) := by
 refine run_of hmix Tryz.func111 cF111 rfl fun hL Q hQ => ?_
 simp only [go_sem, seval, aF111, pI]
 refine lK_of (fun t' S' => ∃ (i : Nat) (xs : List En), i ≤ m ∧ PA S' q o qs d n xs ∧ xs.Perm xs0 ∧ DnI xs m i ∧ (∀ k, m ≤ k → g xs k = g xs0 k) ∧ Live S' ∧ Keeps S S' (· ≠ d) ∧ Slots t' [(0, pI q o), (1, .int .i64 0), (2, .int .i64 m), (7, .int .i64 i)]) (fun t' _ => m - (RowKit.intOf (t' 7)).toNat) ?_ ?_
 ·refine ⟨0, xs0, by omega, h, .refl _, hu, fun _ _ => rfl, hL, Keeps.refl _ _, ?_⟩
  simp only [go_sem, seval, Int.natCast_add, Int.natCast_succ, pI]
 rintro t1 S1 Q1 ⟨i, xs, hi, hP, hp, hU, hr, hL1, hk1, hs⟩ _ hN hE
 simp only [slots_cons, slots_nil, pI] at hs
 have fin : ∀ (S9 : St) (t9 : Env) (b : Bool), PA S9 q o qs d n xs → HeapN xs m → Keeps S S9 (· ≠ d) → t9 6 = .bool b → Q .ret t9 S9 := fun S9 t9 b a1 a2 a3 a4 => by
  refine hQ _ _ _ ?_
  rw [k_body_ret]
  simp only [go_sem, seval, aF111, a4]
  rw [retQ_some]
  exact ⟨xs, a1, hp, a2, hr, a3⟩
 have hw1 : IntKind.i64.wrap (2 * (i : Int)) = ((2 * i : Nat) : Int) := by rw [wrap64_id (by omega) (by omega)]; omega
 have hw2 : IntKind.i64.wrap (((2 * i : Nat) : Int) + 1) = ((2 * i + 1 : Nat) : Int) := by rw [wrap64_id (by omega) (by omega)]; omega
 have hw3 : IntKind.i64.wrap (((2 * i + 1 : Nat) : Int) + 1) = ((2 * i + 2 : Nat) : Int) := by rw [wrap64_id (by omega) (by omega)]; omega
 by_cases hc : m ≤ 2 * i + 1
 ·simp only [go_sem, seval, hs, hw1, hw2, decide_eq_true (show ((2 * i + 1 : Nat) : Int) ≥ m by omega)]
  refine hE _ _ _ (by simp) ?_
  simp only [go_sem, seval, hs]
  exact fin _ _ _ hP (hU.done fun k h0 hk hki => by omega) hk1 (by simp only [go_sem, seval]; rfl)
 simp only [go_sem, seval, hs, hw1, hw2, hw3, decide_eq_false (show ¬ ((2 * i + 1 : Nat) : Int) ≥ m by omega), decide_eq_false (show ¬ ((2 * i + 1 : Nat) : Int) < 0 by omega)]
 refine gK_cut (fun t' S' => Live S' ∧ PA S' q o qs d n xs ∧ Keeps S S' (· ≠ d) ∧ Slots t' [(0, pI q o), (1, .int .i64 0), (2, .int .i64 m), (7, .int .i64 i), (8, .int .i64 (2 * i + 1 : Nat)), (9, .int .i64 (2 * i + 1 : Nat)), (10, .int .i64 (2 * i + 2 : Nat))] ∧ ∃ b : Bool, t' 33 = .bool b ∧ (b = true ↔ (2 * i + 2 < m ∧ ltE (g xs (2 * i + 2)) (g xs (2 * i + 1))))) ?_ ?_
 ·by_cases hj2 : 2 * i + 2 < m
  ·simp only [go_sem, seval, hs, decide_eq_true (show ((2 * i + 2 : Nat) : Int) < m by omega)]
   rw [mK_eq (mLess hP)]
   refine ⟨by kernel_rfl, cK_of (less200 d n (2 * i + 2) (2 * i + 1) xs S1 hP.pb (by omega) (by omega)) ?_⟩
   rintro v S2 _ hL2 ⟨rfl, hk2⟩
   simp only [go_sem, seval, hs]
   refine ⟨hL2, hP.keeps hL1 hk2, hk1.trans hk2 fun _ _ _ => trivial, ?_, _, rfl, ?_⟩
   ·simp only [go_sem, seval, Int.natCast_add, Int.natCast_succ, hs, pI]
   ·simp [hj2]
  ·simp only [go_sem, seval, hs, decide_eq_false (show ¬ ((2 * i + 2 : Nat) : Int) < m by omega)]
   refine ⟨hL1, hP, hk1, ?_, _, rfl, ?_⟩
   ·simp only [go_sem, seval, Int.natCast_add, Int.natCast_succ, hs, pI]
   ·simp [hj2]
 rintro t2 S2 ⟨hL2, hP2, hk2, hs2, b, hb33, hb⟩
 simp only [slots_cons, slots_nil, pI] at hs2
 simp only [go_sem, seval, hs2, hb33]
 refine iK_cut (fun t' S' => S' = S2 ∧ ∃ j : Nat, 0 < j ∧ j < m ∧ (j - 1) / 2 = i ∧ (∀ k, 0 < k → k < m → (k - 1) / 2 = i → ¬ ltE (g xs k) (g xs j)) ∧ Slots t' [(0, pI q o), (1, .int .i64 0), (2, .int .i64 m), (7, .int .i64 i), (9, .int .i64 j)]) ?_ ?_
 ·intro Q6 hN6 hE6
  have hch : ∀ k, 0 < k → k < m → (k - 1) / 2 = i → k = 2 * i + 1 ∨ k = 2 * i + 2 := fun k h0 hk hki => by omega
  cases b
  ·simp only [go_sem, seval, hs2]
   refine hN6 _ _ ⟨rfl, 2 * i + 1, by omega, by omega, by omega, fun k h0 hk hki => ?_, ?_⟩
   ·rcases hch k h0 hk hki with rfl | rfl
    ·exact ltE_irrefl _
    ·exact fun hl => by have := hb.2 ⟨hk, hl⟩; cases this
   ·simp only [go_sem, seval, Int.natCast_add, Int.natCast_succ, hs2, pI]
  ·have hb' := hb.1 rfl
   simp only [go_sem, seval, hs2]
   refine hN6 _ _ ⟨rfl, 2 * i + 2, by omega, by omega, by omega, fun k h0 hk hki => ?_, ?_⟩
   ·rcases hch k h0 hk hki with rfl | rfl
    ·exact ltE_asymm hb'.2
    ·exact ltE_irrefl _
   ·simp only [go_sem, seval, Int.natCast_add, Int.natCast_succ, hs2, pI]
 rintro t3 S3 ⟨rfl, j, hj0, hjm, hji, hmin, hs3⟩
 simp only [slots_cons, slots_nil, pI] at hs3
 simp only [go_sem, seval, hs3]
 rw [mK_eq (mLess hP2)]
 refine ⟨by kernel_rfl, cK_of (less200 d n j i xs S3 hP2.pb (by omega) (by omega)) ?_⟩
 rintro v S4 _ hL4 ⟨rfl, hk4⟩
 have hP4 := hP2.keeps hL2 hk4
 have hk24 : Keeps S S4 (· ≠ d) := hk2.trans hk4 fun _ _ _ => trivial
 by_cases hl : ltE (g xs j) (g xs i)
 ·simp only [go_sem, seval, hs3, hl, decide_true]
  rw [mK_eq (mSwap hP4)]
  refine ⟨by kernel_rfl, cK_of (swap201 d n i j xs S4 hP4.pb (by omega) (by omega)) ?_⟩
  rintro v S5 _ hL5 rfl
  have hle := hP4.pb.le
  simp only [go_sem, seval, hs3]
  refine hN _ _ ⟨j, sw xs i j, by omega, hP4.sw _ _, (sw_perm (by omega) (by omega)).trans hp, hU.step (by omega) hjm hj0 hji hl hmin, fun k hk => ?_, hL5, hk24.set (fun i _ h => h) _, ?_⟩ ?_
  ·rw [g_sw (by omega) (by omega), if_neg (by omega), if_neg (by omega)]
   exact hr k hk
  ·simp only [go_sem, seval, Int.natCast_add, Int.natCast_succ, hs3, pI]
  ·simp only [go_sem, seval, hs3]
   simp [RowKit.intOf, hs]
   omega
 ·simp only [go_sem, seval, hs3, hl, decide_false]
  refine hE _ _ _ (by simp) ?_
  simp only [go_sem, seval, hs3]
  exact fin _ _ _ hP4 (hU.done fun k h0 hk hki => geE_trans (hmin k h0 hk hki) hl) hk24 (by simp only [go_sem, seval]; rfl)
end
end Go.Proofs.YtegaklgjcicnfaaGreat
namespace Go.Proofs.YtegaklgjcicnfaaGreat
open Go Go.Proofs.YtegaklgjcicnfaaGreat.Abs
/-- An agenda onto which something may be added. -/
structure AgO (S : St) (q o : Nat) (qs : List Value) (x : Value) (es : List En) : Prop where
 row : S.blk q = some ⟨false, qs⟩
 at_ : qs[o]? = some x
 own : Own S 3 x es.length (enC es)
 heap : Heap es
 ne : Value.blkOf x ≠ some q
theorem enC_one (e : En) : enC [e] = e.cells := by simp [enC]
section
variable {S S' : St} {q o : Nat}
theorem AgO.keeps {qs : List Value} {x : Value} {es : List En} (h : AgO S q o qs x es) (hL : Live S) {P : Nat → Prop} (hk : Keeps S S' P) (h1 : P q) (h2 : ∀ i, Value.blkOf x = some i → P i) : AgO S' q o qs x es :=
 ⟨(hk.2 _ (hL _ _ h.row) h1).trans h.row, h.at_, h.own.keeps hL hk h2, h.heap, h.ne⟩
set_option maxHeartbeats 1000000 in
theorem push209 {qs : List Value} {x : Value} {es : List En} (e : En) (h : AgO S q o qs x es) (hn : es.length ≤ 1000000) : ACalls Tryz.prog 209 [.pointer (some ⟨q, o, none⟩), .iface 115 (.agg e.cells.toArray)] S fun r S' =>
  ∃ d, PA S' q o (qs.set o (slE d (es.length + 1))) d (es.length + 1) (es ++ [e]) ∧ Keeps S S' (fun i => i ≠ q ∧ Value.blkOf x ≠ some i) ∧ (Value.blkOf x = some d ∨ S.next ≤ d) ∧ Own S' 3 (slE d (es.length + 1)) (es ++ [e]).length (enC (es ++ [e])) := by
 refine run_of hmix Tryz.func209 cF209 rfl fun hL Q hQ => ?_
 obtain ⟨ek, et, en⟩ := e
 have ho := rd_of_blk h.row o
 simp only [h.at_] at ho
 obtain ⟨xa, xe, rfl⟩ := h.own.sl.slice
 simp only [go_sem, seval, aF209, En.cells, ho]
 refine hK_of (appN hL (by decide) h.own rfl (by omega)) ?_
 rintro v S1 ⟨⟨va, ve, rfl⟩, hA⟩
 obtain ⟨d, hv, hbd, hlen⟩ := hA.own.ne (by omega)
 cases hv
 have hq1 : S1.blk q = some ⟨false, qs⟩ := (hA.keep.2 _ (hL _ _ h.row) h.ne).trans h.row
 have hol : o + 1 ≤ qs.length := (List.getElem?_eq_some_iff.1 h.at_).1
 have hdq := hA.new d rfl
 have hqd : q ≠ d := fun e' => by
  subst e'
  rcases hdq with h1 | h1
  ·exact h.ne h1
  ·have := hL _ _ h.row; omega
 simp only [go_sem, seval, hq1, hol]
 refine hQ _ _ _ ?_
 rw [k_body_normal]
 simp only [go_sem, seval, aF209]
 rw [retQ_some]
 have e1 : enC (es ++ [⟨ek, et, en⟩]) = enC es ++ [.int .i64 ek, .int .i64 et, .int .i64 en] := by rw [enC_app, enC_one]; rfl
 refine ⟨d, ⟨blk_set_self _ _ _, List.getElem?_set_self (by omega), ⟨?_, by simp⟩, hqd⟩, (hA.keep.mono fun i _ h => h.2).set (fun i _ h => h.1) _, hdq, ?_⟩
 ·rw [St.blk_set, if_neg (Ne.symm hqd), hbd, e1]
 ·refine .inr ⟨d, ?_, ?_, by rw [enC_len]⟩
  ·simp [slE]
  ·rw [St.blk_set, if_neg (Ne.symm hqd), hbd, e1]
set_option maxHeartbeats 1000000 in
set_option maxRecDepth 4000 in
theorem push75 {qs : List Value} {x : Value} {es : List En} (e : En) (h : AgO S q o qs x es) (hn : es.length ≤ 900000) : ACalls Tryz.prog 75 [pI q o, .iface 115 (.agg e.cells.toArray)] S fun r S' =>
  ∃ x' es', AgO S' q o (qs.set o x') x' es' ∧ es'.Perm (e :: es) ∧ Keeps S S' (fun i => i ≠ q ∧ Value.blkOf x ≠ some i) ∧ ∀ i, Value.blkOf x' = some i → Value.blkOf x = some i ∨ S.next ≤ i := by
 refine run_of hmix Tryz.func75 cF75 rfl fun hL Q hQ => ?_
 simp only [go_sem, seval, aF75, pI]
 rw [mK_eq meth_push]
 refine ⟨by kernel_rfl, cK_of (push209 e h (by omega)) ?_⟩
 rintro v S1 _ hL1 ⟨d, hP, hk, hd, hown⟩
 simp only [go_sem, seval]
 rw [mK_eq (mLen hP)]
 refine ⟨by kernel_rfl, cK_of (len199 d _ S1) ?_⟩
 rintro v S2 _ hL2 ⟨rfl, hS2⟩
 obtain rfl := hS2.symm
 have hw : IntKind.i64.wrap ((es.length + 1 : Nat) - 1 : Int) = (es.length : Int) := by rw [wrap64_id (by omega) (by omega)]; omega
 simp only [go_sem, seval, hw]
 refine cK_of (up110 (es ++ [e]) es.length hP (by omega) (by omega) (h.heap.push e)) ?_
 rintro v S3 _ hL3 ⟨xs, hP3, hp3, hh3, hk3⟩
 refine hQ _ _ _ ?_
 rw [k_body_normal]
 simp only [go_sem, seval, aF75]
 rw [retQ_some]
 have hl : xs.length = es.length + 1 := by rw [hp3.length_eq]; simp
 refine ⟨_, xs, ⟨hP3.row, hP3.at_, .inr ⟨d, by rw [hl]; rfl, hP3.pb.blk, by rw [enC_len]⟩, by unfold Heap; rw [hl]; exact hh3, ?_⟩, hp3.trans (List.perm_append_singleton e es), ?_, ?_⟩
 ·simp only [slE, Value.blkOf, ne_eq, Option.some.injEq]
  exact fun e' => hP3.ne e'.symm
 ·refine ⟨Nat.le_trans hk.1 hk3.1, fun i hi hp => ?_⟩
  rw [hk3.2 i (by have := hk.1; omega) (fun e' => by
   subst e'
   rcases hd with h1 | h1
   ·exact hp.2 h1
   ·omega)]
  exact hk.2 i hi hp
 ·intro i hi
  simp only [slE, Value.blkOf, Option.some.injEq] at hi
  subst hi
  exact hd
theorem add45 {qs : List Value} {x : Value} {es : List En} (e : En) (h : AgO S q o qs x es) (hn : es.length ≤ 900000) : ACalls Tryz.prog 45 [.pointer (some ⟨q, o, none⟩), .agg e.cells.toArray] S fun r S' =>
  ∃ x' es', AgO S' q o (qs.set o x') x' es' ∧ es'.Perm (e :: es) ∧ Keeps S S' (fun i => i ≠ q ∧ Value.blkOf x ≠ some i) ∧ ∀ i, Value.blkOf x' = some i → Value.blkOf x = some i ∨ S.next ≤ i := by
 refine run_of hmix Tryz.func45 cF45 rfl fun hL Q hQ => ?_
 have hpe := push75 e h hn
 have he : e.cells = [.int .i64 e.k, .int .i64 e.t, .int .i64 e.n] := rfl
 rw [he] at hpe ⊢
 simp only [go_sem, seval, aF45]
 refine cK_of hpe ?_
 rintro v S1 _ hL1 hR
 refine hQ _ _ _ ?_
 rw [k_body_normal]
 simp only [go_sem, seval, aF45]
 rw [retQ_some]
 exact hR
end
end Go.Proofs.YtegaklgjcicnfaaGreat
namespace Go.Proofs.YtegaklgjcicnfaaGreat
open Go Go.Proofs.YtegaklgjcicnfaaGreat.Abs
theorem g_take {xs : List En} {n j : Nat} (h : j < n) : g (xs.take n) j = g xs j := by simp [g, List.getD_eq_getElem?_getD, List.getElem?_take, h]
theorem pop_perm {xs xs2 : List En} {m : Nat} (hle : m + 1 ≤ xs.length) (hp : xs2.Perm (sw xs 0 m)) (hr : ∀ k, m ≤ k → g xs2 k = g (sw xs 0 m) k) : (xs.take (m + 1)).Perm (g xs 0 :: xs2.take m) := by
 have hl : xs2.length = (sw xs 0 m).length := hp.length_eq
 have hl2 := sw_len xs 0 m
 have hd : xs2.drop m = (sw xs 0 m).drop m := by
  apply List.ext_getElem
  ·simp [hl]
  ·intro i h1 h2
   rw [List.length_drop] at h1 h2
   have := hr (m + i) (by omega)
   rw [g_get (by omega), g_get (by omega)] at this
   simpa using this
 have ht : (xs2.take m).Perm ((sw xs 0 m).take m) := by
  have h1 : (xs2.take m ++ xs2.drop m).Perm ((sw xs 0 m).take m ++ (sw xs 0 m).drop m) := by rw [List.take_append_drop, List.take_append_drop]; exact hp
  rw [hd] at h1
  exact (List.perm_append_right_iff _).1 h1
 have hs : (sw xs 0 m).take (m + 1) = sw (xs.take (m + 1)) 0 m := by
  unfold sw
  rw [List.take_set, List.take_set, g_take (by omega), g_take (by omega)]
 have h1 : ((sw xs 0 m).take (m + 1)).Perm (xs.take (m + 1)) := by
  rw [hs]
  exact sw_perm (by rw [List.length_take]; omega) (by rw [List.length_take]; omega)
 have h2 : (sw xs 0 m).take (m + 1) = (sw xs 0 m).take m ++ [g xs 0] := by
  rw [List.take_succ_eq_append_getElem (by omega), ← g_get, g_sw (by omega) (by omega), if_pos rfl]
 rw [h2] at h1
 exact h1.symm.trans ((List.perm_append_singleton _ _).trans (ht.symm.cons _))
/-- An agenda. -/
structure Ag (S : St) (q o : Nat) (qs : List Value) (x : Value) (es : List En) : Prop where
 row : S.blk q = some ⟨false, qs⟩
 at_ : qs[o]? = some x
 heap : Heap es
 val : (x = .slice none 0 0 ∧ es = []) ∨ ∃ d xs, x = slE d es.length ∧ PB S d es.length xs ∧ q ≠ d ∧ xs.take es.length = es
section
variable {S S' : St} {q o : Nat} {qs : List Value} {x : Value} {es : List En}
theorem AgO.ag (h : AgO S q o qs x es) : Ag S q o qs x es := by
 refine ⟨h.row, h.at_, h.heap, ?_⟩
 rcases h.own with ⟨h1, h2, h3⟩ | ⟨d, h1, h2, h3⟩
 ·exact .inl ⟨h1, List.eq_nil_of_length_eq_zero h2⟩
 ·exact .inr ⟨d, es, h1, ⟨h2, Nat.le_refl _⟩, fun e => h.ne (by rw [h1, e]; rfl), List.take_length⟩
theorem Ag.keeps (h : Ag S q o qs x es) (hL : Live S) {P : Nat → Prop} (hk : Keeps S S' P) (h1 : P q) (h2 : ∀ i, Value.blkOf x = some i → P i) : Ag S' q o qs x es := by
 refine ⟨(hk.2 _ (hL _ _ h.row) h1).trans h.row, h.at_, h.heap, ?_⟩
 rcases h.val with ⟨h3, h4⟩ | ⟨d, xs, h3, h4, h5, h6⟩
 ·exact .inl ⟨h3, h4⟩
 ·exact .inr ⟨d, xs, h3, ⟨(hk.2 _ (hL _ _ h4.blk) (h2 d (by rw [h3]; rfl))).trans h4.blk, h4.le⟩, h5, h6⟩
theorem Ag.cons {e : En} {r : List En} (h : Ag S q o qs x (e :: r)) : ∃ d xs, x = slE d (r.length + 1) ∧ PA S q o qs d (r.length + 1) xs ∧ xs.take (r.length + 1) = e :: r ∧ HeapN xs (r.length + 1) ∧ g xs 0 = e := by
 rcases h.val with ⟨_, h4⟩ | ⟨d, xs, h3, h4, h5, h6⟩
 ·cases h4
 ·refine ⟨d, xs, h3, ⟨h.row, by rw [h.at_, h3]; rfl, h4, h5⟩, h6, fun i h0 hi => ?_, ?_⟩
  ·have := h.heap i h0 hi
   rw [← h6] at this
   rw [g_take (by simpa using hi), g_take (by simp at hi ⊢; omega)] at this
   exact this
  ·have : g (xs.take (e :: r).length) 0 = g xs 0 := g_take (by simp)
   rw [← this, h6]
   rfl
theorem pop208 {d m : Nat} {xs : List En} (h : PA S q o qs d (m + 1) xs) (hm : m ≤ 1000000) : ACalls Tryz.prog 208 [.pointer (some ⟨q, o, none⟩)] S fun r S' => r = .iface 115 (.agg (g xs m).cells.toArray) ∧ S' = S.set q ⟨false, qs.set o (slE d m)⟩ := by
 refine run_of hmix Tryz.func208 cF208 rfl fun hL Q hQ => ?_
 have ho := rd_of_blk h.row o
 simp only [h.at_, slE] at ho
 have hw : IntKind.i64.wrap ((m + 1 : Nat) - 1 : Int) = (m : Int) := by rw [wrap64_id (by omega) (by omega)]; omega
 have hm0 : (0 : Int) ≤ m := by omega
 have hm1 : (m : Int) < (m + 1 : Nat) := by omega
 have hc := h.pb.at (i := m) (by omega)
 have hr := h.row
 have hol : o + 1 ≤ qs.length := (List.getElem?_eq_some_iff.1 h.at_).1
 have n1 : (g xs m).cells.length = 3 := rfl
 have f1 : (0 ≤ m ∧ m ≤ m + 1) = True := eq_true ⟨Nat.zero_le _, Nat.le_succ _⟩
 simp only [go_sem, seval, aF208, ho, hw, hm0, hm1, Int.toNat_natCast, Nat.zero_add, hc, hr, hol, n1, f1, Nat.sub_zero]
 refine fin_at hQ rfl ?_; simp only [go_sem, seval, aF208]; rw [retQ_some]; simp only [oneOr]
 exact ⟨rfl, rfl⟩
set_option maxHeartbeats 1000000 in
set_option maxRecDepth 4000 in
theorem pop76 {d m : Nat} {xs : List En} (h : PA S q o qs d (m + 1) xs) (hm : m ≤ 900000) (hh : HeapN xs (m + 1)) : ACalls Tryz.prog 76 [pI q o] S fun r S' => r = .iface 115 (.agg (g xs 0).cells.toArray) ∧
  ∃ xs2, PA S' q o (qs.set o (slE d m)) d m xs2 ∧ HeapN xs2 m ∧ (xs.take (m + 1)).Perm (g xs 0 :: xs2.take m) ∧ Keeps S S' (fun i => i ≠ q ∧ i ≠ d) := by
 refine run_of hmix Tryz.func76 cF76 rfl fun hL Q hQ => ?_
 simp only [go_sem, seval, aF76, pI]
 rw [mK_eq (mLen h)]
 refine ⟨by kernel_rfl, cK_of (len199 d _ S) ?_⟩
 rintro v S1 _ hL1 ⟨rfl, hS1⟩
 obtain rfl := hS1.symm
 have hw : IntKind.i64.wrap ((m + 1 : Nat) - 1 : Int) = (m : Int) := by rw [wrap64_id (by omega) (by omega)]; omega
 simp only [go_sem, seval, hw]
 rw [mK_eq (mSwap h)]
 refine ⟨by kernel_rfl, cK_of (swap201 d (m + 1) 0 m xs S h.pb (by omega) (by omega)) ?_⟩
 rintro v S2 _ hL2 hS2
 have hle := h.pb.le
 have hP2 := h.sw 0 m
 rw [← hS2] at hP2
 have hk2 : Keeps S S2 (· ≠ d) := by rw [hS2]; exact (Keeps.refl _ _).set (fun i _ h => h) _
 simp only [go_sem, seval]
 have hP2' : PA S2 q o qs d (m + 1) (sw xs 0 m) := hP2
 have hdn : DnI (sw xs 0 m) m 0 := by
  refine ⟨fun k h0 hk hp => ?_, fun h0 => absurd h0 (by omega)⟩
  rw [g_sw (by omega) (by omega), g_sw (by omega) (by omega), if_neg (by omega), if_neg (by omega), if_neg (by omega), if_neg hp]
  exact hh k h0 (by omega)
 refine cK_of (down111 (m := m) (sw xs 0 m) hP2' (by omega) (by omega) hdn) ?_
 rintro v S3 _ hL3 ⟨xs2, hP3, hp3, hh3, hr3, hk3⟩
 simp only [go_sem, seval]
 rw [mK_eq meth_pop]
 refine ⟨by kernel_rfl, cK_of (pop208 hP3 (by omega)) ?_⟩
 rintro v S4 _ hL4 ⟨rfl, hS4⟩
 simp only [go_sem, seval]
 refine fin_at hQ rfl ?_; simp only [go_sem, seval, aF76]; rw [retQ_some]; simp only [oneOr]
 have hol : o < qs.length := (List.getElem?_eq_some_iff.1 h.at_).1
 have hg : g xs2 m = g xs 0 := by rw [hr3 m (by omega), g_sw (by omega) (by omega), if_pos rfl]
 refine ⟨by rw [hg], xs2, ⟨by rw [hS4, blk_set_self], List.getElem?_set_self hol, ⟨by rw [hS4, St.blk_set, if_neg (Ne.symm hP3.ne)]; exact hP3.pb.blk, by have := hP3.pb.le; omega⟩, hP3.ne⟩, hh3, pop_perm hle hp3 hr3, ?_⟩
 rw [hS4]
 exact ((hk2.trans hk3 fun _ _ h => h).mono fun i _ h => h.2).set (fun i _ h => h.1) _
theorem next_nil (h : Ag S q o qs x []) : ACalls Tryz.prog 46 [.pointer (some ⟨q, o, none⟩)] S fun r S' => r = .tuple #[.agg En.zero.cells.toArray, .bool false] ∧ S' = S := by
 refine run_of hmix Tryz.func46 cF46 rfl fun hL Q hQ => ?_
 have ho := rd_of_blk h.row o
 simp only [h.at_] at ho
 obtain ⟨a, e, hx⟩ : ∃ a e, x = .slice a 0 e := by
  rcases h.val with ⟨h1, _⟩ | ⟨d, xs, h1, _⟩
  ·exact ⟨_, _, h1⟩
  ·exact ⟨_, _, h1⟩
 rw [hx] at ho
 simp only [go_sem, seval, aF46, ho]
 refine fin_at hQ rfl ?_; simp only [go_sem, seval, aF46]; rw [retQ_some]; simp only [oneOr]
 exact ⟨rfl, trivial⟩
theorem peek_nil (h : Ag S q o qs x []) : ACalls Tryz.prog 89 [.pointer (some ⟨q, o, none⟩)] S fun r S' => r = .tuple #[.agg En.zero.cells.toArray, .bool false] ∧ S' = S := by
 refine run_of hmix Tryz.func89 cF89 rfl fun hL Q hQ => ?_
 have ho := rd_of_blk h.row o
 simp only [h.at_] at ho
 obtain ⟨a, e, hx⟩ : ∃ a e, x = .slice a 0 e := by
  rcases h.val with ⟨h1, _⟩ | ⟨d, xs, h1, _⟩
  ·exact ⟨_, _, h1⟩
  ·exact ⟨_, _, h1⟩
 rw [hx] at ho
 simp only [go_sem, seval, aF89, ho]
 refine fin_at hQ rfl ?_; simp only [go_sem, seval, aF89]; rw [retQ_some]; simp only [oneOr]
 exact ⟨rfl, trivial⟩
theorem peek_cons {e : En} {r : List En} (h : Ag S q o qs x (e :: r)) : ACalls Tryz.prog 89 [.pointer (some ⟨q, o, none⟩)] S fun v S' => v = .tuple #[.agg e.cells.toArray, .bool true] ∧ S' = S := by
 refine run_of hmix Tryz.func89 cF89 rfl fun hL Q hQ => ?_
 obtain ⟨d, xs, rfl, hP, ht, hh, hg⟩ := h.cons
 have ho := rd_of_blk h.row o
 simp only [h.at_, slE] at ho
 have hne : (((r.length + 1 : Nat) : Int) == 0) = false := by rw [beq_eq_false_iff_ne]; omega
 have h0 : (0 : Int) < (r.length + 1 : Nat) := by omega
 have hc := hP.pb.at (i := 0) (by omega)
 rw [hg, Nat.zero_mul] at hc
 have n1 : e.cells.length = 3 := rfl
 simp only [go_sem, seval, aF89, ho, hne, h0, hc, n1]
 refine fin_at hQ rfl ?_; simp only [go_sem, seval, aF89, En.cells]; rw [retQ_some]; simp only [oneOr]
 exact ⟨by first | trivial | rfl, by first | trivial | rfl⟩
set_option maxRecDepth 4000 in
theorem next_cons {e : En} {r : List En} (h : Ag S q o qs x (e :: r)) (hn : r.length ≤ 900000) : ACalls Tryz.prog 46 [.pointer (some ⟨q, o, none⟩)] S fun v S' => v = .tuple #[.agg e.cells.toArray, .bool true] ∧
  ∃ x' es', Ag S' q o (qs.set o x') x' es' ∧ es'.Perm r ∧ Keeps S S' (fun i => i ≠ q ∧ Value.blkOf x ≠ some i) ∧ Value.blkOf x' = Value.blkOf x := by
 refine run_of hmix Tryz.func46 cF46 rfl fun hL Q hQ => ?_
 obtain ⟨d, xs, rfl, hP, ht, hh, hg⟩ := h.cons
 have ho := rd_of_blk h.row o
 simp only [h.at_, slE] at ho
 have hne : (((r.length + 1 : Nat) : Int) == 0) = false := by rw [beq_eq_false_iff_ne]; omega
 have n1 : e.cells.length = 3 := rfl
 simp only [go_sem, seval, aF46, ho, hne]
 refine cK_of (pop76 hP hn hh) ?_
 rintro v S1 _ hL1 ⟨rfl, xs2, hP2, hh2, hp2, hk2⟩
 rw [hg]
 simp only [go_sem, seval, n1]
 refine fin_at hQ rfl ?_; simp only [go_sem, seval, aF46, En.cells]; rw [retQ_some]; simp only [oneOr]
 refine ⟨by first | trivial | rfl, slE d r.length, xs2.take r.length, ⟨hP2.row, hP2.at_, hh2.take hP2.pb.le, .inr ⟨d, xs2, ?_, ⟨hP2.pb.blk, ?_⟩, hP2.ne, ?_⟩⟩, ?_, hk2.mono fun i _ hi => ⟨hi.1, fun e' => hi.2 (by rw [e']; rfl)⟩, rfl⟩
 ·rw [List.length_take, Nat.min_eq_left hP2.pb.le]
 ·rw [List.length_take]; omega
 ·rw [List.length_take, Nat.min_eq_left hP2.pb.le]
 ·rw [ht, hg] at hp2
  exact ((List.perm_cons e).1 hp2).symm
end
end Go.Proofs.YtegaklgjcicnfaaGreat
namespace Go.Proofs.YtegaklgjcicnfaaGreat
open Go Go.Proofs.YtegaklgjcicnfaaGreat.Abs
theorem of24_bad (x : Value) (l : List Nd) (S : St) (h : Ns S x l) (hok : ∀ x ∈ l, x.Ok) (hn : l.length ≤ 1000000) (ht : tchk l ≠ 0) :
  ACalls Tryz.prog 24 [x] S fun r S' => r = .tuple #[.pointer none, .int .i64 (tchk l)] ∧ KeepsAll S S' := by
 refine run_of hmix Tryz.func24 cF24 rfl fun hL Q hQ => ?_
 obtain ⟨a, e, rfl⟩ := h.slice
 have hb : (tchk l != 0) = true := by simpa using ht
 simp only [go_sem, seval, aF24]
 refine cK_of (check53 _ l S h hok hn) ?_
 rintro v S0 _ hL0 ⟨k0, rfl⟩
 simp only [go_sem, seval, hb]
 refine fin_at hQ rfl ?_; simp only [go_sem, seval, aF24]; rw [retQ_some]; simp only [oneOr]
 exact ⟨trivial, k0⟩
theorem made_len (n : Nat) : ((madeCells z51.toArray (n * 21)).toList).length = n * 21 := by rw [Array.length_toList, size_madeCells]
theorem made_at {n j : Nat} (h : j < n) : (((madeCells z51.toArray (n * 21)).toList.drop (j * 21)).take 21) = z51 := by
 have h1 : (j + 1) * 21 ≤ n * 21 := Nat.mul_le_mul_right _ h
 apply List.ext_getElem?
 intro i
 rw [List.getElem?_take]
 split
 ·rename_i hi
  rw [List.getElem?_drop, Array.getElem?_toList]
  unfold madeCells
  rw [Array.getElem?_map, Array.getElem?_range]
  rw [if_pos (by omega)]
  have hm : (j * 21 + i) % 21 = i := by rw [Nat.add_comm, Nat.add_mul_mod_self_right, Nat.mod_eq_of_lt hi]
  simp only [Option.map_some]
  show some (z51.toArray[(j * 21 + i) % 21]!) = _
  rw [hm]
  rw [List.getElem?_eq_getElem (by rw [z51_length]; exact hi)]
  congr 1
  rw [getElem!_pos z51.toArray i (by simp [z51_length]; exact hi)]
  simp
 ·rename_i hi
  rw [List.getElem?_eq_none (by rw [z51_length]; omega)]
theorem made_false (n : Nat) : (madeCells #[.bool false] n).toList = List.replicate n (.bool false) := toList_madeCells_one _ _
theorem box_z : BoxOk z51 := ⟨by trivial, fun _ => rfl⟩
section
variable {S S' : St} {hi kp : Nat} {l : List Nd} {wp db dk : Nat} {v0 v1 : Int} {ag x x' : Value} {bad : Bool} {bs ks : List Value} {es es' : List En}
theorem WorkAt.reag (h : WorkAt S hi kp l wp db dk v0 v1 x bad bs ks) (hL : Live S) {P : Nat → Prop} (hk : Keeps S S' P) (hr : S'.blk wp = some ⟨false, workV kp v0 v1 db dk l.length x' bad⟩) (hx : ∃ a i j, x' = .slice a i j) (h1 : P db) (h2 : P dk) (h3 : ∀ i, i < hi → P i) : WorkAt S' hi kp l wp db dk v0 v1 x' bad bs ks :=
 { h with row := hr, box := (hk.2 _ (hL _ _ h.box) h1).trans h.box, kn := (hk.2 _ (hL _ _ h.kn) h2).trans h.kn, kin := h.kin.keep fun i hi' => hk.2 i (by have := h.h3; have := hL _ _ h.row; omega) (h3 i hi'), agS := hx }
theorem Ag.rerow {q o : Nat} {qs qs' : List Value} (h : Ag S q o qs x es) (hr : S'.blk q = some ⟨false, qs'⟩) (ha : qs'[o]? = some x) (hx : ∀ i, Value.blkOf x = some i → S'.blk i = S.blk i) : Ag S' q o qs' x es := by
 refine ⟨hr, ha, h.heap, ?_⟩
 rcases h.val with ⟨h3, h4⟩ | ⟨d, xs, h3, h4, h5, h6⟩
 ·exact .inl ⟨h3, h4⟩
 ·exact .inr ⟨d, xs, h3, ⟨(hx d (by rw [h3]; rfl)).trans h4.blk, h4.le⟩, h5, h6⟩
theorem Ag.lt {q o : Nat} {qs : List Value} (h : Ag S q o qs x es) (hL : Live S) : ∀ i, Value.blkOf x = some i → i < S.next := fun i hi => by
 rcases h.val with ⟨h3, _⟩ | ⟨d, xs, h3, h4, _⟩
 ·rw [h3] at hi; cases hi
 ·rw [h3] at hi; simp only [slE, Value.blkOf, Option.some.injEq] at hi; subst hi; exact hL _ _ h4.blk
theorem Ag.sl {q o : Nat} {qs : List Value} (h : Ag S q o qs x es) : ∃ a i j, x = .slice a i j := by
 rcases h.val with ⟨h3, _⟩ | ⟨d, xs, h3, _⟩
 ·exact ⟨_, _, _, h3⟩
 ·exact ⟨_, _, _, h3⟩
end
section
variable {S : St} {hi kp : Nat} {l : List Nd} {wp db dk : Nat} {v0 v1 : Int} {x : Value} {bad : Bool} {bs ks : List Value} {es : List En}
/-- The next one of a plan's agenda. -/
theorem nextW (h : WorkAt S hi kp l wp db dk v0 v1 x bad bs ks) (hA : Ag S wp 5 (workV kp v0 v1 db dk l.length x bad) x es) (hn : es.length ≤ 900000) (hL : Live S) (hb : ∀ i, Value.blkOf x = some i → i ≠ db ∧ i ≠ dk ∧ hi ≤ i) : ACalls Tryz.prog 46 [.pointer (some ⟨wp, 5, none⟩)] S fun v S' =>
  ∃ e b x' es', v = .tuple #[.agg e.cells.toArray, .bool b] ∧ WorkAt S' hi kp l wp db dk v0 v1 x' bad bs ks ∧ Ag S' wp 5 (workV kp v0 v1 db dk l.length x' bad) x' es' ∧ Keeps S S' (fun i => i ≠ wp ∧ Value.blkOf x ≠ some i) ∧ Value.blkOf x' = Value.blkOf x ∧ (b = false → es = [] ∧ es' = []) ∧ (b = true → ∃ r, es = e :: r ∧ es'.Perm r) := by
 cases es with
 | nil =>
  refine (next_nil hA).mono fun v S' _ ⟨h1, h2⟩ => ?_
  subst h2
  exact ⟨_, false, x, [], h1, h, hA, Keeps.refl _ _, rfl, fun _ => ⟨rfl, rfl⟩, fun hb => by cases hb⟩
 | cons e r =>
  refine (next_cons hA (by simp at hn; omega)).mono fun v S' _ ⟨h1, x', es', h2, h3, h4, h5⟩ => ?_
  have h2' : Ag S' wp 5 (workV kp v0 v1 db dk l.length x' bad) x' es' := h2
  have hh : ∀ i, i ≠ wp → (∀ j, Value.blkOf x = some j → i ≠ j) → i ≠ wp ∧ Value.blkOf x ≠ some i := fun i a b => ⟨a, fun e => b i e rfl⟩
  have hw := h.reag hL h4 h2'.row h2'.sl (hh db (Ne.symm h.n2) fun j hj => Ne.symm (hb j hj).1) (hh dk (Ne.symm h.n3) fun j hj => Ne.symm (hb j hj).2.1) fun i hi' => hh i (by have := h.h3; omega) fun j hj => by have := (hb j hj).2.2; omega
  exact ⟨e, true, x', es', h1, hw, h2', h4, h5, ⟨fun hb => (by cases hb), fun _ => ⟨r, rfl, h3⟩⟩⟩
end
/-- The entry of a node that is out. -/
def enOf (n : Nat) : En := ⟨n, 0, 0⟩
def outs (l : List Nd) (j : Nat) : List En := ((List.range j).filter fun n => outL l n).map enOf
theorem outs_succ (l : List Nd) (j : Nat) : outs l (j + 1) = outs l j ++ if outL l j = true then [enOf j] else [] := by
 unfold outs
 rw [List.range_succ, List.filter_append, List.map_append]
 congr 1
 by_cases h : outL l j = true <;> simp [h]
theorem outs_mem {l : List Nd} {j : Nat} {e : En} (h : e ∈ outs l j) : ∃ n, e = enOf n ∧ n < j ∧ outL l n = true := by
 unfold outs at h
 simp only [List.mem_map, List.mem_filter, List.mem_range] at h
 obtain ⟨n, ⟨h1, h2⟩, rfl⟩ := h
 exact ⟨n, rfl, h1, h2⟩
theorem outs_nodup (l : List Nd) (j : Nat) : (outs l j).Nodup := by
 unfold outs
 rw [List.nodup_iff_pairwise_ne, List.pairwise_map]
 refine List.Pairwise.imp ?_ ((List.nodup_range (n := j)).filter _)
 intro a b h e
 simp only [enOf, En.mk.injEq, and_true] at e
 omega
theorem outL_lt {l : List Nd} {n : Nat} (h : outL l n = true) : 0 < n := by
 unfold outL at h
 simp at h
 exact h.2.1
/-- What of an agenda is left, one being at work. -/
structure Todo (l : List Nd) (e : En) (b : Bool) (es : List En) : Prop where
 mem : ∀ z ∈ es, z ∈ outs l l.length
 nd : es.Nodup
 len : es.length ≤ 900000
 no : b = false → es = []
 yes : b = true → e ∈ outs l l.length ∧ e ∉ es ∧ ∀ z ∈ es, ¬ ltE z e
theorem todo_next {l : List Nd} {es0 es' : List En} {e : En} {b : Bool} (h1 : ∀ z ∈ es0, z ∈ outs l l.length) (h2 : es0.Nodup) (h3 : es0.length ≤ 900000) (h4 : Heap es0) (hf : b = false → es0 = [] ∧ es' = []) (ht : b = true → ∃ r, es0 = e :: r ∧ es'.Perm r) :
  Todo l e b es' ∧ (∀ z ∈ es0, b = true ∧ (e = z ∨ z ∈ es')) ∧ (b = true → es'.length + 1 = es0.length) := by
 cases b with
 | false =>
  obtain ⟨rfl, rfl⟩ := hf rfl
  exact ⟨⟨fun z hz => (by cases hz), List.nodup_nil, by simp, fun _ => rfl, fun h => by cases h⟩, fun z hz => (by cases hz), fun h => by cases h⟩
 | true =>
  obtain ⟨r, rfl, hp⟩ := ht rfl
  obtain ⟨n1, n2⟩ := List.nodup_cons.1 h2
  refine ⟨⟨fun z hz => h1 z (List.mem_cons_of_mem _ (hp.mem_iff.1 hz)), hp.nodup_iff.2 n2, by rw [hp.length_eq]; simp at h3; omega, fun h => (by cases h), fun _ => ⟨h1 e (List.mem_cons_self ..), fun h => n1 (hp.mem_iff.1 h), fun z hz => h4.head z (List.mem_cons_of_mem _ (hp.mem_iff.1 hz))⟩⟩, fun z hz => ⟨rfl, ?_⟩, fun _ => by rw [hp.length_eq]; simp⟩
  rcases List.mem_cons.1 hz with rfl | h
  ·exact .inl rfl
  ·exact .inr (hp.mem_iff.2 h)
theorem Todo.last {l : List Nd} {es : List En} {N : Nat} (h : Todo l (enOf N) true es) (hN : N + 1 = l.length) : es = [] := by
 cases es with
 | nil => rfl
 | cons z r =>
  obtain ⟨n, rfl, h1, h2⟩ := outs_mem (h.mem z (List.mem_cons_self ..))
  obtain ⟨_, h3, h4⟩ := h.yes rfl
  by_cases hn : n = N
  ·subst hn
   exact absurd (List.mem_cons_self ..) h3
  ·exact absurd (show ltE (enOf n) (enOf N) from .inl (by simp [enOf]; omega)) (h4 _ (List.mem_cons_self ..))
theorem Ag.rdn {S : St} {q o : Nat} {qs : List Value} {x : Value} {es : List En} (h : Ag S q o qs x es) : ∃ a e, rd S q o = some (.slice a es.length e) := by
 rw [rd_of_blk h.row, h.at_]
 rcases h.val with ⟨h3, h4⟩ | ⟨d, xs, h3, _⟩
 ·subst h4; exact ⟨none, 0, by rw [h3]; rfl⟩
 ·exact ⟨some ⟨d, 0, none⟩, 3, by rw [h3]; rfl⟩
def agLen (S : St) (wp : Nat) : Nat := match rd S wp 5 with | some (.slice _ n _) => n | _ => 0
theorem agLen_eq {S : St} {q : Nat} {qs : List Value} {x : Value} {es : List En} (h : Ag S q 5 qs x es) : agLen S q = es.length := by
 obtain ⟨a, e, h1⟩ := h.rdn
 unfold agLen
 rw [h1]
def b01 (v : Value) : Nat := match v with | .bool true => 1 | _ => 0
end Go.Proofs.YtegaklgjcicnfaaGreat
namespace Go.Proofs.YtegaklgjcicnfaaGreat
open Go Go.Proofs.YtegaklgjcicnfaaGreat.Abs
/-- The boxes of a plan. -/
def BoxesAt (l : List Nd) (v0 v1 : Int) (S' : St) (b : Value) : Prop := ∃ db bs, b = .slice (some ⟨db, 0, none⟩) l.length 21 ∧ S'.blk db = some ⟨false, bs⟩ ∧ bs.length = l.length * 21 ∧ (∀ j, j < l.length → BoxOk ((bs.drop (j * 21)).take 21)) ∧
 (∀ n (h : n < l.length), n + 1 = l.length → madeL l 0 = true → outL l n = true → holdOf l n = -1 → PlainC l[n].s.cells → (bs.drop (n * 21)).take 21 = gbox v0 v1)
def ViewOk (v0 v1 : Int) : Prop := 0 ≤ v0 ∧ v0 ≤ 1099511627776 ∧ 0 ≤ v1 ∧ v1 ≤ 1099511627776
def PlanP (l : List Nd) (v0 v1 : Int) (S : St) (r : Value) (S' : St) : Prop := KeepsAll S S' ∧ ∃ b e, r = .tuple #[b, .int .i64 e] ∧ ((e ≠ 0 ∧ b = .slice none 0 0) ∨ (e = 0 ∧ tchk l = 0 ∧ ViewOk v0 v1 ∧ BoxesAt l v0 v1 S' b))
set_option maxHeartbeats 4000000 in
theorem plan23 (x : Value) (l : List Nd) (v0 v1 : Int) (S : St) (h : Ns S x l) (hok : ∀ x ∈ l, x.Ok) (hn : l.length ≤ 24) : ACalls Tryz.prog 23 [x, .agg #[.int .i64 v0, .int .i64 v1]] S (PlanP l v0 v1 S) := by
 refine run_of hmix Tryz.func23 cF23 rfl fun hL Q hQ => ?_
 obtain ⟨xa, xe, rfl⟩ := h.slice
 have bad : ∀ (S' : St) (e : Int), KeepsAll S S' → e ≠ 0 → PlanP l v0 v1 S (.tuple #[.slice none 0 0, .int .i64 e]) S' := fun S' e hk he => ⟨hk, _, e, rfl, .inl ⟨he, rfl⟩⟩
 by_cases ht : tchk l = 0
 case neg =>
  have hb : (tchk l != 0) = true := by simpa using ht
  simp only [go_sem, seval, aF23]
  refine cK_of (of24_bad _ l S h hok (by omega) ht) ?_
  rintro v S0 _ hL0 ⟨rfl, k0⟩
  simp only [go_sem, seval, hb]
  refine fin_at hQ rfl ?_; simp only [go_sem, seval, aF23]; rw [retQ_some]; simp only [oneOr]
  exact bad _ _ k0 ht
 have hform := tform_of ht
 have h0 := hform.1.1
 have htr := hform.1.2.tr
 have hz0 : ((0 : Int) != 0) = false := by decide
 simp only [go_sem, seval, aF23]
 refine cK_of (of24 _ l S h hok (by omega) ht) ?_
 rintro v S1 _ hL1 ⟨kp, hi, rfl, hK, hh, hSk, k1⟩
 by_cases c1 : v0 < 0
 ·simp only [go_sem, seval, hz0, decide_eq_true c1]
  refine fin_at hQ rfl ?_; simp only [go_sem, seval, aF23]; rw [retQ_some]; simp only [oneOr]
  exact bad _ _ k1 (by decide)
 by_cases c2 : v1 < 0
 ·simp only [go_sem, seval, hz0, decide_eq_false c1, decide_eq_true c2]
  refine fin_at hQ rfl ?_; simp only [go_sem, seval, aF23]; rw [retQ_some]; simp only [oneOr]
  exact bad _ _ k1 (by decide)
 by_cases c3 : v0 > 1099511627776
 ·simp only [go_sem, seval, hz0, decide_eq_false c1, decide_eq_false c2, decide_eq_true c3]
  refine fin_at hQ rfl ?_; simp only [go_sem, seval, aF23]; rw [retQ_some]; simp only [oneOr]
  exact bad _ _ k1 (by decide)
 by_cases c4 : v1 > 1099511627776
 ·simp only [go_sem, seval, hz0, decide_eq_false c1, decide_eq_false c2, decide_eq_false c3, decide_eq_true c4]
  refine fin_at hQ rfl ?_; simp only [go_sem, seval, aF23]; rw [retQ_some]; simp only [oneOr]
  exact bad _ _ k1 (by decide)
 have hview : ViewOk v0 v1 := ⟨by omega, by omega, by omega, by omega⟩
 have a0 : (0 : Int) ≤ l.length := by omega
 have a1 : (l.length : Int) * 168 ≤ 1099511627776 := by omega
 have a2 : (l.length : Int) * 1 ≤ 1099511627776 := by omega
 simp only [go_sem, seval, hz0, decide_eq_false c1, decide_eq_false c2, decide_eq_false c3, decide_eq_false c4, a0, a1, a2, Int.le_refl, Int.toNat_natCast, Nat.mul_one, made_false]
 obtain ⟨db, hdb⟩ : ∃ db, db = S1.next := ⟨_, rfl⟩
 obtain ⟨Sa, hSa⟩ : ∃ Sa, Sa = S1.new ⟨false, (madeCells z51.toArray (l.length * 21)).toList⟩ := ⟨_, rfl⟩
 obtain ⟨Sb, hSb⟩ : ∃ Sb, Sb = Sa.new ⟨false, List.replicate l.length (.bool false)⟩ := ⟨_, rfl⟩
 obtain ⟨S2, hS2⟩ : ∃ S2, S2 = Sb.new ⟨false, workV kp v0 v1 db (db + 1) l.length (.slice none 0 0) false⟩ := ⟨_, rfl⟩
 have na : Sa.next = db + 1 := by rw [hSa, hdb]; rfl
 have nb : Sb.next = db + 2 := by rw [hSb]; show Sa.next + 1 = _; omega
 have n2 : S2.next = db + 3 := by rw [hS2]; show Sb.next + 1 = _; omega
 have hLa : Live Sa := by rw [hSa]; exact hL1.new _
 have hLb : Live Sb := by rw [hSb]; exact hLa.new _
 have hL2 : Live S2 := by rw [hS2]; exact hLb.new _
 have ka : KeepsAll S1 Sa := by rw [hSa]; exact Keeps.of_new _ _ _
 have kb : KeepsAll Sa Sb := by rw [hSb]; exact Keeps.of_new _ _ _
 have kc : KeepsAll Sb S2 := by rw [hS2]; exact Keeps.of_new _ _ _
 have k12 : KeepsAll S1 S2 := (ka.trans kb fun _ _ _ => trivial).trans kc fun _ _ _ => trivial
 have k2 : KeepsAll S S2 := k1.trans k12 fun _ _ _ => trivial
 have hSdb : S.next ≤ db := by have := k1.1; omega
 have b1 : S2.blk db = some ⟨false, (madeCells z51.toArray (l.length * 21)).toList⟩ := by rw [kc.2 _ (by omega) trivial, kb.2 _ (by omega) trivial, hSa, hdb, St.blk_new, if_pos rfl]
 have b2 : S2.blk (db + 1) = some ⟨false, List.replicate l.length (.bool false)⟩ := by rw [kc.2 _ (by omega) trivial, hSb, ← na, St.blk_new, if_pos rfl]
 have b3 : S2.blk (db + 2) = some ⟨false, workV kp v0 v1 db (db + 1) l.length (.slice none 0 0) false⟩ := by rw [hS2, ← nb, St.blk_new, if_pos rfl]
 have W2 : WorkAt S2 hi kp l (db + 2) db (db + 1) v0 v1 (.slice none 0 0) false (madeCells z51.toArray (l.length * 21)).toList (List.replicate l.length (.bool false)) :=
  ⟨b3, b1, made_len _, fun j hj => by rw [made_at hj]; exact box_z, b2, List.length_replicate, fun j hj => ⟨false, by rw [List.getElem?_replicate, if_pos hj]⟩, hK.keeps hh k12, by omega, by omega, by omega, by omega, by omega, by omega, ⟨_, _, _, rfl⟩⟩
 have e2 : ((S1.new ⟨false, (madeCells z51.toArray (l.length * 21)).toList⟩).new ⟨false, List.replicate l.length (.bool false)⟩).new ⟨false, [ptr kp, .int .i64 v0, .int .i64 v1, .slice (some ⟨S1.next, 0, none⟩) l.length 21, .slice (some ⟨S1.next + 1, 0, none⟩) l.length 1, .slice none 0 0, .bool false]⟩ = S2 := by rw [hS2, hSb, hSa, hdb]; rfl
 have e3 : S1.next + 1 + 1 = db + 2 := by omega
 rw [e2]
 refine cK_keep [0,3,6,8,9,10] fun t1 hk' => ?_; simp only [go_sem, seval] at hk'; have hk := hk'; clear hk'
 refine cK_of (made39 W2.kin h0) ?_
 rintro v Sx _ hLx ⟨rfl, hSx⟩
 obtain rfl := hSx.symm
 have hiS : hi ≤ S2.next := by omega
 obtain ⟨wp, hwp⟩ : ∃ wp, wp = db + 2 := ⟨_, rfl⟩
 obtain ⟨dk, hdk⟩ : ∃ dk, dk = db + 1 := ⟨_, rfl⟩
 rw [e3, ← hwp] at hk
 rw [← hwp, ← hdk] at W2
 have r3 := rd_of_blk W2.row 3
 simp only [workV] at r3
 cases hmd : madeL l 0
 case' false =>
  simp only [go_sem, seval, hk, r3]
  refine fin_at hQ rfl ?_; simp only [go_sem, seval, aF23, hk]; rw [retQ_some]; simp only [oneOr]
  refine ⟨k2, _, 0, rfl, .inr ⟨rfl, ht, hview, db, _, rfl, b1, made_len _, fun j hj => by rw [made_at hj]; exact box_z, fun n hn' _ hm => by rw [hmd] at hm; cases hm⟩⟩
 clear b1 b2 b3 hSa hSb e2 e3 r3
 simp only [go_sem, seval, hk]
 refine cK_of (box40 hok hn 0 h0 S2 _ _ _ _ W2.kin hiS) ?_
 rintro v S3 _ hL3 ⟨⟨fs, v', okb, rfl, hfl, hlay⟩, k23⟩
 have W3 := W2.keeps hL2 k23
 have n3 := k23.1
 obtain ⟨Lx, yx, le1, la1, la2, lc1, lc2, lkk, lhigh, m, cs', rfl, ⟨yya, yi, yj, rfl⟩, hsl, hf, hm, hp⟩ := hlay
 obtain ⟨La, Le, rfl⟩ := hsl.slice
 have hfr : ∀ i, Value.blkOf (.slice La m Le) = some i → S2.next ≤ i := hf
 clear hf
 simp only [go_sem, seval, hk, layV, hfl.N 25, hfl.F 25, z99]
 refine cK_keep [0,6,8,9,10,11,12,13,14] fun t1 hk' => ?_; simp only [go_sem, seval, hk] at hk'; clear hk; have hk := hk'; clear hk'
 refine cK_of (is41' okb W3) ?_
 rintro v S4 _ hL4 ⟨bd4, rfl, W4, w4, f4⟩
 have n4 := w4.1
 have k4 : Keeps S2 S4 (· < db) := k23.all.trans w4 fun i _ hi => by omega
 simp only [go_sem, seval, hk]
 refine iK_cut (fun t' S' => Live S' ∧ (∃ bd bs ks, WorkAt S' hi kp l wp db dk v0 v1 (.slice none 0 0) bd bs ks) ∧ Keeps S2 S' (· < db) ∧ Slots t' [(0, .slice xa l.length xe), (6, ptr kp), (8, ptr wp)]) ?_ ?_
 ·intro Q6 hN6 hE6
  cases bd4
  case' true =>
   simp only [go_sem, seval, hk]
   refine hN6 _ _ ⟨hL4, ⟨_, _, _, W4⟩, k4, ?_⟩
   simp only [go_sem, seval, Int.natCast_add, Int.natCast_succ, hk]
  have h25 := ints4_eq (hfl.sub 4 4)
  simp only [go_sem, seval, hk, hfl.N 25, hfl.F 25, hfl.I 0, hfl.I 4]
  refine cK_of (put42 0 h0 fs hfl _ _ _ _ _ _ W4) ?_
  rintro v S5 _ hL5 ⟨bd5, cb5, bb5, _, W5, w5, f5⟩
  have k5 : Keeps S2 S5 (· < db) := k4.trans w5 fun i _ hi => by omega
  simp only [go_sem, seval, hk]
  have fr : ∀ i, Value.blkOf (.slice La m Le) = some i → i ≠ wp ∧ i ≠ db ∧ i ≠ dk := fun i hi => by have := hfr i hi; omega
  have hsl5 := (hsl.keeps hL3 w4 fun i hi => (fr i hi).1).keeps hL4 w5 fr
  have hmb : m ≤ 16777216 := by
   unfold bd at hm
   have : 2 ^ (l.length - 0 - 1) ≤ 2 ^ 24 := Nat.pow_le_pow_right (by omega) (by omega)
   omega
  refine cK_of (inner43 hok hform hn (.slice La m Le) m 0 cs' hsl5 fr (by omega) hp W5) ?_
  rintro v S6 _ hL6 ⟨⟨bd6, bs6, ks6, W6, w6, f6⟩, _⟩
  simp only [go_sem, seval, hk]
  refine hN6 _ _ ⟨hL6, ⟨_, _, _, W6⟩, k5.trans w6 (fun i _ hi => by omega), ?_⟩
  simp only [go_sem, seval, Int.natCast_add, Int.natCast_succ, hk]
 rintro t5 S5 ⟨hL5, ⟨bd5, bs5, ks5, W5⟩, k5, hs5⟩
 simp only [slots_cons, slots_nil] at hs5
 clear W4 W3 W2 hsl hp hm k23 k4 w4 f4 n4 hk
 simp only [go_sem, seval, hs5]
 refine lK_of (fun t' S' => ∃ (j : Nat) (x : Value) (es : List En), j ≤ l.length ∧ Live S' ∧ WorkAt S' hi kp l wp db dk v0 v1 x bd5 bs5 ks5 ∧ AgO S' wp 5 (workV kp v0 v1 db dk l.length x bd5) x es ∧ es.Perm (outs l j) ∧ (∀ i, Value.blkOf x = some i → db + 3 ≤ i) ∧ Keeps S2 S' (· < db) ∧
   Slots t' [(0, .slice xa l.length xe), (6, ptr kp), (8, ptr wp), (88, .int .i64 l.length), (89, .int .i64 j)]) (fun t' _ => l.length - (RowKit.intOf (t' 89)).toNat) ?_ ?_
 ·refine ⟨0, _, [], by omega, hL5, W5, ⟨W5.row, rfl, .inl ⟨rfl, rfl, rfl⟩, Heap.nil, by simp [Value.blkOf]⟩, .refl _, by simp [Value.blkOf], k5, ?_⟩
  simp only [go_sem, seval, Int.natCast_add, Int.natCast_succ, hs5]
 rintro t6 S6 Q6 ⟨j, ax, es, hj, hL6, W6, hA6, hp6, hb6, k6, hs6⟩ _ hN hE
 simp only [slots_cons, slots_nil] at hs6
 by_cases hjn : j = l.length
 case neg =>
  have hjl : (j : Int) < l.length := by omega
  have hj' : j < l.length := by omega
  have hw1 : IntKind.i64.wrap ((j : Int) + 1) = j + 1 := wrap64_id (by omega) (by omega)
  simp only [go_sem, seval, hs6, hjl]
  refine cK_of (out44 W6.kin hok hj') ?_
  rintro v Sx _ hLx ⟨rfl, hSx⟩
  obtain rfl := hSx.symm
  have hos := outs_succ l j
  cases ho : outL l j
  ·rw [ho] at hos
   simp only [go_sem, seval, hs6, hw1]
   refine hN _ _ ⟨j + 1, ax, es, by omega, hL6, W6, hA6, by rw [hos]; simpa using hp6, hb6, k6, ?_⟩ ?_
   ·simp only [go_sem, seval, Int.natCast_add, Int.natCast_succ, hs6]
   ·simp only [go_sem, seval, hs6]
    simp [RowKit.intOf]
    omega
  ·rw [ho] at hos
   have hlen : es.length ≤ 900000 := by
    rw [hp6.length_eq]
    unfold outs
    rw [List.length_map]
    have := List.length_filter_le (fun n => outL l n) (List.range j)
    rw [List.length_range] at this
    omega
   have hadd := add45 (enOf j) hA6 hlen
   simp only [enOf, En.cells] at hadd
   simp only [go_sem, seval, hs6]
   refine cK_of hadd ?_
   rintro v S7 _ hL7 ⟨x', es', hA7, hp7, k7, hb7⟩
   have hA7' : AgO S7 wp 5 (workV kp v0 v1 db dk l.length x' bd5) x' es' := hA7
   have hb7' : ∀ i, Value.blkOf x' = some i → db + 3 ≤ i := fun i hi => by
    rcases hb7 i hi with hh1 | hh1
    ·exact hb6 i hh1
    ·have := k6.1; omega
   have hh6 : ∀ i, i < db + 3 → i ≠ wp → i ≠ wp ∧ Value.blkOf ax ≠ some i := fun i h1 h2 => ⟨h2, fun e => by have := hb6 i e; omega⟩
   have W7 : WorkAt S7 hi kp l wp db dk v0 v1 x' bd5 bs5 ks5 := W6.reag hL6 k7 hA7'.row hA7'.ag.sl (hh6 db (by omega) (by omega)) (hh6 dk (by omega) (by omega)) fun i hi' => hh6 i (by have := W6.h1; omega) (by have := W6.h3; omega)
   simp only [go_sem, seval, hs6, hw1]
   refine hN _ _ ⟨j + 1, x', es', by omega, hL7, W7, hA7', ?_, hb7', k6.trans k7 (fun i _ hi => hh6 i (by omega) (by omega)), ?_⟩ ?_
   ·rw [hos]
    simp only [if_true]
    exact hp7.trans ((hp6.cons _).trans (List.perm_append_singleton _ _).symm)
   ·simp only [go_sem, seval, Int.natCast_add, Int.natCast_succ, hs6]
   ·simp only [go_sem, seval, hs6]
    simp [RowKit.intOf]
    omega
 subst hjn
 simp only [go_sem, seval, hs6, Int.lt_irrefl]
 refine hE _ _ _ (by simp) ?_
 simp only [go_sem, seval, hs6]
 have hA6' := hA6.ag
 have hlen : ∀ es' : List En, es'.length ≤ es.length → es'.length ≤ 900000 := fun es' he => by
  rw [hp6.length_eq] at he
  unfold outs at he
  rw [List.length_map] at he
  have := List.length_filter_le (fun n => outL l n) (List.range l.length)
  rw [List.length_range] at this
  omega
 have hbb : ∀ i, Value.blkOf ax = some i → i ≠ db ∧ i ≠ dk ∧ hi ≤ i := fun i hi' => by have := hb6 i hi'; have := W6.h1; omega
 refine cK_of (nextW W6 hA6' (hlen es (Nat.le_refl _)) hL6 hbb) ?_
 rintro v S7 _ hL7 ⟨e, b, x', es', rfl, W7, hA7, k7, hx7, hbf, hbt⟩
 have hh6 : ∀ i, i < db → i ≠ wp ∧ Value.blkOf ax ≠ some i := fun i h1 => ⟨by omega, fun e => by have := hb6 i e; omega⟩
 have k27 : Keeps S2 S7 (· < db) := k6.trans k7 fun i _ hi => hh6 i hi
 have hb7 : ∀ i, Value.blkOf x' = some i → db + 3 ≤ i := fun i hi => hb6 i (hx7 ▸ hi)
 obtain ⟨ek, et, en⟩ := e
 have n27 := k27.1
 simp only [go_sem, seval, hs6, En.cells]
 have hz3 : (0 : Int) ≤ 0 := by omega
 obtain ⟨X, hX⟩ : ∃ X, X = S7.next := ⟨_, rfl⟩
 obtain ⟨S8, hS8⟩ : ∃ S8, S8 = (S7.new ⟨false, [.int .i64 0, .int .i64 0, .int .i64 0]⟩).set X ⟨false, [.int .i64 ek, .int .i64 et, .int .i64 en]⟩ := ⟨_, rfl⟩
 have kn8 : KeepsAll S7 S8 := by rw [hS8]; exact (Keeps.of_new _ _ _).set (fun i hi _ => by omega) _
 have hL8 : Live S8 := by rw [hS8]; exact (hL7.new _).set _ _ (by rw [St.next_new]; omega)
 have bX : S8.blk X = some ⟨false, En.cells ⟨ek, et, en⟩⟩ := by rw [hS8]; exact blk_set_self _ _ _
 rw [← hX, ← hS8]
 have hes : ∀ z ∈ es, z ∈ outs l l.length := fun z hz => hp6.mem_iff.1 hz
 have hnd : es.Nodup := hp6.nodup_iff.2 (outs_nodup _ _)
 obtain ⟨td8, mem8, _⟩ := todo_next hes hnd (hlen es (Nat.le_refl _)) hA6'.heap hbf hbt
 have outN : ∀ N, N + 1 = l.length → outL l N = true → enOf N ∈ outs l l.length := fun N hN ho => by
  unfold outs
  simp only [List.mem_map, List.mem_filter, List.mem_range]
  exact ⟨N, ⟨by omega, ho⟩, rfl⟩
 have W8 := W7.keeps hL7 kn8
 have hA8 : Ag S8 wp 5 (workV kp v0 v1 db dk l.length x' bd5) x' es' := hA7.keeps hL7 kn8 trivial fun _ _ => trivial
 have k28 : Keeps S2 S8 (· < db) := k27.trans kn8 fun _ _ _ => trivial
 have n8 := kn8.1
 refine lK_of (fun t' S' => ∃ (e : En) (b : Bool) (x : Value) (es : List En) (bd : Bool) (bs ks : List Value) (X : Nat), Live S' ∧ WorkAt S' hi kp l wp db dk v0 v1 x bd bs ks ∧ Ag S' wp 5 (workV kp v0 v1 db dk l.length x bd) x es ∧ (∀ i, Value.blkOf x = some i → db + 3 ≤ i) ∧ Keeps S2 S' (· < db) ∧ S'.blk X = some ⟨false, e.cells⟩ ∧ db + 3 ≤ X ∧
   Slots t' [(8, ptr wp), (13, ptr X), (14, .bool b)] ∧ Todo l e b es ∧
   (∀ n (h : n < l.length), n + 1 = l.length → outL l n = true → holdOf l n = -1 → PlainC l[n].s.cells → bd = false → (b = true ∧ (e = enOf n ∨ enOf n ∈ es)) ∨ (b = false ∧ (bs.drop (n * 21)).take 21 = gbox v0 v1)))
   (fun t' S' => agLen S' wp + b01 (t' 14)) ?_ ?_
 ·refine ⟨⟨ek, et, en⟩, b, x', es', bd5, bs5, ks5, X, hL8, W8, hA8, hb7, k28, bX, by omega, ?_, td8, fun n hn1 hn2 ho _ _ _ => .inl (mem8 _ (hp6.mem_iff.2 (outN n hn2 ho)))⟩
  simp only [go_sem, seval, Int.natCast_add, Int.natCast_succ, hs6]
 clear hs6 bX W8 W7 W6 W5 hA8 hA7 hA6 hA6' k28 kn8 hS8 td8 mem8 hbf hbt hp6 hes hnd hlen
 rintro t9 S9 Q9 ⟨e, b, x, es, bd, bs, ks, X, hL9, W9, hA9, hb9, k9, bX, hX9, hs9, td, hg⟩ _ hN hE
 simp only [slots_cons, slots_nil] at hs9
 have s6 := rd_of_blk W9.row 6
 simp only [workV] at s6
 have s3 := rd_of_blk W9.row 3
 simp only [workV] at s3
 cases b
 case' false =>
  simp only [go_sem, seval, hs9]
  refine hE _ _ _ (by simp) ?_
  simp only [go_sem, seval, hs9, s6]
  cases bd
  ·simp only [go_sem, seval, hs9, s3]
   refine fin_at hQ rfl ?_; simp only [go_sem, seval, aF23, hs9]; rw [retQ_some]; simp only [oneOr]
   refine ⟨k2.trans k9 fun i hi _ => by omega, _, 0, rfl, .inr ⟨rfl, ht, hview, db, bs, rfl, W9.box, W9.bl, W9.bok, fun n hn1 hn2 hm ho hh hc => ?_⟩⟩
   rcases hg n hn1 hn2 ho hh hc rfl with ⟨h1, _⟩ | ⟨_, h1⟩
   ·cases h1
   ·exact h1
  ·simp only [go_sem, seval, hs9]
   refine fin_at hQ rfl ?_; simp only [go_sem, seval, aF23, hs9]; rw [retQ_some]; simp only [oneOr]
   exact bad _ _ (k2.trans k9 fun i hi _ => by omega) (by decide)
 cases bd
 case' true =>
  simp only [go_sem, seval, hs9, s6]
  refine hE _ _ _ (by simp) ?_
  simp only [go_sem, seval, hs9, s6]
  refine fin_at hQ rfl ?_; simp only [go_sem, seval, aF23, hs9]; rw [retQ_some]; simp only [oneOr]
  exact bad _ _ (k2.trans k9 fun i hi _ => by omega) (by decide)
 obtain ⟨he1, he2, he3⟩ := td.yes rfl
 obtain ⟨n, rfl, hnl, hno⟩ := outs_mem he1
 have bX' : S9.blk X = some ⟨false, [.int .i64 n, .int .i64 0, .int .i64 0]⟩ := bX
 have rX := rd_of_blk bX' 0
 simp only [go_sem, seval, hs9, s6, rX]
 refine cK_of (out47 hok hform htr hn n (outL_lt hno) hnl W9) ?_
 rintro v S10 _ hL10 ⟨bd2, bs2, ks2, W10, k10, f10⟩
 have lt9 := hA9.lt hL9
 have hA10 : Ag S10 wp 5 (workV kp v0 v1 db dk l.length x bd2) x es := hA9.rerow W10.row rfl fun i hi => k10.2 i (lt9 i hi) (by have := hb9 i hi; omega)
 have bX10 : S10.blk X = some ⟨false, [.int .i64 n, .int .i64 0, .int .i64 0]⟩ := (k10.2 _ (hL9 _ _ bX) (by omega)).trans bX'
 have cX10 := cellsOf_of_blk bX10 0 3
 have k210 : Keeps S2 S10 (· < db) := k9.trans k10 fun i _ hi => by omega
 have n10 := k210.1
 simp only [go_sem, seval, hs9, cX10]
 obtain ⟨Y, hY⟩ : ∃ Y, Y = S10.next := ⟨_, rfl⟩
 obtain ⟨S11, hS11⟩ : ∃ S11, S11 = (S10.new ⟨false, [.int .i64 0, .int .i64 0, .int .i64 0]⟩).set Y ⟨false, [.int .i64 n, .int .i64 0, .int .i64 0]⟩ := ⟨_, rfl⟩
 have kn11 : KeepsAll S10 S11 := by rw [hS11]; exact (Keeps.of_new _ _ _).set (fun i hi _ => by omega) _
 have hL11 : Live S11 := by rw [hS11]; exact (hL10.new _).set _ _ (by rw [St.next_new]; omega)
 have bY : S11.blk Y = some ⟨false, [.int .i64 n, .int .i64 0, .int .i64 0]⟩ := by rw [hS11]; exact blk_set_self _ _ _
 have W11 := W10.keeps hL10 kn11
 have hA11 : Ag S11 wp 5 (workV kp v0 v1 db dk l.length x bd2) x es := hA10.keeps hL10 kn11 trivial fun _ _ => trivial
 rw [← hY, ← hS11]
 have hbb : ∀ i, Value.blkOf x = some i → i ≠ db ∧ i ≠ dk ∧ hi ≤ i := fun i hi' => by have := hb9 i hi'; have := W9.h1; omega
 refine cK_of (nextW W11 hA11 td.len hL11 hbb) ?_
 rintro v S12 _ hL12 ⟨e2, b2, x2, es2, rfl, W12, hA12, k12', hx12, hbf, hbt⟩
 have hYx : Y ≠ wp ∧ Value.blkOf x ≠ some Y := ⟨by have := hL10 _ _ W10.row; omega, fun e => by have := hA10.lt hL10 _ e; omega⟩
 have bY12 : S12.blk Y = some ⟨false, [.int .i64 n, .int .i64 0, .int .i64 0]⟩ := (k12'.2 _ (hL11 _ _ bY) hYx).trans bY
 obtain ⟨ek2, et2, en2⟩ := e2
 simp only [go_sem, seval, hs9, En.cells, bY12]
 obtain ⟨S13, hS13⟩ : ∃ S13, S13 = S12.set Y ⟨false, [.int .i64 ek2, .int .i64 et2, .int .i64 en2]⟩ := ⟨_, rfl⟩
 have kn13 : Keeps S12 S13 (· ≠ Y) := by rw [hS13]; exact (Keeps.refl _ _).set (fun i _ h => h) _
 have hL13 : Live S13 := by rw [hS13]; exact hL12.set _ _ (hL12 _ _ bY12)
 have lY : db + 3 ≤ Y := by omega
 have W13 : WorkAt S13 hi kp l wp db dk v0 v1 x2 bd2 bs2 ks2 := W12.reag hL12 kn13 (by rw [hS13, St.blk_set, if_neg (Ne.symm hYx.1)]; exact W12.row) hA12.sl (by omega) (by omega) fun i hi' => by have := W9.h1; omega
 have hA13 : Ag S13 wp 5 (workV kp v0 v1 db dk l.length x2 bd2) x2 es2 := hA12.keeps hL12 kn13 (Ne.symm hYx.1) fun i hi e => hYx.2 (by rw [← hx12, hi, e])
 have bY13 : S13.blk Y = some ⟨false, En.cells ⟨ek2, et2, en2⟩⟩ := by rw [hS13]; exact blk_set_self _ _ _
 rw [← hS13]
 obtain ⟨td2, mem2, len2⟩ := todo_next td.mem td.nd td.len hA11.heap hbf hbt
 have l9 := agLen_eq hA9
 have l13 := agLen_eq hA13
 refine hN _ _ ⟨⟨ek2, et2, en2⟩, b2, x2, es2, bd2, bs2, ks2, Y, hL13, W13, hA13, fun i hi => hb9 i (hx12 ▸ hi), ((k210.trans kn11 fun _ _ _ => trivial).trans k12' fun i _ hi => ⟨by omega, fun e => by have := hb9 i e; omega⟩).trans kn13 fun i _ hi => by omega, bY13, lY, ?_, td2, ?_⟩ ?_
 ·simp only [go_sem, seval, Int.natCast_add, Int.natCast_succ, hs9]
 ·intro N hN1 hN2 hNo hNh hNc hb2
  have gg := f10 hb2
  rcases hg N hN1 hN2 hNo hNh hNc rfl with ⟨_, h1⟩ | ⟨h1, _⟩
  ·rcases h1 with h1 | h1
   ·have hnN : n = N := by
     have := congrArg En.k h1
     simp only [enOf] at this
     omega
    subst hnN
    have h2 := td.last hN2
    subst h2
    right
    have hb2' : b2 = false := by
     cases b2 with
     | false => rfl
     | true => obtain ⟨r, h3, _⟩ := hbt rfl; cases h3
    exact ⟨hb2', gg.2 hN2 hNh hNc hview.1 hview.2.1 hview.2.2.1 hview.2.2.2⟩
   ·exact .inl (mem2 _ h1)
  ·cases h1
 ·rw [l9, l13]
  simp only [go_sem, seval, hs9]
  cases b2
  ·obtain ⟨h1, h2⟩ := hbf rfl
   subst h2
   simp [b01]
  ·have := len2 rfl
   simp only [b01]
   omega
end Go.Proofs.YtegaklgjcicnfaaGreat
