/- The compiled code of functions of the seat, printed by a program of mine (gen.py), checked by the kernel. -/
import Derived.Test.YtbgnaeagdneikaaP0
import Derived.Test.YtbgnaeagdneikaaCoreAn
import Derived.Test.YtbgnaeagdneikaaN5
import Derived.Test.YtbgnaeagdneikaaSeatKKT
-- pp: new
-- pp: short
namespace Go.Proofs.Ytbgnaeagdneikaa
open Go Go.Proofs.Ytbgnaeagdneikaa.Abs
set_option linter.unusedSimpArgs false
set_option linter.unusedVariables false

def BoolAt (p : Prop) (S : St) (r : Value) (S' : St) : Prop := S' = S ∧ ∃ c, r = .bool c ∧ (c = true ↔ p)
theorem inFourT (i : Nat) (x : Value) (t : Pst) (S : St) (h : IsIn S i x t.1 t.2) : ACalls Try.prog 36 [ptr i] S (InPost S i x (.int .u32 (pFour t).1) (pFour t).2) := inFour i x t.1 t.2 S h

structure Nd where
  s : Sty
  p : Int
def Nd.cells (x : Nd) : List Value := x.s.cells ++ [.int .i64 x.p]
structure Nd.Ok (x : Nd) : Prop where
  s : x.s.Ok
  p : InI64 x.p
def ndCells (l : List Nd) : List Value := l.flatMap Nd.cells
def par (l : List Nd) (k : Nat) : Int := match l[k]? with | some x => x.p | none => -1
theorem par_get {l : List Nd} {k : Nat} (h : k < l.length) : par l k = l[k].p := by unfold par; rw [List.getElem?_eq_getElem h]

/-- The nodes from one upwards. -/
def chainF (P : Nat → Int) : Nat → Int → List Int
  | 0, _ => []
  | f + 1, a => if a < 0 then [] else a :: chainF P f (P a.toNat)
def chain (P : Nat → Int) (a : Int) : List Int := chainF P (a + 1).toNat a
def Tr (P : Nat → Int) (k : Nat) : Prop := ∀ i, i < k → -1 ≤ P i ∧ P i < i
theorem Tr.mono {P : Nat → Int} {k j : Nat} (h : Tr P k) (hj : j ≤ k) : Tr P j := fun i hi => h i (by omega)
theorem chainF_neg (P : Nat → Int) (f : Nat) {a : Int} (h : a < 0) : chainF P f a = [] := by cases f <;> simp [chainF, h]
theorem chainF_eq {P : Nat → Int} {k : Nat} (ht : Tr P k) : ∀ (f g : Nat) (a : Int), a < k → a + 1 ≤ f → a + 1 ≤ g → chainF P f a = chainF P g a
  | 0, g, a, _, hf, _ => by rw [chainF_neg P 0 (by omega), chainF_neg P g (by omega)]
  | f + 1, 0, a, _, _, hg => by rw [chainF_neg P _ (by omega), chainF_neg P 0 (by omega)]
  | f + 1, g + 1, a, hk, hf, hg => by
    rw [chainF, chainF]
    by_cases ha : a < 0
    · rw [if_pos ha, if_pos ha]
    · have := ht a.toNat (by omega)
      rw [if_neg ha, if_neg ha, chainF_eq ht f g _ (by omega) (by omega) (by omega)]
theorem chain_neg (P : Nat → Int) {a : Int} (h : a < 0) : chain P a = [] := chainF_neg P _ h
theorem chain_pos {P : Nat → Int} {k : Nat} (ht : Tr P k) {a : Int} (h0 : 0 ≤ a) (hk : a < k) : chain P a = a :: chain P (P a.toNat) := by
  have hp := ht a.toNat (by omega)
  unfold chain
  obtain ⟨n, hn⟩ : ∃ n, (a + 1).toNat = n + 1 := ⟨a.toNat, by omega⟩
  rw [hn, chainF, if_neg (by omega), chainF_eq ht n (P a.toNat + 1).toNat _ (by omega) (by omega) (by omega)]
theorem chain_in {P : Nat → Int} {k : Nat} (ht : Tr P k) : ∀ (n : Nat) (a : Int), a < n → a < k → ∀ x ∈ chain P a, 0 ≤ x ∧ x ≤ a
  | 0, a, hn, _, x, hx => by rw [chain_neg P (by omega)] at hx; simp at hx
  | n + 1, a, hn, hk, x, hx => by
    by_cases ha : a < 0
    · rw [chain_neg P ha] at hx; simp at hx
    · rw [chain_pos ht (by omega) hk] at hx
      have := ht a.toNat (by omega)
      rcases List.mem_cons.1 hx with rfl | hx
      · omega
      · have := chain_in ht n (P a.toNat) (by omega) (by omega) x hx
        omega
theorem chain_len {P : Nat → Int} {k : Nat} (ht : Tr P k) : ∀ (n : Nat) (a : Int), a < n → a < k → -1 ≤ a → ((chain P a).length : Int) ≤ a + 1
  | 0, a, hn, _, _ => by rw [chain_neg P (by omega)]; simp; omega
  | n + 1, a, hn, hk, h1 => by
    by_cases ha : a < 0
    · rw [chain_neg P ha]; simp; omega
    · rw [chain_pos ht (by omega) hk]
      have := ht a.toNat (by omega)
      have := chain_len ht n (P a.toNat) (by omega) (by omega) (by omega)
      simp only [List.length_cons]
      omega
/-- Two that agree below have the same nodes above one. -/
theorem chain_same {P P' : Nat → Int} {k : Nat} (ht : Tr P k) (h : ∀ i, i < k → P i = P' i) : ∀ (n : Nat) (a : Int), a < n → a < k → chain P a = chain P' a
  | 0, a, hn, _ => by rw [chain_neg P (by omega), chain_neg P' (by omega)]
  | n + 1, a, hn, hk => by
    by_cases ha : a < 0
    · rw [chain_neg P ha, chain_neg P' ha]
    · have ht' : Tr P' k := fun i hi => by rw [← h i hi]; exact ht i hi
      have := ht a.toNat (by omega)
      rw [chain_pos ht (by omega) hk, chain_pos ht' (by omega) hk, h a.toNat (by omega), chain_same ht h n (P' a.toNat) (by rw [← h _ (by omega)]; omega) (by rw [← h _ (by omega)]; omega)]
/-- Where one stands among the nodes above. -/
def posOf (p : Int) : List Int → Option Nat
  | [] => none
  | a :: r => if a = p then some 0 else (posOf p r).map (· + 1)
theorem posOf_some {p : Int} : ∀ {l : List Int}, (∃ n, posOf p l = some n) ↔ p ∈ l
  | [] => by simp [posOf]
  | a :: r => by
    rw [posOf]
    by_cases h : a = p
    · simp [h]
    · rw [if_neg h]
      simp only [Option.map_eq_some_iff, List.mem_cons]
      have := posOf_some (p := p) (l := r)
      constructor
      · rintro ⟨n, m, hm, _⟩; exact .inr (this.1 ⟨m, hm⟩)
      · rintro (e | e)
        · exact absurd e.symm h
        · obtain ⟨m, hm⟩ := this.2 e; exact ⟨_, m, hm, rfl⟩
theorem posOf_get {p : Int} : ∀ {l : List Int} {n : Nat}, posOf p l = some n → l[n]? = some p
  | [], n, h => by cases h
  | a :: r, n, h => by
    rw [posOf] at h
    split at h
    · cases h; rename_i e; simp [e]
    · obtain ⟨m, hm, rfl⟩ := Option.map_eq_some_iff.1 h
      simpa using posOf_get hm
theorem posOf_len {P : Nat → Int} {k : Nat} (ht : Tr P k) {p : Int} : ∀ (n : Nat) (a : Int) {m : Nat}, a < n → a < k → posOf p (chain P a) = some m → (chain P a).length = m + (chain P p).length
  | 0, a, m, hn, _, h => by rw [chain_neg P (by omega)] at h; cases h
  | n + 1, a, m, hn, hk, h => by
    by_cases ha : a < 0
    · rw [chain_neg P ha] at h; cases h
    · have := ht a.toNat (by omega)
      rw [chain_pos ht (by omega) hk, posOf] at h
      by_cases e : a = p
      · rw [if_pos e] at h
        cases h
        rw [e]; omega
      · rw [if_neg e] at h
        obtain ⟨q, hq, rfl⟩ := Option.map_eq_some_iff.1 h
        rw [chain_pos ht (by omega) hk, List.length_cons, posOf_len ht n _ (by omega) (by omega) hq]
        omega

/-- The first nodes are a tree's. -/
def Sh (P : Nat → Int) (k : Nat) : Prop := ∀ i, i < k → (i = 0 → P 0 = -1) ∧ (0 < i → P i ∈ chain P (i - 1))
theorem Sh.tr {P : Nat → Int} : ∀ {k : Nat}, Sh P k → Tr P k
  | 0, _ => fun i hi => by omega
  | k + 1, h => by
    have ih := Sh.tr (k := k) fun i hi => h i (by omega)
    intro i hi
    by_cases hik : i < k
    · exact ih i hik
    · obtain rfl : i = k := by omega
      have := h i hi
      by_cases h0 : i = 0
      · subst h0; rw [this.1 rfl]; omega
      · have := chain_in ih i ((i : Int) - 1) (by omega) (by omega) _ (this.2 (by omega))
        omega
def Shaped (l : List Nd) : Prop := 0 < l.length ∧ Sh (par l) l.length
def TForm (l : List Nd) : Prop := Shaped l ∧ ∀ x ∈ l, SFormed x.s
def dep (l : List Nd) (k : Nat) : Nat := (chain (par l) k).length
def TLim (l : List Nd) : Prop := (∃ k, k < l.length ∧ (¬ SWithin (l[k]?.getD ⟨zeroS, 0⟩).s ∨ 256 < dep l k)) ∨ 65535 < l.length
open Classical in
noncomputable def tchk (l : List Nd) : Int := if ¬ TForm l then 2 else if TLim l then 3 else 0

/-- How many steps up a node's parent is. -/
def stp (l : List Nd) (k : Nat) : Nat := (posOf (par l k) (chain (par l) ((k : Int) - 1))).getD 0
def nodeB (l : List Nd) (k : Nat) : List Int := (if 0 < k then be (stp l k) 4 else []) ++ (match l[k]? with | some x => styBytes x.s | none => [])
def restB (l : List Nd) (j r : Nat) : List Int := (List.range' j r).flatMap (nodeB l)
def treeB (l : List Nd) : List Int := be (l.length : Int) 4 ++ restB l 0 l.length
theorem restB_succ (l : List Nd) (j r : Nat) : restB l j (r + 1) = nodeB l j ++ restB l (j + 1) r := by simp [restB, List.range'_succ]
theorem restB_snoc (l : List Nd) (r : Nat) : restB l 0 (r + 1) = restB l 0 r ++ nodeB l r := by
  unfold restB
  rw [List.range'_concat, List.flatMap_append]
  simp
theorem stp_le {l : List Nd} (h : Shaped l) {k : Nat} (hk : k < l.length) (h0 : 0 < k) : posOf (par l k) (chain (par l) ((k : Int) - 1)) = some (stp l k) ∧ stp l k + dep l k = dep l (k - 1) + 1 ∧ stp l k < k := by
  have hm := (h.2 k hk).2 h0
  obtain ⟨n, hn⟩ := posOf_some.2 hm
  have ht := h.2.tr
  have e1 := posOf_len ht k _ (by omega) (by omega) hn
  have hc := chain_in ht k _ (by omega) (by omega) _ hm
  have hk1 : ((k - 1 : Nat) : Int) = (k : Int) - 1 := by omega
  have hd : dep l k = (chain (par l) (par l k)).length + 1 := by
    unfold dep
    rw [chain_pos ht (by omega) (by omega), Int.toNat_natCast, List.length_cons]
  have hd1 : dep l (k - 1) = n + (chain (par l) (par l k)).length := by unfold dep; rw [hk1]; exact e1
  have hs : stp l k = n := by unfold stp; rw [hn]; rfl
  have hp : 1 ≤ (chain (par l) (par l k)).length := by
    rw [chain_pos ht hc.1 (by omega)]; simp
  have hl := chain_len ht k ((k : Int) - 1) (by omega) (by omega) (by omega)
  refine ⟨by rw [hs]; exact hn, by omega, by omega⟩

/-- A node's parent, read. -/
def upR (l : List Nd) (n : Nat) : Int := ((chain (par l) ((l.length : Int) - 1))[n]?).getD (-1)
def nextP (l : List Nd) (t : Pst) : Int × Pst := if l = [] then (-1, t) else (upR l (pFour t).1.toNat, (pFour t).2)
open Classical in
noncomputable def decT : Nat → List Nd → Pst → Option (List Nd × Pst)
  | 0, l, t => some (l, t)
  | f + 1, l, t => if l ≠ [] ∧ (nextP l t).1 < 0 then none else if Good (nextP l t).2 then decT f (l ++ [⟨pSty (nextP l t).2, (nextP l t).1⟩]) (pT5 (nextP l t).2) else none
open Classical in
noncomputable def treeD (xs : List Int) : Option (List Nd) :=
  match decT (pFour (xs, false)).1.toNat [] (pFour (xs, false)).2 with
  | some (l, t) => if t = ([], false) ∧ 0 < (pFour (xs, false)).1.toNat then some l else none
  | none => none
theorem par_take {l : List Nd} {j i : Nat} (h : i < j) : par (l.take j) i = par l i := by
  unfold par
  rw [List.getElem?_take_of_lt h]
theorem decT_bytes (l : List Nd) (hf : TForm l) (hn : l.length < 4294967296) (hok : ∀ x ∈ l, x.Ok) (x : Nat) (m : List Int) : ∀ (r j : Nat), j + r = l.length → decT (r + x) (l.take j) (restB l j r ++ m, false) = decT x l (m, false)
  | 0, j, h => by
    rw [List.take_of_length_le (by omega)]
    simp [restB]
  | r + 1, j, h => by
    have hj : j < l.length := by omega
    have ht := hf.1.2.tr
    obtain ⟨g1, g2, g3⟩ := good_of l[j].s (hok _ (List.getElem_mem hj)).s (hf.2 _ (List.getElem_mem hj)) (restB l (j + 1) r ++ m)
    have hb : restB l j (r + 1) ++ m = (if 0 < j then be (stp l j) 4 else []) ++ (styBytes l[j].s ++ (restB l (j + 1) r ++ m)) := by
      rw [restB_succ, nodeB, List.getElem?_eq_getElem hj]
      simp only [List.append_assoc]
    have key : nextP (l.take j) (restB l j (r + 1) ++ m, false) = (par l j, (styBytes l[j].s ++ (restB l (j + 1) r ++ m), false)) ∧ (l.take j ≠ [] → 0 ≤ par l j) := by
      rw [hb]
      unfold nextP
      by_cases h0 : 0 < j
      · have hne : l.take j ≠ [] := fun e => by have := congrArg List.length e; rw [List.length_take, List.length_nil] at this; omega
        obtain ⟨s1, s2, s3⟩ := stp_le hf.1 hj h0
        rw [if_neg hne, if_pos h0, pFour_be (stp l j : Int) _ (by omega) (by omega)]
        have hc := chain_in ht j _ (by omega) (by omega) _ ((hf.1.2 j hj).2 h0)
        refine ⟨?_, fun _ => hc.1⟩
        simp only [Int.toNat_natCast]
        unfold upR
        have htl : (l.take j).length = j := by rw [List.length_take]; omega
        rw [htl, chain_same (P' := par l) (k := j) (fun i hi => by rw [par_take hi]; exact ht i (by omega)) (fun i hi => par_take hi) j _ (by omega) (by omega), posOf_get s1]
        rfl
      · obtain rfl : j = 0 := by omega
        rw [List.take_zero, if_pos rfl, if_neg (by omega), (hf.1.2 0 hj).1 rfl, List.nil_append]
        exact ⟨rfl, fun h => absurd rfl h⟩
    rw [show r + 1 + x = (r + x) + 1 by omega, decT, key.1]
    simp only
    rw [if_neg (fun hh => by have := key.2 hh.1; omega), if_pos g1, g2, g3]
    have e : l.take j ++ [(⟨l[j].s, par l j⟩ : Nd)] = l.take (j + 1) := by rw [List.take_add_one, List.getElem?_eq_getElem hj, par_get hj]; rfl
    rw [e]
    exact decT_bytes l hf hn hok x m r (j + 1) (by omega)
theorem treeD_bytes (l : List Nd) (hf : TForm l) (hn : l.length < 4294967296) (hok : ∀ x ∈ l, x.Ok) (m : List Int) : treeD (treeB l ++ m) = if m = [] then some l else none := by
  have e : pFour (treeB l ++ m, false) = ((l.length : Int), restB l 0 l.length ++ m, false) := by
    unfold treeB
    rw [List.append_assoc]
    exact pFour_be _ _ (by omega) (by omega)
  have hd := decT_bytes l hf hn hok 0 m l.length 0 (by omega)
  rw [Nat.add_zero, List.take_zero] at hd
  unfold treeD
  rw [e]
  simp only [Int.toNat_natCast]
  rw [hd]
  simp only [decT, Prod.mk.injEq, and_true, hf.1.1]
end Go.Proofs.Ytbgnaeagdneikaa
-- pp: new
-- pp: short
namespace Go.Proofs.Ytbgnaeagdneikaa
open Go Go.Proofs.Ytbgnaeagdneikaa.Abs
set_option linter.unusedSimpArgs false
set_option linter.unusedVariables false

theorem Nd.cells_length {x : Nd} (h : x.Ok) : x.cells.length = 49 := by unfold Nd.cells; rw [List.length_append, h.s.len]; rfl
theorem ndCells_length : ∀ (l : List Nd), (∀ x ∈ l, x.Ok) → (ndCells l).length = l.length * 49
  | [], _ => rfl
  | x :: l, h => by
    have := ndCells_length l fun y hy => h y (by simp [hy])
    unfold ndCells at this ⊢
    rw [List.flatMap_cons, List.length_append, this, List.length_cons, Nd.cells_length (h x (by simp))]
    omega
theorem ndCells_at : ∀ (l : List Nd) (hk : ∀ x ∈ l, x.Ok) (j : Nat) (h : j < l.length), ((ndCells l).drop (j * 49)).take 49 = l[j].cells
  | x :: l, hk, 0, _ => by
    have e : ndCells (x :: l) = x.cells ++ ndCells l := by simp [ndCells]
    rw [e, Nat.zero_mul, List.drop_zero]
    exact List.take_left' (Nd.cells_length (hk x (by simp)))
  | x :: l, hk, j + 1, h => by
    have := ndCells_at l (fun y hy => hk y (by simp [hy])) j (by simpa using h)
    rw [Nat.succ_mul, Nat.add_comm, ← List.drop_drop]
    have e : (ndCells (x :: l)).drop 49 = ndCells l := by unfold ndCells; rw [List.flatMap_cons]; exact List.drop_left' (Nd.cells_length (hk x (by simp)))
    rw [e, this]
    rfl
/-- A slice of nodes. -/
def Ns (S : St) (v : Value) (l : List Nd) : Prop := Sl S 49 v l.length (ndCells l)
theorem nodes_at {S : St} {d o : Nat} {l : List Nd} (hk : ∀ x ∈ l, x.Ok) (h : cellsOf S d o (l.length * 49) = some (ndCells l)) (j : Nat) (hj : j < l.length) : cellsOf S d (o + j * 49) 49 = some l[j].cells := by
  rw [cellsOf_of_cells h (by omega), ndCells_at l hk j hj]
theorem style_at {S : St} {d o : Nat} {l : List Nd} (hk : ∀ x ∈ l, x.Ok) (h : cellsOf S d o (l.length * 49) = some (ndCells l)) (j : Nat) (hj : j < l.length) : cellsOf S d (o + j * 49) 48 = some l[j].s.cells := by
  have h1 := nodes_at hk h j hj
  have := cellsOf_of_cells (j := 0) (n := 48) h1 (by omega)
  rw [Nat.add_zero, List.drop_zero] at this
  rw [this]
  unfold Nd.cells
  rw [List.take_left' (hk _ (List.getElem_mem hj)).s.len]
theorem par_at {S : St} {d o : Nat} {l : List Nd} (hk : ∀ x ∈ l, x.Ok) (h : cellsOf S d o (l.length * 49) = some (ndCells l)) (j : Nat) (hj : j < l.length) : rd S d (o + j * 49 + 48) = some (.int .i64 (par l j)) := by
  rw [rd_of_cells (nodes_at hk h j hj) (by omega), par_get hj]
  unfold Nd.cells
  rw [List.getElem?_append_right (by rw [(hk _ (List.getElem_mem hj)).s.len]; omega), (hk _ (List.getElem_mem hj)).s.len]
  rfl

set_option maxHeartbeats 2000000 in
theorem up83 (x : Value) (l : List Nd) (k : Nat) (S : St) (h : Ns S x l) (hok : ∀ x ∈ l, x.Ok) (hk : k < l.length) (hn : l.length ≤ 1000000) (ht : Tr (par l) k) :
    ACalls Try.prog 83 [x, .int .i64 k] S fun r S' => S' = S ∧ r = match posOf (par l k) (chain (par l) ((k : Int) - 1)) with | some n => .tuple #[.int .i64 n, .bool true] | none => .tuple #[.int .i64 0, .bool false] := by
  refine ACalls.run hmix Try.func83 cN83 kN83 rfl fun hL Q hQ => ?_
  obtain ⟨d, o, e, rfl, he, hc⟩ := h.ne (by omega)
  have hw : IntKind.i64.wrap ((k : Int) - 1) = k - 1 := wrap64_id (by omega) (by omega)
  simp only [go_sem, seval, aN83, hw]
  refine lK_of (fun t' S' => S' = S ∧ ∃ (a : Int) (n : Nat), -1 ≤ a ∧ a + n ≤ (k : Int) - 1 ∧ posOf (par l k) (chain (par l) ((k : Int) - 1)) = (posOf (par l k) (chain (par l) a)).map (· + n) ∧ Slots t' [(0, .slice (some ⟨d, o, none⟩) l.length e), (1, .int .i64 k), (6, .int .i64 n), (7, .int .i64 a)]) (fun t' _ => (RowKit.intOf (t' 7) + 1).toNat) ?_ ?_
  · refine ⟨rfl, (k : Int) - 1, 0, by omega, by omega, by simp, ?_⟩
    simp only [go_sem, seval, slots_cons, slots_nil, Int.natCast_add, Int.natCast_succ, Int.cast_ofNat_Int]
  rintro t1 S1 Q1 ⟨rfl, a, n, h1, h2, h3, hs⟩ _ hN hE
  simp only [slots_cons, slots_nil] at hs
  by_cases ha : a < 0
  · have hg : ¬ (0 ≤ a) := by omega
    simp only [go_sem, seval, hs, hg]
    refine hE _ _ _ (by simp) ?_
    simp only [go_sem, seval, hs]
    refine hQ _ _ _ ?_; (first | rw [k_body_ret] | rw [k_body_normal]); simp only [resVals, resVal, ev, Env.get_put, ↓reduceIte, Nat.reduceEqDiff, Option.bind_some, Option.map_some, reduceCtorEq, ldv_true, ldv_false, lloadV_agg, partL, List.toList_toArray, cellsOf_set, cellsOf_new, rd_set, rd_new, List.length_cons, List.length_nil, Nat.reduceAdd, Nat.reduceLeDiff, Nat.le_refl, List.take_succ_cons, List.take_zero, List.drop_zero, Nat.add_eq_left, Nat.left_eq_add, List.getElem?_cons_zero, List.getElem?_cons_succ, aN83, hs]; rw [retQ_some]; simp only [oneOr]
    rw [h3, chain_neg _ ha]
    simp [posOf]
  have hg : 0 ≤ a := by omega
  obtain ⟨j, rfl⟩ : ∃ j : Nat, a = j := ⟨a.toNat, by omega⟩
  have hjk : j < l.length := by omega
  have hjl : (j : Int) < l.length := by omega
  have hkl : (k : Int) < l.length := by omega
  have hk0 : (0 : Int) ≤ k := by omega
  have hpk := par_at hok hc k hk
  have hpj := par_at hok hc j hjk
  have htj := ht j (by omega)
  have hch := chain_pos ht (a := (j : Int)) (by omega) (by omega)
  rw [Int.toNat_natCast] at hch
  rw [hch, posOf] at h3
  have hw1 : IntKind.i64.wrap ((n : Int) + 1) = n + 1 := wrap64_id (by omega) (by omega)
  by_cases hp : (j : Int) = par l k
  · have hpe : ((j : Int) == par l k) = true := by simpa using hp
    rw [if_pos hp] at h3
    simp only [go_sem, seval, hs, hg, hkl, hk0, Int.toNat_natCast, hpk, hpe]
    refine hE _ _ _ (by simp) ?_
    simp only [go_sem, seval, hs]
    refine hQ _ _ _ ?_; (first | rw [k_body_ret] | rw [k_body_normal]); simp only [resVals, resVal, ev, Env.get_put, ↓reduceIte, Nat.reduceEqDiff, Option.bind_some, Option.map_some, reduceCtorEq, ldv_true, ldv_false, lloadV_agg, partL, List.toList_toArray, cellsOf_set, cellsOf_new, rd_set, rd_new, List.length_cons, List.length_nil, Nat.reduceAdd, Nat.reduceLeDiff, Nat.le_refl, List.take_succ_cons, List.take_zero, List.drop_zero, Nat.add_eq_left, Nat.left_eq_add, List.getElem?_cons_zero, List.getElem?_cons_succ, aN83, hs]; rw [retQ_some]; simp only [oneOr]
    rw [h3]
    simp
  · have hpe : ((j : Int) == par l k) = false := by simpa using hp
    rw [if_neg hp] at h3
    simp only [go_sem, seval, hs, hg, hkl, hk0, Int.toNat_natCast, hpk, hpe, hw1, hjl, hpj]
    refine hN _ _ ⟨rfl, par l j, n + 1, by omega, by omega, ?_, ?_⟩ ?_
    · rw [h3, Option.map_map]
      congr 1
      funext q
      simp
      omega
    · simp only [go_sem, seval, slots_cons, slots_nil, Int.natCast_add, Int.natCast_succ, Int.cast_ofNat_Int, hs]
    · simp only [go_sem, seval, hs]
      simp [RowKit.intOf]
      omega

set_option maxHeartbeats 2000000 in
theorem above94 (x : Value) (l : List Nd) (p a : Int) (k : Nat) (S : St) (h : Ns S x l) (hok : ∀ x ∈ l, x.Ok) (hk : k ≤ l.length) (ht : Tr (par l) k) (h0 : -1 ≤ a) (ha : a < k) :
    ACalls Try.prog 94 [x, .int .i64 p, .int .i64 a] S (BoolAt (p ∈ chain (par l) a) S) := by
  refine ACalls.run hmix Try.func94 cN94 kN94 rfl fun hL Q hQ => ?_
  obtain ⟨b, e, rfl⟩ := Sl.slice h
  simp only [go_sem, seval, aN94]
  refine lK_of (fun t' S' => S' = S ∧ ∃ (c : Int), -1 ≤ c ∧ c < k ∧ (p ∈ chain (par l) a ↔ p ∈ chain (par l) c) ∧ Slots t' [(0, .slice b l.length e), (1, .int .i64 p), (2, .int .i64 c)]) (fun t' _ => (RowKit.intOf (t' 2) + 1).toNat) ?_ ?_
  · refine ⟨rfl, a, h0, ha, Iff.rfl, ?_⟩
    simp only [go_sem, seval, slots_cons, slots_nil, Int.natCast_add, Int.natCast_succ, Int.cast_ofNat_Int]
  rintro t1 S1 Q1 ⟨rfl, c, h1, h2, h3, hs⟩ _ hN hE
  simp only [slots_cons, slots_nil] at hs
  by_cases hc : c < 0
  · have hg : ¬ (0 ≤ c) := by omega
    simp only [go_sem, seval, hs, hg]
    refine hE _ _ _ (by simp) ?_
    simp only [go_sem, seval, hs]
    refine hQ _ _ _ ?_; (first | rw [k_body_ret] | rw [k_body_normal]); simp only [resVals, resVal, ev, Env.get_put, ↓reduceIte, Nat.reduceEqDiff, Option.bind_some, Option.map_some, reduceCtorEq, ldv_true, ldv_false, lloadV_agg, partL, List.toList_toArray, cellsOf_set, cellsOf_new, rd_set, rd_new, List.length_cons, List.length_nil, Nat.reduceAdd, Nat.reduceLeDiff, Nat.le_refl, List.take_succ_cons, List.take_zero, List.drop_zero, Nat.add_eq_left, Nat.left_eq_add, List.getElem?_cons_zero, List.getElem?_cons_succ, aN94, hs]; rw [retQ_some]; simp only [oneOr]
    exact ⟨rfl, false, rfl, by rw [h3, chain_neg _ hc]; simp⟩
  have hg : 0 ≤ c := by omega
  obtain ⟨j, rfl⟩ : ∃ j : Nat, c = j := ⟨c.toNat, by omega⟩
  have hjk : j < l.length := by omega
  have hjl : (j : Int) < l.length := by omega
  obtain ⟨d, o, f, hv, he, hcs⟩ := h.ne (by omega)
  cases hv
  have hpj := par_at hok hcs j hjk
  have htj := ht j (by omega)
  have hch := chain_pos ht (a := (j : Int)) (by omega) (by omega)
  rw [Int.toNat_natCast] at hch
  rw [hch] at h3
  by_cases hp : (j : Int) = p
  · have hpe : ((j : Int) == p) = true := by simpa using hp
    simp only [go_sem, seval, hs, hg, hpe]
    refine hE _ _ _ (by simp) ?_
    simp only [go_sem, seval, hs]
    refine hQ _ _ _ ?_; (first | rw [k_body_ret] | rw [k_body_normal]); simp only [resVals, resVal, ev, Env.get_put, ↓reduceIte, Nat.reduceEqDiff, Option.bind_some, Option.map_some, reduceCtorEq, ldv_true, ldv_false, lloadV_agg, partL, List.toList_toArray, cellsOf_set, cellsOf_new, rd_set, rd_new, List.length_cons, List.length_nil, Nat.reduceAdd, Nat.reduceLeDiff, Nat.le_refl, List.take_succ_cons, List.take_zero, List.drop_zero, Nat.add_eq_left, Nat.left_eq_add, List.getElem?_cons_zero, List.getElem?_cons_succ, aN94, hs]; rw [retQ_some]; simp only [oneOr]
    exact ⟨rfl, true, rfl, by rw [h3]; simp [hp]⟩
  · have hpe : ((j : Int) == p) = false := by simpa using hp
    simp only [go_sem, seval, hs, hg, Int.toNat_natCast, hpe, hjl, hpj]
    refine hN _ _ ⟨rfl, par l j, by omega, by omega, ?_, ?_⟩ ?_
    · rw [h3]
      simp only [List.mem_cons]
      exact ⟨fun h => h.resolve_left fun e => hp e.symm, .inr⟩
    · simp only [go_sem, seval, slots_cons, slots_nil, Int.natCast_add, Int.natCast_succ, Int.cast_ofNat_Int, hs]
    · simp only [go_sem, seval, hs]
      simp [RowKit.intOf]
      omega

set_option maxHeartbeats 2000000 in
theorem deep61 (x : Value) (l : List Nd) (a : Int) (k : Nat) (S : St) (h : Ns S x l) (hok : ∀ x ∈ l, x.Ok) (hk : k ≤ l.length) (hn : l.length ≤ 1000000) (ht : Tr (par l) k) (h0 : -1 ≤ a) (ha : a < k) :
    ACalls Try.prog 61 [x, .int .i64 a] S fun r S' => S' = S ∧ r = .int .i64 ((chain (par l) a).length : Nat) := by
  refine ACalls.run hmix Try.func61 cN61 kN61 rfl fun hL Q hQ => ?_
  obtain ⟨b, e, rfl⟩ := Sl.slice h
  simp only [go_sem, seval, aN61]
  refine lK_of (fun t' S' => S' = S ∧ ∃ (c : Int) (n : Nat), -1 ≤ c ∧ c + n < k ∧ (chain (par l) a).length = n + (chain (par l) c).length ∧ Slots t' [(0, .slice b l.length e), (1, .int .i64 c), (5, .int .i64 n)]) (fun t' _ => (RowKit.intOf (t' 1) + 1).toNat) ?_ ?_
  · refine ⟨rfl, a, 0, h0, by omega, by omega, ?_⟩
    simp only [go_sem, seval, slots_cons, slots_nil, Int.natCast_add, Int.natCast_succ, Int.cast_ofNat_Int]
  rintro t1 S1 Q1 ⟨rfl, c, n, h1, h2, h3, hs⟩ _ hN hE
  simp only [slots_cons, slots_nil] at hs
  by_cases hc : c < 0
  · have hg : ¬ (0 ≤ c) := by omega
    simp only [go_sem, seval, hs, hg]
    refine hE _ _ _ (by simp) ?_
    simp only [go_sem, seval, hs]
    refine hQ _ _ _ ?_; (first | rw [k_body_ret] | rw [k_body_normal]); simp only [resVals, resVal, ev, Env.get_put, ↓reduceIte, Nat.reduceEqDiff, Option.bind_some, Option.map_some, reduceCtorEq, ldv_true, ldv_false, lloadV_agg, partL, List.toList_toArray, cellsOf_set, cellsOf_new, rd_set, rd_new, List.length_cons, List.length_nil, Nat.reduceAdd, Nat.reduceLeDiff, Nat.le_refl, List.take_succ_cons, List.take_zero, List.drop_zero, Nat.add_eq_left, Nat.left_eq_add, List.getElem?_cons_zero, List.getElem?_cons_succ, aN61, hs]; rw [retQ_some]; simp only [oneOr]
    rw [h3, chain_neg _ hc]
    simp
  have hg : 0 ≤ c := by omega
  obtain ⟨j, rfl⟩ : ∃ j : Nat, c = j := ⟨c.toNat, by omega⟩
  have hjk : j < l.length := by omega
  have hjl : (j : Int) < l.length := by omega
  obtain ⟨d, o, f, hv, he, hcs⟩ := h.ne (by omega)
  cases hv
  have hpj := par_at hok hcs j hjk
  have htj := ht j (by omega)
  have hch := chain_pos ht (a := (j : Int)) (by omega) (by omega)
  rw [Int.toNat_natCast] at hch
  rw [hch, List.length_cons] at h3
  have hw1 : IntKind.i64.wrap ((n : Int) + 1) = n + 1 := wrap64_id (by omega) (by omega)
  simp only [go_sem, seval, hs, hg, Int.toNat_natCast, hjl, hpj, hw1]
  refine hN _ _ ⟨rfl, par l j, n + 1, by omega, by omega, by omega, ?_⟩ ?_
  · simp only [go_sem, seval, slots_cons, slots_nil, Int.natCast_add, Int.natCast_succ, Int.cast_ofNat_Int, hs]
  · simp only [go_sem, seval, hs]
    simp [RowKit.intOf]
    omega

theorem drop_getD {l : List Int} {n : Nat} : (l[n]?).getD (-1) = ((l.drop n).head?).getD (-1) := by rw [List.head?_drop]

set_option maxHeartbeats 2000000 in
theorem parent97 (x : Value) (l : List Nd) (a : Int) (n k : Nat) (S : St) (h : Ns S x l) (hok : ∀ x ∈ l, x.Ok) (hk : k ≤ l.length) (hn : n < 4294967296) (ht : Tr (par l) k) (h0 : -1 ≤ a) (ha : a < k) :
    ACalls Try.prog 97 [x, .int .i64 a, .int .u32 n] S fun r S' => S' = S ∧ r = .int .i64 (((chain (par l) a)[n]?).getD (-1)) := by
  refine ACalls.run hmix Try.func97 cN97 kN97 rfl fun hL Q hQ => ?_
  obtain ⟨b, e, rfl⟩ := Sl.slice h
  simp only [go_sem, seval, aN97]
  refine lK_of (fun t' S' => S' = S ∧ ∃ (c : Int) (m : Nat), -1 ≤ c ∧ c < k ∧ m ≤ n ∧ (chain (par l) a)[n]? = (chain (par l) c)[m]? ∧ Slots t' [(0, .slice b l.length e), (1, .int .i64 c), (2, .int .u32 m)]) (fun t' _ => (RowKit.intOf (t' 2)).toNat) ?_ ?_
  · refine ⟨rfl, a, n, h0, by omega, by omega, rfl, ?_⟩
    simp only [go_sem, seval, slots_cons, slots_nil, Int.natCast_add, Int.natCast_succ, Int.cast_ofNat_Int]
  rintro t1 S1 Q1 ⟨rfl, c, m, h1, h2, hmn, h3, hs⟩ _ hN hE
  simp only [slots_cons, slots_nil] at hs
  by_cases hm : m = 0
  · subst hm
    simp only [go_sem, seval, hs, Int.lt_irrefl, Int.ofNat_zero]
    refine hE _ _ _ (by simp) ?_
    simp only [go_sem, seval, hs]
    refine hQ _ _ _ ?_; (first | rw [k_body_ret] | rw [k_body_normal]); simp only [resVals, resVal, ev, Env.get_put, ↓reduceIte, Nat.reduceEqDiff, Option.bind_some, Option.map_some, reduceCtorEq, ldv_true, ldv_false, lloadV_agg, partL, List.toList_toArray, cellsOf_set, cellsOf_new, rd_set, rd_new, List.length_cons, List.length_nil, Nat.reduceAdd, Nat.reduceLeDiff, Nat.le_refl, List.take_succ_cons, List.take_zero, List.drop_zero, Nat.add_eq_left, Nat.left_eq_add, List.getElem?_cons_zero, List.getElem?_cons_succ, aN97, hs]; rw [retQ_some]; simp only [oneOr]
    rw [h3]
    by_cases hc : c < 0
    · rw [chain_neg _ hc]
      simp
      omega
    · rw [chain_pos ht (by omega) h2]
      simp
  have hm0 : (0 : Int) < m := by omega
  by_cases hc : c < 0
  · have hg : ¬ (0 ≤ c) := by omega
    simp only [go_sem, seval, hs, hm0, hg]
    refine hE _ _ _ (by simp) ?_
    simp only [go_sem, seval, hs]
    refine hQ _ _ _ ?_; (first | rw [k_body_ret] | rw [k_body_normal]); simp only [resVals, resVal, ev, Env.get_put, ↓reduceIte, Nat.reduceEqDiff, Option.bind_some, Option.map_some, reduceCtorEq, ldv_true, ldv_false, lloadV_agg, partL, List.toList_toArray, cellsOf_set, cellsOf_new, rd_set, rd_new, List.length_cons, List.length_nil, Nat.reduceAdd, Nat.reduceLeDiff, Nat.le_refl, List.take_succ_cons, List.take_zero, List.drop_zero, Nat.add_eq_left, Nat.left_eq_add, List.getElem?_cons_zero, List.getElem?_cons_succ, aN97, hs]; rw [retQ_some]; simp only [oneOr]
    rw [h3, chain_neg _ hc]
    simp
    omega
  have hg : 0 ≤ c := by omega
  obtain ⟨j, rfl⟩ : ∃ j : Nat, c = j := ⟨c.toNat, by omega⟩
  have hjk : j < l.length := by omega
  have hjl : (j : Int) < l.length := by omega
  obtain ⟨d, o, f, hv, he, hcs⟩ := h.ne (by omega)
  cases hv
  have hpj := par_at hok hcs j hjk
  have htj := ht j (by omega)
  have hch := chain_pos ht (a := (j : Int)) (by omega) (by omega)
  rw [Int.toNat_natCast] at hch
  obtain ⟨q, rfl⟩ : ∃ q, m = q + 1 := ⟨m - 1, by omega⟩
  rw [hch, List.getElem?_cons_succ] at h3
  have hw1 : IntKind.u32.wrap (((q + 1 : Nat) : Int) - 1) = q := by rw [wrap32u]; omega
  simp only [go_sem, seval, hs, hm0, hg, Int.toNat_natCast, hjl, hpj, hw1]
  refine hN _ _ ⟨rfl, par l j, q, by omega, by omega, by omega, h3, ?_⟩ ?_
  · simp only [go_sem, seval, slots_cons, slots_nil, Int.natCast_add, Int.natCast_succ, Int.cast_ofNat_Int, hs]
  · simp only [go_sem, seval, hs]
    simp [RowKit.intOf]
end Go.Proofs.Ytbgnaeagdneikaa
-- pp: new
-- pp: short
namespace Go.Proofs.Ytbgnaeagdneikaa
open Go Go.Proofs.Ytbgnaeagdneikaa.Abs
set_option linter.unusedSimpArgs false
set_option linter.unusedVariables false

theorem sh_succ {P : Nat → Int} {k : Nat} (h : Sh P k) (h0 : k = 0 → P 0 = -1) (h1 : 0 < k → P k ∈ chain P (k - 1)) : Sh P (k + 1) := by
  intro i hi
  by_cases hik : i < k
  · exact h i hik
  · obtain rfl : i = k := by omega
    exact ⟨h0, h1⟩
theorem sh_in {P : Nat → Int} {k : Nat} (h : Sh P k) (h0 : 0 < k) {p : Int} (hp : p ∈ chain P ((k : Int) - 1)) : 0 ≤ p ∧ p < k := by
  have := chain_in h.tr k _ (by omega) (by omega) _ hp
  omega

set_option maxHeartbeats 2000000 in
theorem formed51 (x : Value) (l : List Nd) (S : St) (h : Ns S x l) (hok : ∀ x ∈ l, x.Ok) (hn : l.length ≤ 1000000) : ACalls Try.prog 51 [x] S (BoolPost (TForm l) S) := by
  refine ACalls.run hmix Try.func51 cN51 kN51 rfl fun hL Q hQ => ?_
  obtain ⟨b, e, rfl⟩ := Sl.slice h
  by_cases h0 : l.length = 0
  · have hz : ((l.length : Int) == 0) = true := by simp [h0]
    simp only [go_sem, seval, aN51, hz]
    refine hQ _ _ _ ?_; (first | rw [k_body_ret] | rw [k_body_normal]); simp only [resVals, resVal, ev, Env.get_put, ↓reduceIte, Nat.reduceEqDiff, Option.bind_some, Option.map_some, reduceCtorEq, ldv_true, ldv_false, lloadV_agg, partL, List.toList_toArray, cellsOf_set, cellsOf_new, rd_set, rd_new, List.length_cons, List.length_nil, Nat.reduceAdd, Nat.reduceLeDiff, Nat.le_refl, List.take_succ_cons, List.take_zero, List.drop_zero, Nat.add_eq_left, Nat.left_eq_add, List.getElem?_cons_zero, List.getElem?_cons_succ, aN51]; rw [retQ_some]; simp only [oneOr]
    exact ⟨⟨false, rfl, by simp [TForm, Shaped, h0]⟩, Keeps.refl _ _⟩
  have hz : ((l.length : Int) == 0) = false := by simp; intro e; apply h0; simp [e]
  obtain ⟨d, o, f, hv, he, hcs⟩ := h.ne (by omega)
  cases hv
  have hl0 : (0 : Int) < l.length := by omega
  have hp0 := par_at hok hcs 0 (by omega)
  by_cases hm : par l 0 = -1
  rotate_left
  · have hme : (par l 0 != -1) = true := by simpa using hm
    simp only [go_sem, seval, aN51, hz, hl0, Int.le_refl, Int.toNat_zero, hp0, hme]
    refine hQ _ _ _ ?_; (first | rw [k_body_ret] | rw [k_body_normal]); simp only [resVals, resVal, ev, Env.get_put, ↓reduceIte, Nat.reduceEqDiff, Option.bind_some, Option.map_some, reduceCtorEq, ldv_true, ldv_false, lloadV_agg, partL, List.toList_toArray, cellsOf_set, cellsOf_new, rd_set, rd_new, List.length_cons, List.length_nil, Nat.reduceAdd, Nat.reduceLeDiff, Nat.le_refl, List.take_succ_cons, List.take_zero, List.drop_zero, Nat.add_eq_left, Nat.left_eq_add, List.getElem?_cons_zero, List.getElem?_cons_succ, aN51]; rw [retQ_some]; simp only [oneOr]
    exact ⟨⟨false, rfl, by simp; intro hf; exact hm ((hf.1.2 0 hf.1.1).1 rfl)⟩, Keeps.refl _ _⟩
  have hme : (par l 0 != -1) = false := by simpa using hm
  simp only [go_sem, seval, aN51, hz, hl0, Int.le_refl, Int.toNat_zero, hp0, hme]
  refine lK_of (fun t' S' => KeepsAll S S' ∧ Live S' ∧ ∃ j : Nat, j ≤ l.length ∧ Slots t' [(0, .slice (some ⟨d, o, none⟩) l.length e), (17, .int .i64 l.length), (18, .int .i64 j)] ∧ Sh (par l) j ∧ ∀ (k : Nat) (h1 : k < l.length), k < j → SFormed l[k].s) (fun t' _ => (l.length - RowKit.intOf (t' 18)).toNat) ?_ ?_
  · refine ⟨Keeps.refl _ _, hL, 0, by omega, ?_, fun i hi => by omega, fun k _ hk => by omega⟩
    simp only [go_sem, seval, slots_cons, slots_nil, Int.natCast_add, Int.natCast_succ, Int.cast_ofNat_Int, hme]
  rintro t1 S1 Q1 ⟨hK1, hL1, j, hj, hs, hsh, hfm⟩ _ hN hE
  simp only [slots_cons, slots_nil] at hs
  have h1 : Ns S1 (.slice (some ⟨d, o, none⟩) l.length e) l := Sl.keeps hL h hK1 fun _ _ => trivial
  by_cases hjn : j = l.length
  · subst hjn
    simp only [go_sem, seval, hs, Int.lt_irrefl]
    refine hE _ _ _ (by simp) ?_
    simp only [go_sem, seval, hs]
    refine hQ _ _ _ ?_; (first | rw [k_body_ret] | rw [k_body_normal]); simp only [resVals, resVal, ev, Env.get_put, ↓reduceIte, Nat.reduceEqDiff, Option.bind_some, Option.map_some, reduceCtorEq, ldv_true, ldv_false, lloadV_agg, partL, List.toList_toArray, cellsOf_set, cellsOf_new, rd_set, rd_new, List.length_cons, List.length_nil, Nat.reduceAdd, Nat.reduceLeDiff, Nat.le_refl, List.take_succ_cons, List.take_zero, List.drop_zero, Nat.add_eq_left, Nat.left_eq_add, List.getElem?_cons_zero, List.getElem?_cons_succ, aN51, hs]; rw [retQ_some]; simp only [oneOr]
    refine ⟨⟨true, rfl, iff_of_true rfl ⟨⟨by omega, hsh⟩, fun y hy => ?_⟩⟩, hK1⟩
    obtain ⟨k, g1, rfl⟩ := List.getElem_of_mem hy
    exact hfm k g1 g1
  have hjl : j < l.length := by omega
  have hjl' : (j : Int) < l.length := by omega
  have hj0 : (0 : Int) ≤ j := by omega
  have hj1 : IntKind.i64.wrap ((j : Int) + 1) = j + 1 := wrap64_id (by omega) (by omega)
  obtain ⟨d1, o1, f1, hv1, _, hcs1⟩ := h1.ne (by omega)
  cases hv1
  have hst := style_at hok hcs1 j hjl
  simp only [go_sem, seval, hs, hjl']
  refine iK_cut (fun t' S' => Slots t' [(0, .slice (some ⟨d, o, none⟩) l.length e), (3, .int .i64 j), (17, .int .i64 l.length), (18, .int .i64 j)] ∧ S' = S1 ∧ Sh (par l) (j + 1)) (fun Q6 hN6 hE6 => iK_split (fun hc => ?_) (fun hc => ?_)) ?_
  · have hj0' : 0 < j := by simpa using hc
    simp only [go_sem, seval, hs, hjl']
    refine cK_of (up83 _ l j S1 h1 hok hjl hn hsh.tr) ?_
    rintro r2 S2 hS2 hL2 ⟨rfl, rfl⟩
    match hpo : posOf (par l j) (chain (par l) ((j : Int) - 1)) with
    | none =>
      simp only [go_sem, seval, hs]
      refine hE6 _ _ _ (by simp) ?_
      simp only [go_sem, seval, hs]
      refine hE _ _ _ (by simp) ?_
      simp only [go_sem, seval, hs]
      refine hQ _ _ _ ?_; (first | rw [k_body_ret] | rw [k_body_normal]); simp only [resVals, resVal, ev, Env.get_put, ↓reduceIte, Nat.reduceEqDiff, Option.bind_some, Option.map_some, reduceCtorEq, ldv_true, ldv_false, lloadV_agg, partL, List.toList_toArray, cellsOf_set, cellsOf_new, rd_set, rd_new, List.length_cons, List.length_nil, Nat.reduceAdd, Nat.reduceLeDiff, Nat.le_refl, List.take_succ_cons, List.take_zero, List.drop_zero, Nat.add_eq_left, Nat.left_eq_add, List.getElem?_cons_zero, List.getElem?_cons_succ, aN51, hs]; rw [retQ_some]; simp only [oneOr]
      refine ⟨⟨false, rfl, by simp; intro hf; obtain ⟨n, hn⟩ := posOf_some.2 ((hf.1.2 j hjl).2 hj0'); rw [hpo] at hn; cases hn⟩, hK1⟩
    | some n =>
      simp only [go_sem, seval, hs]
      refine hN6 _ _ ⟨?_, rfl, sh_succ hsh (fun e => by omega) fun _ => posOf_some.1 ⟨n, hpo⟩⟩
      simp only [go_sem, seval, slots_cons, slots_nil, Int.natCast_add, Int.natCast_succ, Int.cast_ofNat_Int, hs]
  · have hj0' : ¬ 0 < j := by simpa using hc
    simp only [go_sem, seval, hs, hjl']
    refine hN6 _ _ ⟨?_, rfl, sh_succ hsh (fun e => hm) fun e => by omega⟩
    simp only [go_sem, seval, slots_cons, slots_nil, Int.natCast_add, Int.natCast_succ, Int.cast_ofNat_Int, hs]
  rintro t6 S6 ⟨h6, rfl, hsh6⟩
  simp only [slots_cons, slots_nil] at h6
  have hslen := (hok _ (List.getElem_mem hjl)).s.len
  simp only [go_sem, seval, h6, hjl', hj0, Int.toNat_natCast, hst]
  refine cK_of (formed20 l[j].s (hok _ (List.getElem_mem hjl)).s S6) ?_
  rintro r7 S7 hS7 hL7 ⟨⟨c, rfl, hc⟩, hK7⟩
  cases c
  · simp only [go_sem, seval, h6]
    refine hE _ _ _ (by simp) ?_
    simp only [go_sem, seval, h6]
    refine hQ _ _ _ ?_; (first | rw [k_body_ret] | rw [k_body_normal]); simp only [resVals, resVal, ev, Env.get_put, ↓reduceIte, Nat.reduceEqDiff, Option.bind_some, Option.map_some, reduceCtorEq, ldv_true, ldv_false, lloadV_agg, partL, List.toList_toArray, cellsOf_set, cellsOf_new, rd_set, rd_new, List.length_cons, List.length_nil, Nat.reduceAdd, Nat.reduceLeDiff, Nat.le_refl, List.take_succ_cons, List.take_zero, List.drop_zero, Nat.add_eq_left, Nat.left_eq_add, List.getElem?_cons_zero, List.getElem?_cons_succ, aN51, h6]; rw [retQ_some]; simp only [oneOr]
    exact ⟨⟨false, rfl, by simp; intro hf; have := hc.2 (hf.2 _ (List.getElem_mem hjl)); cases this⟩, hK1.trans hK7 fun _ _ _ => trivial⟩
  · simp only [go_sem, seval, h6, hj1]
    refine hN _ _ ⟨hK1.trans hK7 fun _ _ _ => trivial, hL7, j + 1, by omega, ?_, hsh6, fun k g1 g2 => ?_⟩ ?_
    · simp only [go_sem, seval, slots_cons, slots_nil, Int.natCast_add, Int.natCast_succ, Int.cast_ofNat_Int, h6]
    · by_cases hkj : k = j
      · subst hkj; exact hc.1 rfl
      · exact hfm k g1 (by omega)
    · simp only [go_sem, seval, h6, hs]
      simp [RowKit.intOf]
      omega

set_option maxHeartbeats 2000000 in
theorem shaped84 (x : Value) (l : List Nd) (S : St) (h : Ns S x l) (hok : ∀ x ∈ l, x.Ok) (hn : l.length ≤ 1000000) : ACalls Try.prog 84 [x] S (BoolAt (Shaped l) S) := by
  refine ACalls.run hmix Try.func84 cN84 kN84 rfl fun hL Q hQ => ?_
  obtain ⟨b, e, rfl⟩ := Sl.slice h
  by_cases h0 : l.length = 0
  · have hz : ((l.length : Int) == 0) = true := by simp [h0]
    simp only [go_sem, seval, aN84, hz]
    refine hQ _ _ _ ?_; (first | rw [k_body_ret] | rw [k_body_normal]); simp only [resVals, resVal, ev, Env.get_put, ↓reduceIte, Nat.reduceEqDiff, Option.bind_some, Option.map_some, reduceCtorEq, ldv_true, ldv_false, lloadV_agg, partL, List.toList_toArray, cellsOf_set, cellsOf_new, rd_set, rd_new, List.length_cons, List.length_nil, Nat.reduceAdd, Nat.reduceLeDiff, Nat.le_refl, List.take_succ_cons, List.take_zero, List.drop_zero, Nat.add_eq_left, Nat.left_eq_add, List.getElem?_cons_zero, List.getElem?_cons_succ, aN84]; rw [retQ_some]; simp only [oneOr]
    exact ⟨rfl, false, rfl, by simp [Shaped, h0]⟩
  have hz : ((l.length : Int) == 0) = false := by simp; intro e; apply h0; simp [e]
  obtain ⟨d, o, f, hv, he, hcs⟩ := h.ne (by omega)
  cases hv
  have hl0 : (0 : Int) < l.length := by omega
  have hp0 := par_at hok hcs 0 (by omega)
  by_cases hm : par l 0 = -1
  rotate_left
  · have hme : (par l 0 != -1) = true := by simpa using hm
    simp only [go_sem, seval, aN84, hz, hl0, Int.le_refl, Int.toNat_zero, hp0, hme]
    refine hQ _ _ _ ?_; (first | rw [k_body_ret] | rw [k_body_normal]); simp only [resVals, resVal, ev, Env.get_put, ↓reduceIte, Nat.reduceEqDiff, Option.bind_some, Option.map_some, reduceCtorEq, ldv_true, ldv_false, lloadV_agg, partL, List.toList_toArray, cellsOf_set, cellsOf_new, rd_set, rd_new, List.length_cons, List.length_nil, Nat.reduceAdd, Nat.reduceLeDiff, Nat.le_refl, List.take_succ_cons, List.take_zero, List.drop_zero, Nat.add_eq_left, Nat.left_eq_add, List.getElem?_cons_zero, List.getElem?_cons_succ, aN84]; rw [retQ_some]; simp only [oneOr]
    exact ⟨rfl, false, rfl, by simp; intro hf; exact hm ((hf.2 0 hf.1).1 rfl)⟩
  have hme : (par l 0 != -1) = false := by simpa using hm
  simp only [go_sem, seval, aN84, hz, hl0, Int.le_refl, Int.toNat_zero, hp0, hme]
  refine lK_of (fun t' S' => S' = S ∧ ∃ j : Nat, 1 ≤ j ∧ j ≤ l.length ∧ Slots t' [(0, .slice (some ⟨d, o, none⟩) l.length e), (3, .int .i64 j)] ∧ Sh (par l) j) (fun t' _ => (l.length - RowKit.intOf (t' 3)).toNat) ?_ ?_
  · refine ⟨rfl, 1, by omega, by omega, ?_, fun i hi => ⟨fun _ => hm, fun h => by omega⟩⟩
    simp only [go_sem, seval, slots_cons, slots_nil, Int.natCast_add, Int.natCast_succ, Int.cast_ofNat_Int, hme]
  rintro t1 S1 Q1 ⟨rfl, j, hj1, hj, hs, hsh⟩ _ hN hE
  simp only [slots_cons, slots_nil] at hs
  by_cases hjn : j = l.length
  · subst hjn
    simp only [go_sem, seval, hs, Int.lt_irrefl]
    refine hE _ _ _ (by simp) ?_
    simp only [go_sem, seval, hs]
    refine hQ _ _ _ ?_; (first | rw [k_body_ret] | rw [k_body_normal]); simp only [resVals, resVal, ev, Env.get_put, ↓reduceIte, Nat.reduceEqDiff, Option.bind_some, Option.map_some, reduceCtorEq, ldv_true, ldv_false, lloadV_agg, partL, List.toList_toArray, cellsOf_set, cellsOf_new, rd_set, rd_new, List.length_cons, List.length_nil, Nat.reduceAdd, Nat.reduceLeDiff, Nat.le_refl, List.take_succ_cons, List.take_zero, List.drop_zero, Nat.add_eq_left, Nat.left_eq_add, List.getElem?_cons_zero, List.getElem?_cons_succ, aN84, hs]; rw [retQ_some]; simp only [oneOr]
    exact ⟨rfl, true, rfl, iff_of_true rfl ⟨by omega, hsh⟩⟩
  have hjl : j < l.length := by omega
  have hjl' : (j : Int) < l.length := by omega
  have hj0 : (0 : Int) ≤ j := by omega
  have hw1 : IntKind.i64.wrap ((j : Int) + 1) = j + 1 := wrap64_id (by omega) (by omega)
  have hw2 : IntKind.i64.wrap ((j : Int) - 1) = j - 1 := wrap64_id (by omega) (by omega)
  have hpj := par_at hok hcs j hjl
  have hno : ¬ (par l j ∈ chain (par l) ((j : Int) - 1)) → ¬ Shaped l := fun hh hf => hh ((hf.2 j hjl).2 (by omega))
  by_cases g1 : par l j < 0
  · simp only [go_sem, seval, hs, hjl', hj0, Int.toNat_natCast, hpj, g1]
    refine hE _ _ _ (by simp) ?_
    simp only [go_sem, seval, hs]
    refine hQ _ _ _ ?_; (first | rw [k_body_ret] | rw [k_body_normal]); simp only [resVals, resVal, ev, Env.get_put, ↓reduceIte, Nat.reduceEqDiff, Option.bind_some, Option.map_some, reduceCtorEq, ldv_true, ldv_false, lloadV_agg, partL, List.toList_toArray, cellsOf_set, cellsOf_new, rd_set, rd_new, List.length_cons, List.length_nil, Nat.reduceAdd, Nat.reduceLeDiff, Nat.le_refl, List.take_succ_cons, List.take_zero, List.drop_zero, Nat.add_eq_left, Nat.left_eq_add, List.getElem?_cons_zero, List.getElem?_cons_succ, aN84, hs]; rw [retQ_some]; simp only [oneOr]
    exact ⟨rfl, false, rfl, iff_of_false (by simp) (hno fun hp => by have := sh_in hsh (by omega) hp; omega)⟩
  by_cases g2 : (j : Int) ≤ par l j
  · simp only [go_sem, seval, hs, hjl', hj0, Int.toNat_natCast, hpj, g1, g2]
    refine hE _ _ _ (by simp) ?_
    simp only [go_sem, seval, hs]
    refine hQ _ _ _ ?_; (first | rw [k_body_ret] | rw [k_body_normal]); simp only [resVals, resVal, ev, Env.get_put, ↓reduceIte, Nat.reduceEqDiff, Option.bind_some, Option.map_some, reduceCtorEq, ldv_true, ldv_false, lloadV_agg, partL, List.toList_toArray, cellsOf_set, cellsOf_new, rd_set, rd_new, List.length_cons, List.length_nil, Nat.reduceAdd, Nat.reduceLeDiff, Nat.le_refl, List.take_succ_cons, List.take_zero, List.drop_zero, Nat.add_eq_left, Nat.left_eq_add, List.getElem?_cons_zero, List.getElem?_cons_succ, aN84, hs]; rw [retQ_some]; simp only [oneOr]
    exact ⟨rfl, false, rfl, iff_of_false (by simp) (hno fun hp => by have := sh_in hsh (by omega) hp; omega)⟩
  simp only [go_sem, seval, hs, hjl', hj0, Int.toNat_natCast, hpj, g1, g2, hw2]
  refine cK_of (above94 _ l (par l j) ((j : Int) - 1) j S1 h hok (by omega) hsh.tr (by omega) (by omega)) ?_
  rintro r2 S2 hS2 hL2 ⟨rfl, c, rfl, hc⟩
  cases c
  · simp only [go_sem, seval, hs]
    refine hE _ _ _ (by simp) ?_
    simp only [go_sem, seval, hs]
    refine hQ _ _ _ ?_; (first | rw [k_body_ret] | rw [k_body_normal]); simp only [resVals, resVal, ev, Env.get_put, ↓reduceIte, Nat.reduceEqDiff, Option.bind_some, Option.map_some, reduceCtorEq, ldv_true, ldv_false, lloadV_agg, partL, List.toList_toArray, cellsOf_set, cellsOf_new, rd_set, rd_new, List.length_cons, List.length_nil, Nat.reduceAdd, Nat.reduceLeDiff, Nat.le_refl, List.take_succ_cons, List.take_zero, List.drop_zero, Nat.add_eq_left, Nat.left_eq_add, List.getElem?_cons_zero, List.getElem?_cons_succ, aN84, hs]; rw [retQ_some]; simp only [oneOr]
    exact ⟨rfl, false, rfl, iff_of_false (by simp) (hno fun hp => by have := hc.2 hp; cases this)⟩
  · simp only [go_sem, seval, hs, hw1]
    refine hN _ _ ⟨rfl, j + 1, by omega, by omega, ?_, sh_succ hsh (fun e => by omega) fun _ => hc.1 rfl⟩ ?_
    · simp only [go_sem, seval, slots_cons, slots_nil, Int.natCast_add, Int.natCast_succ, Int.cast_ofNat_Int, hs]
    · simp only [go_sem, seval, hs]
      simp [RowKit.intOf]
      omega

set_option maxHeartbeats 2000000 in
theorem formed52 (x : Value) (l : List Nd) (S : St) (h : Ns S x l) (hok : ∀ x ∈ l, x.Ok) (hn : l.length ≤ 1000000) : ACalls Try.prog 52 [x] S (BoolPost (TForm l) S) := by
  refine ACalls.run hmix Try.func52 cN52 kN52 rfl fun hL Q hQ => ?_
  simp only [go_sem, seval, aN52]
  refine cK_of (shaped84 x l S h hok hn) ?_
  rintro r0 S hS hL' ⟨rfl, c, rfl, hc⟩
  cases c
  · simp only [go_sem, seval]
    refine hQ _ _ _ ?_; (first | rw [k_body_ret] | rw [k_body_normal]); simp only [resVals, resVal, ev, Env.get_put, ↓reduceIte, Nat.reduceEqDiff, Option.bind_some, Option.map_some, reduceCtorEq, ldv_true, ldv_false, lloadV_agg, partL, List.toList_toArray, cellsOf_set, cellsOf_new, rd_set, rd_new, List.length_cons, List.length_nil, Nat.reduceAdd, Nat.reduceLeDiff, Nat.le_refl, List.take_succ_cons, List.take_zero, List.drop_zero, Nat.add_eq_left, Nat.left_eq_add, List.getElem?_cons_zero, List.getElem?_cons_succ, aN52]; rw [retQ_some]; simp only [oneOr]
    exact ⟨⟨false, rfl, iff_of_false (by simp) fun hf => by have := hc.2 hf.1; cases this⟩, Keeps.refl _ _⟩
  have hsp := hc.1 rfl
  obtain ⟨d, o, e, rfl, he, hcs⟩ := h.ne hsp.1
  simp only [go_sem, seval]
  refine lK_of (fun t' S' => KeepsAll S S' ∧ Live S' ∧ ∃ j : Nat, j ≤ l.length ∧ Slots t' [(0, .slice (some ⟨d, o, none⟩) l.length e), (8, .int .i64 l.length), (9, .int .i64 j)] ∧ ∀ (k : Nat) (h1 : k < l.length), k < j → SFormed l[k].s) (fun t' _ => (l.length - RowKit.intOf (t' 9)).toNat) ?_ ?_
  · refine ⟨Keeps.refl _ _, hL, 0, by omega, ?_, fun k _ hk => by omega⟩
    simp only [go_sem, seval, slots_cons, slots_nil, Int.natCast_add, Int.natCast_succ, Int.cast_ofNat_Int]
  rintro t1 S1 Q1 ⟨hK1, hL1, j, hj, hs, hfm⟩ _ hN hE
  simp only [slots_cons, slots_nil] at hs
  have h1 : Ns S1 (.slice (some ⟨d, o, none⟩) l.length e) l := Sl.keeps hL h hK1 fun _ _ => trivial
  by_cases hjn : j = l.length
  · subst hjn
    simp only [go_sem, seval, hs, Int.lt_irrefl]
    refine hE _ _ _ (by simp) ?_
    simp only [go_sem, seval, hs]
    refine hQ _ _ _ ?_; (first | rw [k_body_ret] | rw [k_body_normal]); simp only [resVals, resVal, ev, Env.get_put, ↓reduceIte, Nat.reduceEqDiff, Option.bind_some, Option.map_some, reduceCtorEq, ldv_true, ldv_false, lloadV_agg, partL, List.toList_toArray, cellsOf_set, cellsOf_new, rd_set, rd_new, List.length_cons, List.length_nil, Nat.reduceAdd, Nat.reduceLeDiff, Nat.le_refl, List.take_succ_cons, List.take_zero, List.drop_zero, Nat.add_eq_left, Nat.left_eq_add, List.getElem?_cons_zero, List.getElem?_cons_succ, aN52, hs]; rw [retQ_some]; simp only [oneOr]
    refine ⟨⟨true, rfl, iff_of_true rfl ⟨hsp, fun y hy => ?_⟩⟩, hK1⟩
    obtain ⟨k, g1, rfl⟩ := List.getElem_of_mem hy
    exact hfm k g1 g1
  have hjl : j < l.length := by omega
  have hjl' : (j : Int) < l.length := by omega
  have hj0 : (0 : Int) ≤ j := by omega
  have hj1 : IntKind.i64.wrap ((j : Int) + 1) = j + 1 := wrap64_id (by omega) (by omega)
  obtain ⟨d1, o1, f1, hv1, _, hcs1⟩ := h1.ne (by omega)
  cases hv1
  have hst := style_at hok hcs1 j hjl
  simp only [go_sem, seval, hs, hjl', hj0, Int.toNat_natCast, hst]
  refine cK_of (refFormed l[j].s (hok _ (List.getElem_mem hjl)).s S1) ?_
  rintro r7 S7 hS7 hL7 ⟨⟨c, rfl, hc⟩, hK7⟩
  cases c
  · simp only [go_sem, seval, hs]
    refine hE _ _ _ (by simp) ?_
    simp only [go_sem, seval, hs]
    refine hQ _ _ _ ?_; (first | rw [k_body_ret] | rw [k_body_normal]); simp only [resVals, resVal, ev, Env.get_put, ↓reduceIte, Nat.reduceEqDiff, Option.bind_some, Option.map_some, reduceCtorEq, ldv_true, ldv_false, lloadV_agg, partL, List.toList_toArray, cellsOf_set, cellsOf_new, rd_set, rd_new, List.length_cons, List.length_nil, Nat.reduceAdd, Nat.reduceLeDiff, Nat.le_refl, List.take_succ_cons, List.take_zero, List.drop_zero, Nat.add_eq_left, Nat.left_eq_add, List.getElem?_cons_zero, List.getElem?_cons_succ, aN52, hs]; rw [retQ_some]; simp only [oneOr]
    exact ⟨⟨false, rfl, iff_of_false (by simp) fun hf => by have := hc.2 (hf.2 _ (List.getElem_mem hjl)); cases this⟩, hK1.trans hK7 fun _ _ _ => trivial⟩
  · simp only [go_sem, seval, hs, hj1]
    refine hN _ _ ⟨hK1.trans hK7 fun _ _ _ => trivial, hL7, j + 1, by omega, ?_, fun k g1 g2 => ?_⟩ ?_
    · simp only [go_sem, seval, slots_cons, slots_nil, Int.natCast_add, Int.natCast_succ, Int.cast_ofNat_Int, hs]
    · by_cases hkj : k = j
      · subst hkj; exact hc.1 rfl
      · exact hfm k g1 (by omega)
    · simp only [go_sem, seval, hs]
      simp [RowKit.intOf]
      omega
end Go.Proofs.Ytbgnaeagdneikaa
-- pp: new
-- pp: short
namespace Go.Proofs.Ytbgnaeagdneikaa
open Go Go.Proofs.Ytbgnaeagdneikaa.Abs
set_option linter.unusedSimpArgs false
set_option linter.unusedVariables false

def intsV (xs : List Int) : List Value := xs.map fun a => .int .i64 a
theorem ints_at {S : St} {d o : Nat} {xs : List Int} (h : cellsOf S d o (xs.length * 1) = some (intsV xs)) (j : Nat) (hj : j < xs.length) : rd S d (o + j * 1) = some (.int .i64 xs[j]) := by
  rw [rd_of_cells h (by omega)]
  simp [intsV, hj]

set_option maxHeartbeats 2000000 in
theorem max95 (x : Value) (xs : List Int) (S : St) (h : Sl S 1 x xs.length (intsV xs)) (h0 : 0 < xs.length) (hn : xs.length ≤ 1000000) :
    ACalls Try.prog 95 [x] S fun r S' => S' = S ∧ ∃ m, r = .int .i64 m ∧ m ∈ xs ∧ ∀ y ∈ xs, y ≤ m := by
  refine ACalls.run hmix Try.func95 cN95 kN95 rfl fun hL Q hQ => ?_
  obtain ⟨d, o, e, rfl, he, hcs⟩ := h.ne h0
  have hl0 : ¬ ((xs.length : Int) < 1) := by omega
  have hl1 : (0 : Int) < xs.length := by omega
  have hr0 : rd S d o = some (.int .i64 xs[0]) := by simpa using ints_at hcs 0 h0
  simp only [go_sem, seval, aN95, hl0, hl1, Int.le_refl, Int.toNat_zero, hr0]
  refine lK_of (fun t' S' => S' = S ∧ ∃ (j : Nat) (m : Int), 1 ≤ j ∧ j ≤ xs.length ∧ Slots t' [(0, .slice (some ⟨d, o, none⟩) xs.length e), (3, .int .i64 m), (4, .int .i64 j)] ∧ m ∈ xs ∧ ∀ (k : Nat) (h1 : k < xs.length), k < j → xs[k] ≤ m) (fun t' _ => (xs.length - RowKit.intOf (t' 4)).toNat) ?_ ?_
  · refine ⟨rfl, 1, xs[0], by omega, by omega, ?_, List.getElem_mem h0, fun k h1 hk => ?_⟩
    · simp only [go_sem, seval, slots_cons, slots_nil, Int.natCast_add, Int.natCast_succ, Int.cast_ofNat_Int, hl0]
    · obtain rfl : k = 0 := by omega
      omega
  rintro t1 S1 Q1 ⟨rfl, j, m, hj1, hj, hs, hmi, hle⟩ _ hN hE
  simp only [slots_cons, slots_nil] at hs
  by_cases hjn : j = xs.length
  · subst hjn
    simp only [go_sem, seval, hs, Int.lt_irrefl]
    refine hE _ _ _ (by simp) ?_
    simp only [go_sem, seval, hs]
    refine hQ _ _ _ ?_; (first | rw [k_body_ret] | rw [k_body_normal]); simp only [resVals, resVal, ev, Env.get_put, ↓reduceIte, Nat.reduceEqDiff, Option.bind_some, Option.map_some, reduceCtorEq, ldv_true, ldv_false, lloadV_agg, partL, List.toList_toArray, cellsOf_set, cellsOf_new, rd_set, rd_new, List.length_cons, List.length_nil, Nat.reduceAdd, Nat.reduceLeDiff, Nat.le_refl, List.take_succ_cons, List.take_zero, List.drop_zero, Nat.add_eq_left, Nat.left_eq_add, List.getElem?_cons_zero, List.getElem?_cons_succ, aN95, hs]; rw [retQ_some]; simp only [oneOr]
    refine ⟨trivial, m, rfl, hmi, fun y hy => ?_⟩
    obtain ⟨k, g1, rfl⟩ := List.getElem_of_mem hy
    exact hle k g1 g1
  have hjl : j < xs.length := by omega
  have hjl' : (j : Int) < xs.length := by omega
  have hj0 : (0 : Int) ≤ j := by omega
  have hw1 : IntKind.i64.wrap ((j : Int) + 1) = j + 1 := wrap64_id (by omega) (by omega)
  have hrj := ints_at hcs j hjl
  simp only [go_sem, seval, hs, hjl', hj0, Int.toNat_natCast, hrj, hw1]
  refine hN _ _ ⟨rfl, j + 1, if xs[j] > m then xs[j] else m, by omega, by omega, ?_, ?_, fun k g1 g2 => ?_⟩ ?_
  · simp only [go_sem, seval, slots_cons, slots_nil, Int.natCast_add, Int.natCast_succ, Int.cast_ofNat_Int, hs]
  · split
    · exact List.getElem_mem hjl
    · exact hmi
  · have hm1 : m ≤ (if xs[j] > m then xs[j] else m) := by split <;> omega
    by_cases hkj : k = j
    · subst hkj; split <;> omega
    · have := hle k g1 (by omega); omega
  · simp only [go_sem, seval, hs]
    simp [RowKit.intOf]
    omega

def depV (l : List Nd) (j : Nat) : List Int := (List.range l.length).map fun k => if k < j then (dep l k : Int) else 0
theorem depV_length (l : List Nd) (j : Nat) : (depV l j).length = l.length := by simp [depV]
theorem depV_zero (l : List Nd) : intsV (depV l 0) = List.replicate l.length (.int .i64 0) := by
  apply List.ext_getElem
  · simp [intsV, depV]
  · intro k h1 h2
    simp [intsV, depV]
theorem depV_succ (l : List Nd) (j : Nat) (hj : j < l.length) : (intsV (depV l j)).set j (.int .i64 (dep l j)) = intsV (depV l (j + 1)) := by
  apply List.ext_getElem
  · simp [intsV, depV]
  · intro k h1 h2
    rw [List.getElem_set]
    simp only [intsV, depV, List.getElem_map, List.getElem_range]
    by_cases h : j = k
    · subst h; rw [if_pos rfl, if_pos (by omega)]
    · rw [if_neg h]
      by_cases h' : k < j
      · rw [if_pos h', if_pos (by omega)]
      · rw [if_neg h', if_neg (by omega)]
theorem depV_get (l : List Nd) (j k : Nat) (hk : k < j) (hj : j ≤ l.length) : (intsV (depV l j))[k]? = some (.int .i64 (dep l k)) := by
  simp only [intsV, depV, List.getElem?_map]
  rw [List.getElem?_range (by omega)]
  simp [hk]

set_option maxHeartbeats 2000000 in
theorem deepest85 (x : Value) (l : List Nd) (S : St) (h : Ns S x l) (hok : ∀ x ∈ l, x.Ok) (hn : l.length ≤ 1000000) (hf : Shaped l) : ACalls Try.prog 85 [x] S fun r S' => KeepsAll S S' ∧ ∃ m, r = .int .i64 m ∧ (256 < m ↔ ∃ k, k < l.length ∧ 256 < dep l k) := by
  refine ACalls.run hmix Try.func85 cN85 kN85 rfl fun hL Q hQ => ?_
  obtain ⟨d, o, e, rfl, he, hcs⟩ := h.ne hf.1
  have h8 : (l.length : Int) * 8 ≤ 1099511627776 := by omega
  have hl0 : (0 : Int) ≤ l.length := by omega
  simp only [go_sem, seval, aN85, hl0, Int.le_refl, h8, Int.toNat_natCast, toList_madeCells_one, Nat.mul_one]
  refine lK_of (fun t' S' => KeepsAll S S' ∧ Live S' ∧ ∃ j : Nat, j ≤ l.length ∧ Slots t' [(3, .slice (some ⟨S.next, 0, none⟩) l.length 1), (9, .slice (some ⟨d, o, none⟩) l.length e), (10, .int .i64 l.length), (11, .int .i64 j)] ∧ S'.blk S.next = some ⟨false, intsV (depV l j)⟩) (fun t' _ => (l.length - RowKit.intOf (t' 11)).toNat) ?_ ?_
  · refine ⟨Keeps.of_new S _ _, hL.new _, 0, by omega, ?_, ?_⟩
    · simp only [go_sem, seval, slots_cons, slots_nil, Int.natCast_add, Int.natCast_succ, Int.cast_ofNat_Int, hl0]
    · rw [depV_zero]
      simp [St.blk_new]
  rintro t1 S1 Q1 ⟨hK1, hL1, j, hj, hs, hb⟩ _ hN hE
  simp only [slots_cons, slots_nil] at hs
  by_cases hjn : j = l.length
  · subst hjn
    simp only [go_sem, seval, hs, Int.lt_irrefl]
    refine hE _ _ _ (by simp) ?_
    simp only [go_sem, seval, hs]
    have hsl : Sl S1 1 (.slice (some ⟨S.next, 0, none⟩) l.length 1) (depV l l.length).length (intsV (depV l l.length)) := by
      rw [depV_length]
      exact .inr ⟨_, 0, 1, rfl, .inr rfl, by rw [cellsOf_of_blk hb, if_pos (by simp [intsV, depV_length])]; simp [intsV, depV_length]; rw [List.take_of_length_le (by simp [depV_length])]⟩
    refine cK_of (max95 _ (depV l l.length) S1 hsl (by rw [depV_length]; exact hf.1) (by rw [depV_length]; exact hn)) ?_
    rintro r2 S2 hS2 hL2 ⟨rfl, m, rfl, hmi, hle⟩
    simp only [go_sem, seval, hs]
    refine hQ _ _ _ ?_; (first | rw [k_body_ret] | rw [k_body_normal]); simp only [resVals, resVal, ev, Env.get_put, ↓reduceIte, Nat.reduceEqDiff, Option.bind_some, Option.map_some, reduceCtorEq, ldv_true, ldv_false, lloadV_agg, partL, List.toList_toArray, cellsOf_set, cellsOf_new, rd_set, rd_new, List.length_cons, List.length_nil, Nat.reduceAdd, Nat.reduceLeDiff, Nat.le_refl, List.take_succ_cons, List.take_zero, List.drop_zero, Nat.add_eq_left, Nat.left_eq_add, List.getElem?_cons_zero, List.getElem?_cons_succ, aN85, hs]; rw [retQ_some]; simp only [oneOr]
    refine ⟨hK1, m, rfl, ?_⟩
    unfold depV at hmi hle
    simp only [List.mem_map, List.mem_range] at hmi hle
    constructor
    · intro hm
      obtain ⟨k, hk, rfl⟩ := hmi
      rw [if_pos hk] at hm
      exact ⟨k, hk, by omega⟩
    · rintro ⟨k, hk, hd⟩
      have := hle _ ⟨k, hk, rfl⟩
      rw [if_pos hk] at this
      omega
  have hjl : j < l.length := by omega
  have hjl' : (j : Int) < l.length := by omega
  have hj0 : (0 : Int) ≤ j := by omega
  have hw1 : IntKind.i64.wrap ((j : Int) + 1) = j + 1 := wrap64_id (by omega) (by omega)
  have h1 : Ns S1 (.slice (some ⟨d, o, none⟩) l.length e) l := Sl.keeps hL h hK1 fun _ _ => trivial
  obtain ⟨d1, o1, f1, hv1, _, hcs1⟩ := h1.ne (by omega)
  cases hv1
  have hnd := nodes_at hok hcs1 j hjl
  have hpj := par_at hok hcs1 j hjl
  have hlen : l[j].cells.length = 49 := Nd.cells_length (hok _ (List.getElem_mem hjl))
  have hc48 : l[j].cells[48]? = some (.int .i64 (par l j)) := by
    rw [par_get hjl]
    unfold Nd.cells
    rw [List.getElem?_append_right (by rw [(hok _ (List.getElem_mem hjl)).s.len]; omega), (hok _ (List.getElem_mem hjl)).s.len]
    rfl
  have hdl : (intsV (depV l j)).length = l.length := by simp [intsV, depV_length]
  have hj1' : j + 1 ≤ l.length := by omega
  have hnS1 : S.next < S1.next := hL1 _ _ hb
  by_cases hj1 : 0 < j
  rotate_left
  · have hgt : ¬ ((0 : Int) < j) := by omega
    have hj1' : j + 1 ≤ l.length := by omega
    simp only [go_sem, seval, hs, hjl', hj0, Int.toNat_natCast, hnd, hlen, hb, hdl, hgt, Nat.mul_one, hj1', hw1]
    have hj00 : j = 0 := by omega
    have hd0 : (dep l j : Int) = 1 := by
      subst hj00
      have := (hf.2 0 hf.1).1 rfl
      unfold dep
      rw [chain_pos hf.2.tr (by omega) (by omega), show par l ((0 : Nat) : Int).toNat = -1 from this, chain_neg _ (by omega)]
      rfl
    refine hN _ _ ⟨hK1.set (fun i hi _ => by omega) _, hL1.set _ _ hnS1, j + 1, by omega, ?_, ?_⟩ ?_
    · simp only [go_sem, seval, slots_cons, slots_nil, Int.natCast_add, Int.natCast_succ, Int.cast_ofNat_Int, hs]
    · rw [St.blk_set, if_pos rfl, ← depV_succ l j hjl, hd0]
    · simp only [go_sem, seval, hs]
      simp [RowKit.intOf]
      omega
  · obtain ⟨q, hq⟩ : ∃ q : Nat, par l j = q := ⟨(par l j).toNat, by have := sh_in (P := par l) (k := j) (fun i hi => hf.2 i (by omega)) hj1 ((hf.2 j hjl).2 hj1); omega⟩
    have hqj : q < j := by have := hf.2.tr j hjl; omega
    have hgt : (0 : Int) < j := by omega
    have hq0 : (0 : Int) ≤ q := by omega
    have hql : (q : Int) < l.length := by omega
    rw [hq] at hc48
    have hdq : dep l j = dep l q + 1 := by
      unfold dep
      rw [chain_pos hf.2.tr (by omega) (by omega), Int.toNat_natCast, hq]
      rfl
    have hrd : ((intsV (depV l j)).set j (.int .i64 1))[q]? = some (.int .i64 (dep l q)) := by
      rw [List.getElem?_set_ne (by omega), depV_get l j q hqj (by omega)]
    have hcl := chain_len hf.2.tr l.length (q : Int) (by omega) (by omega) (by omega)
    have hw2 : IntKind.i64.wrap ((dep l q : Int) + 1) = dep l q + 1 := wrap64_id (by unfold dep; omega) (by unfold dep; omega)
    simp only [go_sem, seval, hs, hjl', hj0, Int.toNat_natCast, hnd, hlen, hb, hdl, hgt, Nat.mul_one, hj1', hw1, hc48, hq0, hql, hrd, hw2, List.length_set, ↓ow_all]
    refine hN _ _ ⟨(hK1.set (fun i hi _ => by omega) _).set (fun i hi _ => by omega) _, (hL1.set _ _ hnS1).set _ _ hnS1, j + 1, by omega, ?_, ?_⟩ ?_
    · simp only [go_sem, seval, slots_cons, slots_nil, Int.natCast_add, Int.natCast_succ, Int.cast_ofNat_Int, hs]
    · rw [St.blk_set, if_pos rfl, ← depV_succ l j hjl, hdq, List.set_set]
      rfl
    · simp only [go_sem, seval, hs]
      simp [RowKit.intOf]
      omega
end Go.Proofs.Ytbgnaeagdneikaa
-- pp: new
-- pp: short
namespace Go.Proofs.Ytbgnaeagdneikaa
open Go Go.Proofs.Ytbgnaeagdneikaa.Abs
set_option linter.unusedSimpArgs false
set_option linter.unusedVariables false

theorem tlim_iff (l : List Nd) : TLim l ↔ 65535 < l.length ∨ (∃ k, k < l.length ∧ 256 < dep l k) ∨ ¬ ∀ y ∈ l, SWithin y.s := by
  unfold TLim
  constructor
  · rintro (⟨k, hk, h | h⟩ | h)
    · refine .inr (.inr fun hh => h ?_)
      rw [List.getElem?_eq_getElem hk]
      exact hh _ (List.getElem_mem hk)
    · exact .inr (.inl ⟨k, hk, h⟩)
    · exact .inl h
  · rintro (h | ⟨k, hk, h⟩ | h)
    · exact .inr h
    · exact .inl ⟨k, hk, .inr h⟩
    · refine .inl (Classical.byContradiction fun hh => h fun y hy => ?_)
      obtain ⟨k, hk, rfl⟩ := List.getElem_of_mem hy
      exact Classical.byContradiction fun hw => hh ⟨k, hk, .inl (by rw [List.getElem?_eq_getElem hk]; exact hw)⟩

theorem enters87 : enters Try.prog 87 = true := by kernel_rfl
theorem not87 (x : Nd) (hx : x.Ok) (S : St) : ACalls Try.prog 87 [.agg x.cells.toArray] S (BoolPost (¬ SWithin x.s) S) := by
  refine ACalls.run hmix Try.func87 cN87 kN87 rfl fun hL Q hQ => ?_
  have hl := Nd.cells_length hx
  have ht : x.cells.take 48 = x.s.cells := by unfold Nd.cells; exact List.take_left' hx.s.len
  simp only [go_sem, seval, aN87, hl, ht]
  refine cK_of (within22 x.s hx.s S) ?_
  rintro v S' hS hL' ⟨⟨c, rfl, hc⟩, hK⟩
  simp only [go_sem, seval]
  refine hQ _ _ _ ?_; (first | rw [k_body_ret] | rw [k_body_normal]); simp only [resVals, resVal, ev, Env.get_put, ↓reduceIte, Nat.reduceEqDiff, Option.bind_some, Option.map_some, reduceCtorEq, ldv_true, ldv_false, lloadV_agg, partL, List.toList_toArray, cellsOf_set, cellsOf_new, rd_set, rd_new, List.length_cons, List.length_nil, Nat.reduceAdd, Nat.reduceLeDiff, Nat.le_refl, List.take_succ_cons, List.take_zero, List.drop_zero, Nat.add_eq_left, Nat.left_eq_add, List.getElem?_cons_zero, List.getElem?_cons_succ, aN87]; rw [retQ_some]; simp only [oneOr]
  exact ⟨⟨!c, rfl, by cases c <;> simp_all⟩, hK⟩

def fn87 : Value := .func (.func 87) #[] #[]
set_option maxHeartbeats 1000000 in
theorem index96 (x : Value) (l : List Nd) (S : St) (h : Ns S x l) (hok : ∀ x ∈ l, x.Ok) (hn : l.length ≤ 1000000) :
    ACalls Try.prog 96 [x, fn87] S fun r S' => KeepsAll S S' ∧ ∃ k : Int, r = .int .i64 k ∧ (k ≥ 0 ↔ ¬ ∀ y ∈ l, SWithin y.s) := by
  refine ACalls.run hmix Try.func96 cN96 kN96 rfl fun hL Q hQ => ?_
  unfold fn87
  obtain ⟨a, e, rfl⟩ := Sl.slice h
  simp only [go_sem, seval, aN96]
  refine lK_of (fun t' S' => KeepsAll S S' ∧ Live S' ∧ ∃ j : Nat, j ≤ l.length ∧ Slots t' [(0, .slice a l.length e), (1, .func (.func 87) #[] #[]), (7, .int .i64 l.length), (8, .int .i64 j)] ∧ ∀ y ∈ l.take j, SWithin y.s) (fun t' _ => (l.length - RowKit.intOf (t' 8)).toNat) ?_ ?_
  · refine ⟨Keeps.refl _ _, hL, 0, by omega, ?_, by simp⟩
    simp only [go_sem, seval, slots_cons, slots_nil, Int.natCast_add, Int.natCast_succ, Int.cast_ofNat_Int]
  rintro t1 S1 Q1 ⟨hK1, hL1, j, hj, h1, hr⟩ _ hN hE
  simp only [slots_cons, slots_nil] at h1
  have hs1 : Ns S1 (.slice a l.length e) l := Sl.keeps hL h hK1 fun _ _ => trivial
  by_cases hjn : j = l.length
  · subst hjn
    simp only [go_sem, seval, h1, Int.lt_irrefl]
    refine hE _ _ _ (by simp) ?_
    simp only [go_sem, seval, h1]
    refine hQ _ _ _ ?_; (first | rw [k_body_ret] | rw [k_body_normal]); simp only [resVals, resVal, ev, Env.get_put, ↓reduceIte, Nat.reduceEqDiff, Option.bind_some, Option.map_some, reduceCtorEq, ldv_true, ldv_false, lloadV_agg, partL, List.toList_toArray, cellsOf_set, cellsOf_new, rd_set, rd_new, List.length_cons, List.length_nil, Nat.reduceAdd, Nat.reduceLeDiff, Nat.le_refl, List.take_succ_cons, List.take_zero, List.drop_zero, Nat.add_eq_left, Nat.left_eq_add, List.getElem?_cons_zero, List.getElem?_cons_succ, aN96, h1]; rw [retQ_some]; simp only [oneOr]
    rw [List.take_of_length_le (Nat.le_refl _)] at hr
    exact ⟨hK1, -1, rfl, by simp; exact hr⟩
  · obtain ⟨d, o, e', hv, he, hc⟩ := hs1.ne (by omega)
    cases hv
    have hlt : (j : Int) < l.length := by omega
    have hj0 : (0 : Int) ≤ j := by omega
    have hj1 : IntKind.i64.wrap ((j : Int) + 1) = j + 1 := wrap64_id (by omega) (by omega)
    have hjl : j < l.length := by omega
    have hcj := nodes_at hok hc j hjl
    simp only [go_sem, seval, h1, hlt, hj0, Int.toNat_natCast, hcj, enters87]
    refine cK_of (not87 l[j] (hok _ (List.getElem_mem hjl)) _) ?_
    rintro v S' hS hL' ⟨⟨c, rfl, hcc⟩, hK'⟩
    cases c
    · simp only [go_sem, seval, h1, hj1]
      refine hN _ _ ⟨hK1.trans hK' fun _ _ _ => trivial, hL', j + 1, by omega, ?_, ?_⟩ ?_
      · simp only [go_sem, seval, slots_cons, slots_nil, Int.natCast_add, Int.natCast_succ, Int.cast_ofNat_Int, h1]
      · rw [List.take_succ_eq_append_getElem hjl]
        intro y hy
        rcases List.mem_append.1 hy with hy | hy
        · exact hr y hy
        · simp at hy
          subst hy
          exact Classical.byContradiction fun hh => by have := hcc.2 hh; cases this
      · simp only [go_sem, seval, h1]
        simp [RowKit.intOf]
        omega
    · simp only [go_sem, seval, h1]
      refine hE _ _ _ (by simp) ?_
      simp only [go_sem, seval]
      refine hQ _ _ _ ?_; (first | rw [k_body_ret] | rw [k_body_normal]); simp only [resVals, resVal, ev, Env.get_put, ↓reduceIte, Nat.reduceEqDiff, Option.bind_some, Option.map_some, reduceCtorEq, ldv_true, ldv_false, lloadV_agg, partL, List.toList_toArray, cellsOf_set, cellsOf_new, rd_set, rd_new, List.length_cons, List.length_nil, Nat.reduceAdd, Nat.reduceLeDiff, Nat.le_refl, List.take_succ_cons, List.take_zero, List.drop_zero, Nat.add_eq_left, Nat.left_eq_add, List.getElem?_cons_zero, List.getElem?_cons_succ, aN96, h1]; rw [retQ_some]; simp only [oneOr]
      refine ⟨hK1.trans hK' fun _ _ _ => trivial, j, rfl, ?_⟩
      exact ⟨fun _ hall => (hcc.1 rfl) (hall _ (List.getElem_mem _)), fun _ => by omega⟩

theorem has86 (x : Value) (l : List Nd) (S : St) (h : Ns S x l) (hok : ∀ x ∈ l, x.Ok) (hn : l.length ≤ 1000000) : ACalls Try.prog 86 [x, fn87] S (BoolPost (¬ ∀ y ∈ l, SWithin y.s) S) := by
  refine ACalls.run hmix Try.func86 cN86 kN86 rfl fun hL Q hQ => ?_
  simp only [go_sem, seval, aN86]
  refine cK_of (index96 x l S h hok hn) ?_
  rintro r S' hS hL' ⟨hK, k, rfl, hk⟩
  simp only [go_sem, seval]
  refine hQ _ _ _ ?_; (first | rw [k_body_ret] | rw [k_body_normal]); simp only [resVals, resVal, ev, Env.get_put, ↓reduceIte, Nat.reduceEqDiff, Option.bind_some, Option.map_some, reduceCtorEq, ldv_true, ldv_false, lloadV_agg, partL, List.toList_toArray, cellsOf_set, cellsOf_new, rd_set, rd_new, List.length_cons, List.length_nil, Nat.reduceAdd, Nat.reduceLeDiff, Nat.le_refl, List.take_succ_cons, List.take_zero, List.drop_zero, Nat.add_eq_left, Nat.left_eq_add, List.getElem?_cons_zero, List.getElem?_cons_succ, aN86]; rw [retQ_some]; simp only [oneOr]
  exact ⟨⟨_, rfl, by rw [decide_eq_true_eq]; exact hk⟩, hK⟩

theorem tchk_form {l : List Nd} (h : ¬ TForm l) : tchk l = 2 := by unfold tchk; rw [if_pos h]
theorem tchk_lim {l : List Nd} (h : TForm l) (k : TLim l) : tchk l = 3 := by unfold tchk; rw [if_neg (fun hh => hh h), if_pos k]
theorem tchk_ok {l : List Nd} (h : TForm l) (k : ¬ TLim l) : tchk l = 0 := by unfold tchk; rw [if_neg (fun hh => hh h), if_neg k]

set_option maxHeartbeats 1000000 in
theorem check53 (x : Value) (l : List Nd) (S : St) (h : Ns S x l) (hok : ∀ x ∈ l, x.Ok) (hn : l.length ≤ 1000000) : ACalls Try.prog 53 [x] S fun r S' => KeepsAll S S' ∧ r = .int .i64 (tchk l) := by
  refine ACalls.run hmix Try.func53 cN53 kN53 rfl fun hL Q hQ => ?_
  simp only [go_sem, seval, aN53]
  refine cK_of (formed51 x l S h hok hn) ?_
  rintro r1 S1 hS1 hL1 ⟨⟨c, rfl, hc⟩, hK1⟩
  cases c
  · simp only [go_sem, seval]
    refine hQ _ _ _ ?_; (first | rw [k_body_ret] | rw [k_body_normal]); simp only [resVals, resVal, ev, Env.get_put, ↓reduceIte, Nat.reduceEqDiff, Option.bind_some, Option.map_some, reduceCtorEq, ldv_true, ldv_false, lloadV_agg, partL, List.toList_toArray, cellsOf_set, cellsOf_new, rd_set, rd_new, List.length_cons, List.length_nil, Nat.reduceAdd, Nat.reduceLeDiff, Nat.le_refl, List.take_succ_cons, List.take_zero, List.drop_zero, Nat.add_eq_left, Nat.left_eq_add, List.getElem?_cons_zero, List.getElem?_cons_succ, aN53]; rw [retQ_some]; simp only [oneOr]
    exact ⟨hK1, by rw [tchk_form fun hf => by have := hc.2 hf; cases this]⟩
  have hf := hc.1 rfl
  have h1 : Ns S1 x l := Sl.keeps hL h hK1 fun _ _ => trivial
  obtain ⟨a, e, rfl⟩ := Sl.slice h1
  by_cases g1 : (65535 : Int) < l.length
  · simp only [go_sem, seval, g1]
    refine hQ _ _ _ ?_; (first | rw [k_body_ret] | rw [k_body_normal]); simp only [resVals, resVal, ev, Env.get_put, ↓reduceIte, Nat.reduceEqDiff, Option.bind_some, Option.map_some, reduceCtorEq, ldv_true, ldv_false, lloadV_agg, partL, List.toList_toArray, cellsOf_set, cellsOf_new, rd_set, rd_new, List.length_cons, List.length_nil, Nat.reduceAdd, Nat.reduceLeDiff, Nat.le_refl, List.take_succ_cons, List.take_zero, List.drop_zero, Nat.add_eq_left, Nat.left_eq_add, List.getElem?_cons_zero, List.getElem?_cons_succ, aN53]; rw [retQ_some]; simp only [oneOr]
    exact ⟨hK1, by rw [tchk_lim hf ((tlim_iff l).2 (.inl (by omega)))]⟩
  simp only [go_sem, seval, g1]
  refine cK_of (deepest85 _ l S1 h1 hok hn hf.1) ?_
  rintro r2 S2 hS2 hL2 ⟨hK2, m, rfl, hm⟩
  have hK12 := hK1.trans hK2 fun _ _ _ => trivial
  by_cases g2 : 256 < m
  · simp only [go_sem, seval, g1, g2]
    refine hQ _ _ _ ?_; (first | rw [k_body_ret] | rw [k_body_normal]); simp only [resVals, resVal, ev, Env.get_put, ↓reduceIte, Nat.reduceEqDiff, Option.bind_some, Option.map_some, reduceCtorEq, ldv_true, ldv_false, lloadV_agg, partL, List.toList_toArray, cellsOf_set, cellsOf_new, rd_set, rd_new, List.length_cons, List.length_nil, Nat.reduceAdd, Nat.reduceLeDiff, Nat.le_refl, List.take_succ_cons, List.take_zero, List.drop_zero, Nat.add_eq_left, Nat.left_eq_add, List.getElem?_cons_zero, List.getElem?_cons_succ, aN53]; rw [retQ_some]; simp only [oneOr]
    exact ⟨hK12, by rw [tchk_lim hf ((tlim_iff l).2 (.inr (.inl (hm.1 g2))))]⟩
  have h2 : Ns S2 (.slice a l.length e) l := Sl.keeps hL1 h1 hK2 fun _ _ => trivial
  simp only [go_sem, seval, g1, g2]
  refine cK_of (has86 _ l S2 h2 hok hn) ?_
  rintro r3 S3 hS3 hL3 ⟨⟨c, rfl, hc⟩, hK3⟩
  have hK13 := hK12.trans hK3 fun _ _ _ => trivial
  cases c
  · simp only [go_sem, seval]
    refine hQ _ _ _ ?_; (first | rw [k_body_ret] | rw [k_body_normal]); simp only [resVals, resVal, ev, Env.get_put, ↓reduceIte, Nat.reduceEqDiff, Option.bind_some, Option.map_some, reduceCtorEq, ldv_true, ldv_false, lloadV_agg, partL, List.toList_toArray, cellsOf_set, cellsOf_new, rd_set, rd_new, List.length_cons, List.length_nil, Nat.reduceAdd, Nat.reduceLeDiff, Nat.le_refl, List.take_succ_cons, List.take_zero, List.drop_zero, Nat.add_eq_left, Nat.left_eq_add, List.getElem?_cons_zero, List.getElem?_cons_succ, aN53]; rw [retQ_some]; simp only [oneOr]
    refine ⟨hK13, ?_⟩
    rw [tchk_ok hf]
    intro hh
    rcases (tlim_iff l).1 hh with hh | hh | hh
    · omega
    · exact g2 (hm.2 hh)
    · have := hc.2 hh; cases this
  · simp only [go_sem, seval]
    refine hQ _ _ _ ?_; (first | rw [k_body_ret] | rw [k_body_normal]); simp only [resVals, resVal, ev, Env.get_put, ↓reduceIte, Nat.reduceEqDiff, Option.bind_some, Option.map_some, reduceCtorEq, ldv_true, ldv_false, lloadV_agg, partL, List.toList_toArray, cellsOf_set, cellsOf_new, rd_set, rd_new, List.length_cons, List.length_nil, Nat.reduceAdd, Nat.reduceLeDiff, Nat.le_refl, List.take_succ_cons, List.take_zero, List.drop_zero, Nat.add_eq_left, Nat.left_eq_add, List.getElem?_cons_zero, List.getElem?_cons_succ, aN53]; rw [retQ_some]; simp only [oneOr]
    exact ⟨hK13, by rw [tchk_lim hf ((tlim_iff l).2 (.inr (.inr (hc.1 rfl))))]⟩

set_option maxHeartbeats 2000000 in
theorem check54 (x : Value) (l : List Nd) (S : St) (h : Ns S x l) (hok : ∀ x ∈ l, x.Ok) (hn : l.length ≤ 1000000) : ACalls Try.prog 54 [x] S fun r S' => KeepsAll S S' ∧ r = .int .i64 (tchk l) := by
  refine ACalls.run hmix Try.func54 cN54 kN54 rfl fun hL Q hQ => ?_
  simp only [go_sem, seval, aN54]
  refine cK_of (formed52 x l S h hok hn) ?_
  rintro r1 S1 hS1 hL1 ⟨⟨c, rfl, hc⟩, hK1⟩
  cases c
  · simp only [go_sem, seval]
    refine hQ _ _ _ ?_; (first | rw [k_body_ret] | rw [k_body_normal]); simp only [resVals, resVal, ev, Env.get_put, ↓reduceIte, Nat.reduceEqDiff, Option.bind_some, Option.map_some, reduceCtorEq, ldv_true, ldv_false, lloadV_agg, partL, List.toList_toArray, cellsOf_set, cellsOf_new, rd_set, rd_new, List.length_cons, List.length_nil, Nat.reduceAdd, Nat.reduceLeDiff, Nat.le_refl, List.take_succ_cons, List.take_zero, List.drop_zero, Nat.add_eq_left, Nat.left_eq_add, List.getElem?_cons_zero, List.getElem?_cons_succ, aN54]; rw [retQ_some]; simp only [oneOr]
    exact ⟨hK1, by rw [tchk_form fun hf => by have := hc.2 hf; cases this]⟩
  have hf := hc.1 rfl
  have h1 : Ns S1 x l := Sl.keeps hL h hK1 fun _ _ => trivial
  obtain ⟨a, e, rfl⟩ := Sl.slice h1
  simp only [go_sem, seval]
  refine lK_of (fun t' S' => KeepsAll S S' ∧ Live S' ∧ ∃ j : Nat, j ≤ l.length ∧ Slots t' [(0, .slice a l.length e), (8, .int .i64 l.length), (9, .int .i64 j)] ∧ ∀ (k : Nat) (h1 : k < l.length), k < j → SWithin l[k].s ∧ dep l k ≤ 256) (fun t' _ => (l.length - RowKit.intOf (t' 9)).toNat) ?_ ?_
  · refine ⟨hK1, hL1, 0, by omega, ?_, fun k _ hk => by omega⟩
    simp only [go_sem, seval, slots_cons, slots_nil, Int.natCast_add, Int.natCast_succ, Int.cast_ofNat_Int]
  rintro t2 S2 Q2 ⟨hK2, hL2, j, hj, hs, hr⟩ _ hN hE
  simp only [slots_cons, slots_nil] at hs
  have h2 : Ns S2 (.slice a l.length e) l := Sl.keeps hL h hK2 fun _ _ => trivial
  by_cases hjn : j = l.length
  · subst hjn
    by_cases g1 : (65535 : Int) < l.length
    · simp only [go_sem, seval, hs, Int.lt_irrefl]
      refine hE _ _ _ (by simp) ?_
      simp only [go_sem, seval, hs, g1]
      refine hQ _ _ _ ?_; (first | rw [k_body_ret] | rw [k_body_normal]); simp only [resVals, resVal, ev, Env.get_put, ↓reduceIte, Nat.reduceEqDiff, Option.bind_some, Option.map_some, reduceCtorEq, ldv_true, ldv_false, lloadV_agg, partL, List.toList_toArray, cellsOf_set, cellsOf_new, rd_set, rd_new, List.length_cons, List.length_nil, Nat.reduceAdd, Nat.reduceLeDiff, Nat.le_refl, List.take_succ_cons, List.take_zero, List.drop_zero, Nat.add_eq_left, Nat.left_eq_add, List.getElem?_cons_zero, List.getElem?_cons_succ, aN54, hs]; rw [retQ_some]; simp only [oneOr]
      exact ⟨hK2, by rw [tchk_lim hf ((tlim_iff l).2 (.inl (by omega)))]⟩
    · simp only [go_sem, seval, hs, Int.lt_irrefl]
      refine hE _ _ _ (by simp) ?_
      simp only [go_sem, seval, hs, g1]
      refine hQ _ _ _ ?_; (first | rw [k_body_ret] | rw [k_body_normal]); simp only [resVals, resVal, ev, Env.get_put, ↓reduceIte, Nat.reduceEqDiff, Option.bind_some, Option.map_some, reduceCtorEq, ldv_true, ldv_false, lloadV_agg, partL, List.toList_toArray, cellsOf_set, cellsOf_new, rd_set, rd_new, List.length_cons, List.length_nil, Nat.reduceAdd, Nat.reduceLeDiff, Nat.le_refl, List.take_succ_cons, List.take_zero, List.drop_zero, Nat.add_eq_left, Nat.left_eq_add, List.getElem?_cons_zero, List.getElem?_cons_succ, aN54, hs]; rw [retQ_some]; simp only [oneOr]
      refine ⟨hK2, ?_⟩
      rw [tchk_ok hf]
      intro hh
      rcases (tlim_iff l).1 hh with hh | ⟨k, hk, hh⟩ | hh
      · omega
      · have := (hr k hk hk).2; omega
      · refine hh fun y hy => ?_
        obtain ⟨k, hk, rfl⟩ := List.getElem_of_mem hy
        exact (hr k hk hk).1
  have hjl : j < l.length := by omega
  obtain ⟨d, o, e', hv, he, hcs⟩ := h2.ne (by omega)
  cases hv
  have hlt : (j : Int) < l.length := by omega
  have hj0 : (0 : Int) ≤ j := by omega
  have hj1 : IntKind.i64.wrap ((j : Int) + 1) = j + 1 := wrap64_id (by omega) (by omega)
  have hst := style_at hok hcs j hjl
  simp only [go_sem, seval, hs, hlt, hj0, Int.toNat_natCast, hst]
  refine cK_of (refWithin l[j].s (hok _ (List.getElem_mem hjl)).s S2) ?_
  rintro r3 S3 hS3 hL3 ⟨⟨c, rfl, hc3⟩, hK3⟩
  have hK23 := hK2.trans hK3 fun _ _ _ => trivial
  cases c
  · simp only [go_sem, seval, hs]
    refine hE _ _ _ (by simp) ?_
    simp only [go_sem, seval, hs]
    refine hQ _ _ _ ?_; (first | rw [k_body_ret] | rw [k_body_normal]); simp only [resVals, resVal, ev, Env.get_put, ↓reduceIte, Nat.reduceEqDiff, Option.bind_some, Option.map_some, reduceCtorEq, ldv_true, ldv_false, lloadV_agg, partL, List.toList_toArray, cellsOf_set, cellsOf_new, rd_set, rd_new, List.length_cons, List.length_nil, Nat.reduceAdd, Nat.reduceLeDiff, Nat.le_refl, List.take_succ_cons, List.take_zero, List.drop_zero, Nat.add_eq_left, Nat.left_eq_add, List.getElem?_cons_zero, List.getElem?_cons_succ, aN54, hs]; rw [retQ_some]; simp only [oneOr]
    exact ⟨hK23, by rw [tchk_lim hf ((tlim_iff l).2 (.inr (.inr fun hh => by have := hc3.2 (hh _ (List.getElem_mem hjl)); cases this)))]⟩
  have h3 : Ns S3 (.slice (some ⟨d, o, none⟩) l.length e) l := Sl.keeps hL2 h2 hK3 fun _ _ => trivial
  simp only [go_sem, seval, hs]
  refine cK_of (deep61 _ l j l.length S3 h3 hok (Nat.le_refl _) hn hf.1.2.tr (by omega) hlt) ?_
  rintro r4 S4 hS4 hL4 ⟨rfl, rfl⟩
  by_cases g2 : (256 : Int) < ((chain (par l) (j : Int)).length : Nat)
  · simp only [go_sem, seval, hs, g2]
    refine hE _ _ _ (by simp) ?_
    simp only [go_sem, seval, hs]
    refine hQ _ _ _ ?_; (first | rw [k_body_ret] | rw [k_body_normal]); simp only [resVals, resVal, ev, Env.get_put, ↓reduceIte, Nat.reduceEqDiff, Option.bind_some, Option.map_some, reduceCtorEq, ldv_true, ldv_false, lloadV_agg, partL, List.toList_toArray, cellsOf_set, cellsOf_new, rd_set, rd_new, List.length_cons, List.length_nil, Nat.reduceAdd, Nat.reduceLeDiff, Nat.le_refl, List.take_succ_cons, List.take_zero, List.drop_zero, Nat.add_eq_left, Nat.left_eq_add, List.getElem?_cons_zero, List.getElem?_cons_succ, aN54, hs]; rw [retQ_some]; simp only [oneOr]
    exact ⟨hK23, by rw [tchk_lim hf ((tlim_iff l).2 (.inr (.inl ⟨j, hjl, by unfold dep; omega⟩)))]⟩
  · simp only [go_sem, seval, hs, g2, hj1]
    refine hN _ _ ⟨hK23, hL4, j + 1, by omega, ?_, fun k g3 g4 => ?_⟩ ?_
    · simp only [go_sem, seval, slots_cons, slots_nil, Int.natCast_add, Int.natCast_succ, Int.cast_ofNat_Int, hs]
    · by_cases hkj : k = j
      · subst hkj; exact ⟨hc3.1 rfl, by unfold dep; omega⟩
      · exact hr k g3 (by omega)
    · simp only [go_sem, seval, hs]
      simp [RowKit.intOf]
      omega
end Go.Proofs.Ytbgnaeagdneikaa
