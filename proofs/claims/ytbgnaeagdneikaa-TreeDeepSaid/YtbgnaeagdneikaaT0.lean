/- Trees and their bytes: plain laws. -/
import Derived.Test.YtbgnaeagdneikaaP0
import Derived.Test.YtbgnaeagdneikaaN5
-- pp: new
namespace Go.Proofs.Ytbgnaeagdneikaa
open Go Go.Proofs.Ytbgnaeagdneikaa.Abs
set_option linter.unusedSimpArgs false
set_option linter.unusedVariables false

structure Nd where
  s : Sty
  p : Int
def Nd.cells (x : Nd) : List Value := x.s.cells ++ [.int .i64 x.p]
structure Nd.Ok (x : Nd) : Prop where
  s : x.s.Ok
  p : InI64 x.p
def ndCells (l : List Nd) : List Value := l.flatMap Nd.cells
def par (l : List Nd) (k : Nat) : Int := match l[k]? with | some x => x.p | none => -1
theorem par_get {l : List Nd} {k : Nat} (h : k < l.length) : par l k = l[k].p := by unfold par; rw [List.getElem?_eq_getElem h]

/-- The nodes from one upwards. -/
def chainF (P : Nat → Int) : Nat → Int → List Int
  | 0, _ => []
  | f + 1, a => if a < 0 then [] else a :: chainF P f (P a.toNat)
def chain (P : Nat → Int) (a : Int) : List Int := chainF P (a + 1).toNat a
def Tr (P : Nat → Int) (k : Nat) : Prop := ∀ i, i < k → -1 ≤ P i ∧ P i < i
theorem Tr.mono {P : Nat → Int} {k j : Nat} (h : Tr P k) (hj : j ≤ k) : Tr P j := fun i hi => h i (by omega)
theorem chainF_neg (P : Nat → Int) (f : Nat) {a : Int} (h : a < 0) : chainF P f a = [] := by cases f <;> simp [chainF, h]
theorem chainF_eq {P : Nat → Int} {k : Nat} (ht : Tr P k) : ∀ (f g : Nat) (a : Int), a < k → a + 1 ≤ f → a + 1 ≤ g → chainF P f a = chainF P g a
  | 0, g, a, _, hf, _ => by rw [chainF_neg P 0 (by omega), chainF_neg P g (by omega)]
  | f + 1, 0, a, _, _, hg => by rw [chainF_neg P _ (by omega), chainF_neg P 0 (by omega)]
  | f + 1, g + 1, a, hk, hf, hg => by
    rw [chainF, chainF]
    by_cases ha : a < 0
    · rw [if_pos ha, if_pos ha]
    · have := ht a.toNat (by omega)
      rw [if_neg ha, if_neg ha, chainF_eq ht f g _ (by omega) (by omega) (by omega)]
theorem chain_neg (P : Nat → Int) {a : Int} (h : a < 0) : chain P a = [] := chainF_neg P _ h
theorem chain_pos {P : Nat → Int} {k : Nat} (ht : Tr P k) {a : Int} (h0 : 0 ≤ a) (hk : a < k) : chain P a = a :: chain P (P a.toNat) := by
  have hp := ht a.toNat (by omega)
  unfold chain
  obtain ⟨n, hn⟩ : ∃ n, (a + 1).toNat = n + 1 := ⟨a.toNat, by omega⟩
  rw [hn, chainF, if_neg (by omega), chainF_eq ht n (P a.toNat + 1).toNat _ (by omega) (by omega) (by omega)]
theorem chain_in {P : Nat → Int} {k : Nat} (ht : Tr P k) : ∀ (n : Nat) (a : Int), a < n → a < k → ∀ x ∈ chain P a, 0 ≤ x ∧ x ≤ a
  | 0, a, hn, _, x, hx => by rw [chain_neg P (by omega)] at hx; simp at hx
  | n + 1, a, hn, hk, x, hx => by
    by_cases ha : a < 0
    · rw [chain_neg P ha] at hx; simp at hx
    · rw [chain_pos ht (by omega) hk] at hx
      have := ht a.toNat (by omega)
      rcases List.mem_cons.1 hx with rfl | hx
      · omega
      · have := chain_in ht n (P a.toNat) (by omega) (by omega) x hx
        omega
theorem chain_len {P : Nat → Int} {k : Nat} (ht : Tr P k) : ∀ (n : Nat) (a : Int), a < n → a < k → -1 ≤ a → ((chain P a).length : Int) ≤ a + 1
  | 0, a, hn, _, _ => by rw [chain_neg P (by omega)]; simp; omega
  | n + 1, a, hn, hk, h1 => by
    by_cases ha : a < 0
    · rw [chain_neg P ha]; simp; omega
    · rw [chain_pos ht (by omega) hk]
      have := ht a.toNat (by omega)
      have := chain_len ht n (P a.toNat) (by omega) (by omega) (by omega)
      simp only [List.length_cons]
      omega
/-- Two that agree below have the same nodes above one. -/
theorem chain_same {P P' : Nat → Int} {k : Nat} (ht : Tr P k) (h : ∀ i, i < k → P i = P' i) : ∀ (n : Nat) (a : Int), a < n → a < k → chain P a = chain P' a
  | 0, a, hn, _ => by rw [chain_neg P (by omega), chain_neg P' (by omega)]
  | n + 1, a, hn, hk => by
    by_cases ha : a < 0
    · rw [chain_neg P ha, chain_neg P' ha]
    · have ht' : Tr P' k := fun i hi => by rw [← h i hi]; exact ht i hi
      have := ht a.toNat (by omega)
      rw [chain_pos ht (by omega) hk, chain_pos ht' (by omega) hk, h a.toNat (by omega), chain_same ht h n (P' a.toNat) (by rw [← h _ (by omega)]; omega) (by rw [← h _ (by omega)]; omega)]
/-- Where one stands among the nodes above. -/
def posOf (p : Int) : List Int → Option Nat
  | [] => none
  | a :: r => if a = p then some 0 else (posOf p r).map (· + 1)
theorem posOf_some {p : Int} : ∀ {l : List Int}, (∃ n, posOf p l = some n) ↔ p ∈ l
  | [] => by simp [posOf]
  | a :: r => by
    rw [posOf]
    by_cases h : a = p
    · simp [h]
    · rw [if_neg h]
      simp only [Option.map_eq_some_iff, List.mem_cons]
      have := posOf_some (p := p) (l := r)
      constructor
      · rintro ⟨n, m, hm, _⟩; exact .inr (this.1 ⟨m, hm⟩)
      · rintro (e | e)
        · exact absurd e.symm h
        · obtain ⟨m, hm⟩ := this.2 e; exact ⟨_, m, hm, rfl⟩
theorem posOf_get {p : Int} : ∀ {l : List Int} {n : Nat}, posOf p l = some n → l[n]? = some p
  | [], n, h => by cases h
  | a :: r, n, h => by
    rw [posOf] at h
    split at h
    · cases h; rename_i e; simp [e]
    · obtain ⟨m, hm, rfl⟩ := Option.map_eq_some_iff.1 h
      simpa using posOf_get hm
theorem posOf_len {P : Nat → Int} {k : Nat} (ht : Tr P k) {p : Int} : ∀ (n : Nat) (a : Int) {m : Nat}, a < n → a < k → posOf p (chain P a) = some m → (chain P a).length = m + (chain P p).length
  | 0, a, m, hn, _, h => by rw [chain_neg P (by omega)] at h; cases h
  | n + 1, a, m, hn, hk, h => by
    by_cases ha : a < 0
    · rw [chain_neg P ha] at h; cases h
    · have := ht a.toNat (by omega)
      rw [chain_pos ht (by omega) hk, posOf] at h
      by_cases e : a = p
      · rw [if_pos e] at h
        cases h
        rw [e]; omega
      · rw [if_neg e] at h
        obtain ⟨q, hq, rfl⟩ := Option.map_eq_some_iff.1 h
        rw [chain_pos ht (by omega) hk, List.length_cons, posOf_len ht n _ (by omega) (by omega) hq]
        omega

/-- The first nodes are a tree's. -/
def Sh (P : Nat → Int) (k : Nat) : Prop := ∀ i, i < k → (i = 0 → P 0 = -1) ∧ (0 < i → P i ∈ chain P (i - 1))
theorem Sh.tr {P : Nat → Int} : ∀ {k : Nat}, Sh P k → Tr P k
  | 0, _ => fun i hi => by omega
  | k + 1, h => by
    have ih := Sh.tr (k := k) fun i hi => h i (by omega)
    intro i hi
    by_cases hik : i < k
    · exact ih i hik
    · obtain rfl : i = k := by omega
      have := h i hi
      by_cases h0 : i = 0
      · subst h0; rw [this.1 rfl]; omega
      · have := chain_in ih i ((i : Int) - 1) (by omega) (by omega) _ (this.2 (by omega))
        omega
def Shaped (l : List Nd) : Prop := 0 < l.length ∧ Sh (par l) l.length
def TForm (l : List Nd) : Prop := Shaped l ∧ ∀ x ∈ l, SFormed x.s
def dep (l : List Nd) (k : Nat) : Nat := (chain (par l) k).length
def TLim (l : List Nd) : Prop := (∃ k, k < l.length ∧ (¬ SWithin (l[k]?.getD ⟨zeroS, 0⟩).s ∨ 256 < dep l k)) ∨ 65535 < l.length
open Classical in
noncomputable def tchk (l : List Nd) : Int := if ¬ TForm l then 2 else if TLim l then 3 else 0

/-- How many steps up a node's parent is. -/
def stp (l : List Nd) (k : Nat) : Nat := (posOf (par l k) (chain (par l) ((k : Int) - 1))).getD 0
def nodeB (l : List Nd) (k : Nat) : List Int := (if 0 < k then be (stp l k) 4 else []) ++ (match l[k]? with | some x => styBytes x.s | none => [])
def restB (l : List Nd) (j r : Nat) : List Int := (List.range' j r).flatMap (nodeB l)
def treeB (l : List Nd) : List Int := be (l.length : Int) 4 ++ restB l 0 l.length
theorem restB_succ (l : List Nd) (j r : Nat) : restB l j (r + 1) = nodeB l j ++ restB l (j + 1) r := by simp [restB, List.range'_succ]
theorem restB_snoc (l : List Nd) (r : Nat) : restB l 0 (r + 1) = restB l 0 r ++ nodeB l r := by
  unfold restB
  rw [List.range'_concat, List.flatMap_append]
  simp
theorem stp_le {l : List Nd} (h : Shaped l) {k : Nat} (hk : k < l.length) (h0 : 0 < k) : posOf (par l k) (chain (par l) ((k : Int) - 1)) = some (stp l k) ∧ stp l k + dep l k = dep l (k - 1) + 1 ∧ stp l k < k := by
  have hm := (h.2 k hk).2 h0
  obtain ⟨n, hn⟩ := posOf_some.2 hm
  have ht := h.2.tr
  have e1 := posOf_len ht k _ (by omega) (by omega) hn
  have hc := chain_in ht k _ (by omega) (by omega) _ hm
  have hk1 : ((k - 1 : Nat) : Int) = (k : Int) - 1 := by omega
  have hd : dep l k = (chain (par l) (par l k)).length + 1 := by
    unfold dep
    rw [chain_pos ht (by omega) (by omega), Int.toNat_natCast, List.length_cons]
  have hd1 : dep l (k - 1) = n + (chain (par l) (par l k)).length := by unfold dep; rw [hk1]; exact e1
  have hs : stp l k = n := by unfold stp; rw [hn]; rfl
  have hp : 1 ≤ (chain (par l) (par l k)).length := by
    rw [chain_pos ht hc.1 (by omega)]; simp
  have hl := chain_len ht k ((k : Int) - 1) (by omega) (by omega) (by omega)
  refine ⟨by rw [hs]; exact hn, by omega, by omega⟩

/-- A node's parent, read. -/
def upR (l : List Nd) (n : Nat) : Int := ((chain (par l) ((l.length : Int) - 1))[n]?).getD (-1)
def nextP (l : List Nd) (t : Pst) : Int × Pst := if l = [] then (-1, t) else (upR l (pFour t).1.toNat, (pFour t).2)
open Classical in
noncomputable def decT : Nat → List Nd → Pst → Option (List Nd × Pst)
  | 0, l, t => some (l, t)
  | f + 1, l, t => if l ≠ [] ∧ (nextP l t).1 < 0 then none else if Good (nextP l t).2 then decT f (l ++ [⟨pSty (nextP l t).2, (nextP l t).1⟩]) (pT5 (nextP l t).2) else none
open Classical in
noncomputable def treeD (xs : List Int) : Option (List Nd) :=
  match decT (pFour (xs, false)).1.toNat [] (pFour (xs, false)).2 with
  | some (l, t) => if t = ([], false) ∧ 0 < (pFour (xs, false)).1.toNat then some l else none
  | none => none
theorem par_take {l : List Nd} {j i : Nat} (h : i < j) : par (l.take j) i = par l i := by
  unfold par
  rw [List.getElem?_take_of_lt h]
theorem decT_bytes (l : List Nd) (hf : TForm l) (hn : l.length < 4294967296) (hok : ∀ x ∈ l, x.Ok) (x : Nat) (m : List Int) : ∀ (r j : Nat), j + r = l.length → decT (r + x) (l.take j) (restB l j r ++ m, false) = decT x l (m, false)
  | 0, j, h => by
    rw [List.take_of_length_le (by omega)]
    simp [restB]
  | r + 1, j, h => by
    have hj : j < l.length := by omega
    have ht := hf.1.2.tr
    obtain ⟨g1, g2, g3⟩ := good_of l[j].s (hok _ (List.getElem_mem hj)).s (hf.2 _ (List.getElem_mem hj)) (restB l (j + 1) r ++ m)
    have hb : restB l j (r + 1) ++ m = (if 0 < j then be (stp l j) 4 else []) ++ (styBytes l[j].s ++ (restB l (j + 1) r ++ m)) := by
      rw [restB_succ, nodeB, List.getElem?_eq_getElem hj]
      simp only [List.append_assoc]
    have key : nextP (l.take j) (restB l j (r + 1) ++ m, false) = (par l j, (styBytes l[j].s ++ (restB l (j + 1) r ++ m), false)) ∧ (l.take j ≠ [] → 0 ≤ par l j) := by
      rw [hb]
      unfold nextP
      by_cases h0 : 0 < j
      · have hne : l.take j ≠ [] := fun e => by have := congrArg List.length e; rw [List.length_take, List.length_nil] at this; omega
        obtain ⟨s1, s2, s3⟩ := stp_le hf.1 hj h0
        rw [if_neg hne, if_pos h0, pFour_be (stp l j : Int) _ (by omega) (by omega)]
        have hc := chain_in ht j _ (by omega) (by omega) _ ((hf.1.2 j hj).2 h0)
        refine ⟨?_, fun _ => hc.1⟩
        simp only [Int.toNat_natCast]
        unfold upR
        have htl : (l.take j).length = j := by rw [List.length_take]; omega
        rw [htl, chain_same (P' := par l) (k := j) (fun i hi => by rw [par_take hi]; exact ht i (by omega)) (fun i hi => par_take hi) j _ (by omega) (by omega), posOf_get s1]
        rfl
      · obtain rfl : j = 0 := by omega
        rw [List.take_zero, if_pos rfl, if_neg (by omega), (hf.1.2 0 hj).1 rfl, List.nil_append]
        exact ⟨rfl, fun h => absurd rfl h⟩
    rw [show r + 1 + x = (r + x) + 1 by omega, decT, key.1]
    simp only
    rw [if_neg (fun hh => by have := key.2 hh.1; omega), if_pos g1, g2, g3]
    have e : l.take j ++ [(⟨l[j].s, par l j⟩ : Nd)] = l.take (j + 1) := by rw [List.take_add_one, List.getElem?_eq_getElem hj, par_get hj]; rfl
    rw [e]
    exact decT_bytes l hf hn hok x m r (j + 1) (by omega)
theorem treeD_bytes (l : List Nd) (hf : TForm l) (hn : l.length < 4294967296) (hok : ∀ x ∈ l, x.Ok) (m : List Int) : treeD (treeB l ++ m) = if m = [] then some l else none := by
  have e : pFour (treeB l ++ m, false) = ((l.length : Int), restB l 0 l.length ++ m, false) := by
    unfold treeB
    rw [List.append_assoc]
    exact pFour_be _ _ (by omega) (by omega)
  have hd := decT_bytes l hf hn hok 0 m l.length 0 (by omega)
  rw [Nat.add_zero, List.take_zero] at hd
  unfold treeD
  rw [e]
  simp only [Int.toNat_natCast]
  rw [hd]
  simp only [decT, Prod.mk.injEq, and_true, hf.1.1]
end Go.Proofs.Ytbgnaeagdneikaa
