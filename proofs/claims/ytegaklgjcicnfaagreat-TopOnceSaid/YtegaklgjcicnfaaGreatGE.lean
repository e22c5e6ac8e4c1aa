/- Boxes in the flow: what is in a box; the lists that come to be. -/
import Derived.Test.YtegaklgjcicnfaaGreatGD
set_option linter.unusedSimpArgs false
set_option linter.unusedVariables false
namespace Go.Proofs.YtegaklgjcicnfaaGreat
open Go Go.Proofs.YtegaklgjcicnfaaGreat.Abs
/-- How many boxes some children come to, at most. -/
def wt (l : List Nd) (ms : List Int) : Nat := (ms.map fun m => 2 ^ (l.length - m.toNat - 1)).sum
theorem wt_bound {l : List Nd} : ∀ (ms : List Int) (n : Nat), ms.Pairwise (· < ·) → (∀ m ∈ ms, ∃ k : Nat, m = k ∧ n < k ∧ k < l.length) → wt l ms ≤ 2 ^ (l.length - n - 1) - 1
 | [], n, _, _ => by simp [wt]
 | m :: ms, n, hp, hm => by
  obtain ⟨k, rfl, hk, hkl⟩ := hm m (List.mem_cons_self ..)
  have h1 := wt_bound ms k (List.pairwise_cons.1 hp).2 fun m' hm' => by
   obtain ⟨k', rfl, _, hk2⟩ := hm m' (List.mem_cons_of_mem _ hm')
   have := (List.pairwise_cons.1 hp).1 _ hm'
   exact ⟨k', rfl, by omega, hk2⟩
  have h2 : wt l ((k : Int) :: ms) = 2 ^ (l.length - k - 1) + wt l ms := by simp [wt]
  rw [h2]
  have h3 : l.length - n - 1 = (l.length - k - 1) + 1 + (k - n - 1) := by omega
  have h4 : 2 ^ (l.length - n - 1) = 2 ^ (l.length - k - 1) * 2 * 2 ^ (k - n - 1) := by rw [h3, Nat.pow_add, Nat.pow_succ]
  have h5 : 0 < 2 ^ (k - n - 1) := Nat.two_pow_pos _
  have h6 : 0 < 2 ^ (l.length - k - 1) := Nat.two_pow_pos _
  have h7 : 2 ^ (l.length - k - 1) * 2 ≤ 2 ^ (l.length - k - 1) * 2 * 2 ^ (k - n - 1) := Nat.le_mul_of_pos_right _ h5
  omega
theorem wt_take {l : List Nd} {ms : List Int} {j : Nat} (hj : j < ms.length) : wt l (ms.take (j + 1)) = wt l (ms.take j) + 2 ^ (l.length - ms[j].toNat - 1) := by
 unfold wt
 rw [List.take_succ_eq_append_getElem hj, List.map_append, List.sum_append_nat]
 simp
theorem wt_take_le {l : List Nd} (ms : List Int) (j : Nat) : wt l (ms.take j) ≤ wt l ms := by
 have : wt l ms = wt l (ms.take j) + wt l (ms.drop j) := by
  unfold wt
  rw [← List.sum_append_nat, ← List.map_append, List.take_append_drop]
 omega
theorem wt_insert {l : List Nd} (ms : List Int) (j : Nat) (m : Int) : wt l (ms.take j ++ m :: ms.drop j) = wt l ms + 2 ^ (l.length - m.toNat - 1) := by
 have : wt l ms = wt l (ms.take j) + wt l (ms.drop j) := by
  unfold wt
  rw [← List.sum_append_nat, ← List.map_append, List.take_append_drop]
 rw [this]
 unfold wt
 simp
 omega
def Dis (x y : Value) : Prop := ∀ i, Value.blkOf x = some i → Value.blkOf y ≠ some i
theorem Dis.symm {x y : Value} (h : Dis x y) : Dis y x := fun i hy hx => h i hx hy
/-- What an append leaves. -/
structure AppR (S S' : St) (esz : Nat) (x v : Value) (n : Nat) (cs : List Value) : Prop where
 live : Live S'
 own : Own S' esz v n cs
 keep : Keeps S S' (fun i => Value.blkOf x ≠ some i)
 new : ∀ i, Value.blkOf v = some i → Value.blkOf x = some i ∨ S.next ≤ i
theorem appN {S : St} (hL : Live S) {x : Value} {n esz bytes : Nat} {cs ds : List Value} (h0 : 0 < esz) (hx : Own S esz x n cs) (hd : ds.length = esz) (hb : (n + 1) * bytes ≤ 1099511627776) :
  optWp (doAppend esz bytes x (.slice (some ⟨S.next, 0, none⟩) 1 esz) (S.new ⟨false, ds⟩)) fun v' S' => (∃ a e, v' = .slice a (n + 1) e) ∧ AppR S S' esz x v' (n + 1) (cs ++ ds) := by
 have hL1 : Live (S.new ⟨false, ds⟩) := hL.new _
 have hy : Sl (S.new ⟨false, ds⟩) esz (.slice (some ⟨S.next, 0, none⟩) 1 esz) 1 ds :=
  .inr ⟨S.next, 0, esz, rfl, .inr rfl, by rw [cellsOf_new, if_pos rfl, if_pos (by simp [hd]), List.drop_zero, List.take_of_length_le (by simp [hd])]⟩
 have := append_live hL1 (append_own (bytes := bytes) (cs := cs) (k := 1) (ds := ds) h0 (hx.keeps hL (Keeps.of_new S _ fun _ => True) fun _ _ => trivial) hy hb
  (R := fun v' S' => Own S' esz v' (n + 1) (cs ++ ds) ∧ Keeps (S.new ⟨false, ds⟩) S' (fun i => Value.blkOf x ≠ some i) ∧ ∀ i, Value.blkOf v' = some i → Value.blkOf x = some i ∨ (S.new ⟨false, ds⟩).next ≤ i) fun v' S' h1 h2 h3 => ⟨h1, h2, h3⟩)
 unfold optWp at this ⊢
 split at this
 ·obtain ⟨hL', h1, h2, h3⟩ := this
  refine ⟨h1.sl.slice, hL', h1, (Keeps.of_new S _ fun i => Value.blkOf x ≠ some i).trans h2 fun i _ h => h, fun i hi => ?_⟩
  rcases h3 i hi with h | h
  ·exact .inl h
  ·exact .inr (by simp [St.next_new] at h; omega)
 ·exact this
theorem appS {S : St} (hL : Live S) {x y : Value} {n k esz bytes : Nat} {cs ds : List Value} (h0 : 0 < esz) (hx : Own S esz x n cs) (hy : Sl S esz y k ds) (hb : (n + k) * bytes ≤ 1099511627776) :
  optWp (doAppend esz bytes x y S) fun v' S' => (∃ a e, v' = .slice a (n + k) e) ∧ AppR S S' esz x v' (n + k) (cs ++ ds) := by
 have := append_live hL (append_own (bytes := bytes) h0 hx hy hb
  (R := fun v' S' => Own S' esz v' (n + k) (cs ++ ds) ∧ Keeps S S' (fun i => Value.blkOf x ≠ some i) ∧ ∀ i, Value.blkOf v' = some i → Value.blkOf x = some i ∨ S.next ≤ i) fun v' S' h1 h2 h3 => ⟨h1, h2, h3⟩)
 unfold optWp at this ⊢
 split at this
 ·obtain ⟨hL', h1, h2, h3⟩ := this
  exact ⟨h1.sl.slice, hL', h1, h2, h3⟩
 ·exact this
section
variable {S0 S S' : St} {esz n : Nat} {x v : Value} {cs : List Value}
theorem AppR.other (h : AppR S S' esz x v n cs) (hL : Live S) {e k : Nat} {y : Value} {ds : List Value} (hy : Own S e y k ds) (hd : Dis x y) : Own S' e y k ds := hy.keeps hL h.keep fun i hi hx => hd i hx hi
theorem AppR.dis (h : AppR S S' esz x v n cs) {y : Value} (hy : ∀ i, Value.blkOf y = some i → i < S.next) (hd : Dis x y) : Dis v y := fun i hi hyi => by
 rcases h.new i hi with hx | hx
 ·exact hd i hx hyi
 ·have := hy i hyi; omega
theorem AppR.fresh (h : AppR S S' esz x v n cs) (hf : Fresh S0 x) (h0 : S0.next ≤ S.next) : Fresh S0 v := fun i hi => by
 rcases h.new i hi with hx | hx
 ·exact hf i hx
 ·omega
theorem AppR.keeps (h : AppR S S' esz x v n cs) (hf : Fresh S0 x) (hk : KeepsAll S0 S) : KeepsAll S0 S' := hk.trans h.keep fun i hi _ hx => by have := hf i hx; omega
end
/-- Placed, and what is placed behind it. -/
theorem PlacedAt.app {l : List Nd} {n m m' : Nat} {cs ds : List Value} (h : PlacedAt l n m cs) (hc : cs.length = m * 26) (h' : ∀ j, j < m' → Fl placedSg ((ds.drop (j * 26)).take 26) ∧ ∃ k : Nat, ds[j * 26]? = some (.int .i64 k) ∧ n < k ∧ k < l.length) : PlacedAt l n (m + m') (cs ++ ds) := fun j hj => by
 by_cases hjm : j < m
 ·obtain ⟨h1, k, h2, h3⟩ := h j hjm
  refine ⟨?_, k, ?_, h3⟩
  ·rw [List.drop_append_of_le_length (by omega), List.take_append_of_le_length (by rw [List.length_drop]; omega)]
   exact h1
  ·rw [List.getElem?_append_left (by omega)]
   exact h2
 ·obtain ⟨h1, k, h2, h3⟩ := h' (j - m) (by omega)
  have e : j * 26 = cs.length + (j - m) * 26 := by rw [hc, ← Nat.add_mul]; congr 1; omega
  refine ⟨?_, k, ?_, h3⟩
  ·rw [e, ← List.drop_drop, List.drop_left]
   exact h1
  ·rw [e, List.getElem?_append_right (by omega), Nat.add_sub_cancel_left]
   exact h2
theorem chunk_set {cs : List Value} {a b k : Nat} {v : Value} (hk : k < 26) : ((cs.set (a * 26 + k) v).drop (b * 26)).take 26 = if a = b then (((cs.drop (b * 26)).take 26).set k v) else (cs.drop (b * 26)).take 26 := by
 split
 ·rename_i h
  subst h
  rw [List.drop_set, if_neg (by omega), Nat.add_sub_cancel_left, List.take_set]
 ·rename_i h
  apply List.ext_getElem?
  intro i
  rw [List.getElem?_take, List.getElem?_take]
  split
  ·rename_i hi
   rw [List.getElem?_drop, List.getElem?_drop, List.getElem?_set_ne (by omega)]
  ·rfl
theorem PlacedAt.set {l : List Nd} {n m a : Nat} {cs : List Value} (h : PlacedAt l n m cs) (y : Int) : PlacedAt l n m (cs.set (a * 26 + 2) (.int .i64 y)) := fun j hj => by
 obtain ⟨h1, k, h2, h3⟩ := h j hj
 refine ⟨?_, k, ?_, h3⟩
 ·rw [chunk_set (by omega)]
  split
  ·exact h1.set (c := true) rfl (fl_i y)
  ·exact h1
 ·rw [List.getElem?_set_ne (by omega)]
  exact h2
end Go.Proofs.YtegaklgjcicnfaaGreat
namespace Go.Proofs.YtegaklgjcicnfaaGreat
open Go Go.Proofs.YtegaklgjcicnfaaGreat.Abs
/-- How many are in a box with one more child, at most. -/
def bdm (l : List Nd) (n : Nat) (more : Int) : Nat := bd l n + if more < 0 then 0 else 2 ^ (l.length - more.toNat - 1)
theorem bdm_le {l : List Nd} {n : Nat} {more : Int} (h : l.length ≤ 24) : bdm l n more ≤ 33554432 := by
 unfold bdm bd
 have h1 : 2 ^ (l.length - n - 1) ≤ 2 ^ 24 := Nat.pow_le_pow_right (by omega) (by omega)
 have h2 : 2 ^ (l.length - more.toNat - 1) ≤ 2 ^ 24 := Nat.pow_le_pow_right (by omega) (by omega)
 split <;> omega
/-- A box's children, as a slice. -/
structure KidsS (l : List Nd) (n b : Nat) (S : St) (kb : Value) (ms : List Int) : Prop where
 sl : Sl S 1 kb ms.length (iV ms)
 mem : ∀ m ∈ ms, ∃ k : Nat, m = k ∧ n < k ∧ k < l.length
 wt : wt l ms ≤ b
 len : ms.length ≤ 1000000
theorem sl_prefix {S : St} {d : Nat} {cs ys : List Int} (hb : S.blk d = some ⟨false, iV cs⟩) (hyl : ys.length ≤ cs.length) (hy : cs.take ys.length = ys) : Sl S 1 (.slice (some ⟨d, 0, none⟩) ys.length 1) ys.length (iV ys) :=
 .inr ⟨d, 0, 1, rfl, .inr rfl, by rw [cellsOf_of_blk hb, if_pos (by rw [iV_length]; omega), List.drop_zero, Nat.mul_one]; simp only [iV, ← List.map_take, hy]⟩
/-- The three lists that come to be: boxes, where a child's own lies, children. -/
structure ThreeI (l : List Nd) (n b : Nat) (S0 S : St) (kb : Value) (ms : List Int) (j : Nat) (L O C : Value) (m : Nat) (cs : List Value) (os : List Int) (ccs : List Value) : Prop where
 live : Live S
 keep : KeepsAll S0 S
 kids : KidsS l n b S kb ms
 oL : Own S 26 L m cs
 oO : Own S 1 O j (iV os)
 oC : Own S 8 C j ccs
 pl : PlacedAt l n m cs
 ol : os.length = j
 ob : ∀ x ∈ os, ∃ q : Nat, x = q ∧ q < m
 cb : ∀ i, i < j → Fl childSg ((ccs.drop (i * 8)).take 8)
 mb : m ≤ wt l (ms.take j)
 fL : Fresh S0 L
 fO : Fresh S0 O
 fC : Fresh S0 C
 dLO : Dis L O
 dLC : Dis L C
 dOC : Dis O C
 dKL : Dis kb L
 dKO : Dis kb O
 dKC : Dis kb C
theorem own_lt {S : St} (hL : Live S) {e k : Nat} {y : Value} {ds : List Value} (hy : Own S e y k ds) : ∀ i, Value.blkOf y = some i → i < S.next := fun i hi => hy.sl.lt hL hi
theorem KidsS.keeps {l : List Nd} {n b : Nat} {S S' : St} {kb : Value} {ms : List Int} (h : KidsS l n b S kb ms) (hL : Live S) {P : Nat → Prop} (hk : Keeps S S' P) (hP : ∀ d, Value.blkOf kb = some d → P d) : KidsS l n b S' kb ms := ⟨h.sl.keeps hL hk hP, h.mem, h.wt, h.len⟩
theorem ThreeI.keeps {l : List Nd} {n b : Nat} {S0 S S' : St} {kb : Value} {ms : List Int} {j : Nat} {L O C : Value} {m : Nat} {cs : List Value} {os : List Int} {ccs : List Value} (h : ThreeI l n b S0 S kb ms j L O C m cs os ccs) (hL' : Live S') (hk : KeepsAll S S') : ThreeI l n b S0 S' kb ms j L O C m cs os ccs :=
 { h with live := hL', keep := h.keep.trans hk fun _ _ _ => trivial, kids := h.kids.keeps h.live hk fun _ _ => trivial, oL := h.oL.keeps h.live hk fun _ _ => trivial, oO := h.oO.keeps h.live hk fun _ _ => trivial, oC := h.oC.keeps h.live hk fun _ _ => trivial }
theorem three_nil {l : List Nd} {n b : Nat} {S0 S : St} {kb : Value} {ms : List Int} (hL : Live S) (hk : KeepsAll S0 S) (h : KidsS l n b S kb ms) : ThreeI l n b S0 S kb ms 0 (.slice none 0 0) (.slice none 0 0) (.slice none 0 0) 0 [] [] [] :=
 have hd : ∀ x, Dis x (.slice none 0 0) := fun x i _ hi => by simp [Value.blkOf] at hi
 have hf : Fresh S0 (.slice none 0 0) := fun d hd => by simp [Value.blkOf] at hd
 ⟨hL, hk, h, .inl ⟨rfl, rfl, rfl⟩, .inl ⟨rfl, rfl, rfl⟩, .inl ⟨rfl, rfl, rfl⟩, fun j hj => by omega, rfl, by simp, fun i hi => by omega, Nat.zero_le _, hf, hf, hf, hd _, hd _, hd _, hd _, hd _, hd _⟩
/-- One more child, after its box. -/
theorem ThreeI.step {l : List Nd} {n b : Nat} {S0 S S1 S2 S3 S4 : St} {kb : Value} {ms : List Int} {j : Nat} {L O C L1 L2 O' C' : Value} {m m' k : Nat} {cs cs' : List Value} {os : List Int} {ccs pc cc : List Value}
  (h : ThreeI l n b S0 S kb ms j L O C m cs os ccs) (hj : j < ms.length) (hk : ms[j] = (k : Int)) (hkn : n < k) (hkl : k < l.length)
  (a1 : AppR S S1 1 O O' (j + 1) (iV os ++ [.int .i64 m])) (a2 : AppR S1 S2 26 L L1 (m + 1) (cs ++ (.int .i64 k :: pc))) (a3 : AppR S2 S3 26 L1 L2 (m + 1 + m') (cs ++ (.int .i64 k :: pc) ++ cs')) (a4 : AppR S3 S4 8 C C' (j + 1) (ccs ++ cc))
  (hpc : Fl frameSg pc) (hcc : Fl childSg cc) (hpl : PlacedAt l k m' cs') (hm' : m' ≤ bd l k) :
  ThreeI l n b S0 S4 kb ms (j + 1) L2 O' C' (m + 1 + m') (cs ++ (.int .i64 k :: pc) ++ cs') (os ++ [(m : Int)]) (ccs ++ cc) := by
 have n1 : S.next ≤ S1.next := a1.keep.1
 have n2 : S1.next ≤ S2.next := a2.keep.1
 have n3 : S2.next ≤ S3.next := a3.keep.1
 have n0 : S0.next ≤ S.next := h.keep.1
 have lL := own_lt h.live h.oL
 have lO := own_lt h.live h.oO
 have lC := own_lt h.live h.oC
 have lK : ∀ i, Value.blkOf kb = some i → i < S.next := fun i hi => h.kids.sl.lt h.live hi
 have b1L := a1.other h.live h.oL h.dLO.symm
 have b1C := a1.other h.live h.oC h.dOC
 have dO'L := a1.dis lL h.dLO.symm
 have dO'C := a1.dis lC h.dOC
 have dO'K := a1.dis lK h.dKO.symm
 have fO' := a1.fresh h.fO n0
 have k1 := a1.keeps h.fO h.keep
 have kd1 := h.kids.keeps h.live a1.keep fun i hi hx => h.dKO i hi hx
 have lO' := own_lt a1.live a1.own
 have b2O := a2.other a1.live a1.own dO'L.symm
 have b2C := a2.other a1.live b1C h.dLC
 have dL1O := a2.dis lO' dO'L.symm
 have dL1C := a2.dis (fun i hi => by have := lC i hi; omega) h.dLC
 have dL1K := a2.dis (fun i hi => by have := lK i hi; omega) h.dKL.symm
 have fL1 := a2.fresh h.fL (by omega)
 have k2 := a2.keeps h.fL k1
 have kd2 := kd1.keeps a1.live a2.keep fun i hi hx => h.dKL i hi hx
 have b3O := a3.other a2.live b2O dL1O
 have b3C := a3.other a2.live b2C dL1C
 have dL2O := a3.dis (fun i hi => by have := lO' i hi; omega) dL1O
 have dL2C := a3.dis (fun i hi => by have := lC i hi; omega) dL1C
 have dL2K := a3.dis (fun i hi => by have := lK i hi; omega) dL1K
 have fL2 := a3.fresh fL1 (by omega)
 have k3 := a3.keeps fL1 k2
 have kd3 := kd2.keeps a2.live a3.keep fun i hi hx => dL1K i hx hi
 have lL2 := own_lt a3.live a3.own
 have b4O := a4.other a3.live b3O dO'C.symm
 have b4L := a4.other a3.live a3.own dL2C.symm
 have dC'O := a4.dis (fun i hi => by have := lO' i hi; omega) dO'C.symm
 have dC'L := a4.dis lL2 dL2C.symm
 have dC'K := a4.dis (fun i hi => by have := lK i hi; omega) h.dKC.symm
 have fC' := a4.fresh h.fC (by omega)
 have k4 := a4.keeps h.fC k3
 have kd4 := kd3.keeps a3.live a4.keep fun i hi hx => h.dKC i hi hx
 have eO : iV os ++ [.int .i64 m] = iV (os ++ [(m : Int)]) := by simp [iV]
 have hcl : cs.length = m * 26 := by have := h.oL.sl.len; omega
 have hccl : ccs.length = j * 8 := by have := h.oC.sl.len; omega
 have hp1 : (Value.int .i64 k :: pc).length = 26 := by have := hpc.N 25; simp; omega
 rw [eO] at b4O
 refine ⟨a4.live, k4, kd4, b4L, b4O, a4.own, ?_, by simp [h.ol], fun x hx => ?_, fun i hi => ?_, ?_, fL2, fO', fC', dL2O, dC'L.symm, dC'O.symm, dL2K.symm, dO'K.symm, dC'K.symm⟩
 ·rw [List.append_assoc, Nat.add_assoc]
  refine h.pl.app hcl fun q hq => ?_
  by_cases hq0 : q = 0
  ·subst hq0
   refine ⟨?_, k, rfl, hkn, hkl⟩
   rw [Nat.zero_mul, List.drop_zero, List.take_left' hp1]
   exact (fl_i k).cons hpc
  ·obtain ⟨g1, x, g2, g3, g4⟩ := hpl (q - 1) (by omega)
   have e : q * 26 = (Value.int .i64 k :: pc).length + (q - 1) * 26 := by rw [hp1]; omega
   refine ⟨?_, x, ?_, by omega, g4⟩
   ·rw [e, ← List.drop_drop, List.drop_left]; exact g1
   ·rw [e, List.getElem?_append_right (by omega), Nat.add_sub_cancel_left]; exact g2
 ·rcases List.mem_append.1 hx with hx | hx
  ·obtain ⟨q, rfl, hq⟩ := h.ob x hx
   exact ⟨q, rfl, by omega⟩
  ·simp at hx
   exact ⟨m, hx, by omega⟩
 ·by_cases hij : i < j
  ·rw [List.drop_append_of_le_length (by omega), List.take_append_of_le_length (by rw [List.length_drop]; omega)]
   exact h.cb i hij
  ·have : i = j := by omega
   subst this
   rw [List.drop_left' hccl, List.take_of_length_le (by have := hcc.N 8; omega)]
   exact hcc
 ·rw [wt_take hj, hk, Int.toNat_natCast]
  have := h.mb
  have h6 : 0 < 2 ^ (l.length - k - 1) := Nat.two_pow_pos _
  unfold bd at hm'
  omega
section
variable {hi kp : Nat} {l : List Nd}
set_option maxHeartbeats 4000000 in
theorem inside132 (n : Nat) (hok : ∀ x ∈ l, x.Ok) (hn : n < l.length) (hl : l.length ≤ 24)
  (hbox : ∀ k, n < k → k < l.length → ∀ (S : St) (w h : Int) (a rtl : Bool), KinAt S hi kp l → hi ≤ S.next → ACalls Tryz.prog 68 [ptr kp, .int .i64 k, .int .i64 w, .agg #[.bool a, .int .i64 h], .bool rtl] S (BoxP l k S))
  (more : Int) (hm : more = -1 ∨ ∃ k : Nat, more = k ∧ n < k ∧ k < l.length)
  (S : St) (w h : Int) (a : Bool) (es : List Value) (hK : KinAt S hi kp l) (hh : hi ≤ S.next) (he : Fl edgeSg es) :
  ACalls Tryz.prog 132 [ptr kp, .int .i64 n, .int .i64 w, .agg #[.bool a, .int .i64 h], .agg es.toArray, .int .i64 more] S (InP l n (bdm l n more) S) := by
 refine run_of hmix Tryz.func132 cF132 rfl fun hL Q hQ => ?_
 have zero : ∀ (S' : St) (v : Value) (c : Bool), LayP l n (bdm l n more) S S' v → KeepsAll S S' → InP l n (bdm l n more) S (.tuple #[v, .bool c]) S' := fun S' v c h1 h2 => ⟨⟨v, c, rfl, h1⟩, h2⟩
 have hbb := bdm_le (n := n) (more := more) hl
 simp only [go_sem, seval, aF132, he.N 28]
 refine cK_of (may67 _ _ _ _) ?_
 rintro v S1 _ hL1 ⟨⟨c, rfl⟩, hS1⟩
 obtain rfl := hS1.symm
 cases c
 ·simp only [go_sem, seval]
  refine fin_at hQ rfl ?_; simp only [go_sem, seval, aF132]; rw [retQ_some]; simp only [oneOr]
  exact zero _ _ _ (layP_nil _ _ _ _ _) (Keeps.refl _ _)
 simp only [go_sem, seval]
 refine cK_of (flow134 hK hh hok (by omega) hn) ?_
 rintro v S1 _ hL1 ⟨hpk, hk1⟩
 simp only [go_sem, seval]
 refine iK_cut (fun t' S' => Live S' ∧ KeepsAll S S' ∧ ∃ kb ms, KidsS l n (bdm l n more) S' kb ms ∧ Slots t' [(0, ptr kp), (1, .int .i64 n), (2, .int .i64 w), (9, .agg #[.bool a, .int .i64 h]), (10, .agg es.toArray), (12, layV (.slice none 0 0) (.slice none 0 0) 0 0 0 0 0 false 0), (13, .bool false), (14, kb), (17, undef), (25, undef)]) ?_ ?_
 ·intro Q1 hN1 hE1
  have hbd : bd l n ≤ bdm l n more := by unfold bdm; omega
  have hwt : ∀ ys : List Int, ys.Pairwise (· < ·) → (∀ m ∈ ys, ∃ k : Nat, m = k ∧ n < k ∧ k < l.length ∧ par l k = n) → Go.Proofs.YtegaklgjcicnfaaGreat.wt l ys ≤ bd l n := fun ys h1 h2 => wt_bound ys n h1 fun m hm' => by
   obtain ⟨k, a1, a2, a3, _⟩ := h2 m hm'; exact ⟨k, a1, a2, a3⟩
  rcases hm with hm | ⟨mk, hmk, hmk1, hmk2⟩
  ·have hdec : decide (more ≥ 0) = false := by rw [hm]; rfl
   rw [hdec]
   rcases hpk with rfl | ⟨d, ys, cs, rfl, e1, e2, e3, e4, e5, e6, e7⟩
   ·simp only [go_sem, seval]
    refine hN1 _ _ ⟨hL1, hk1, .slice none 0 0, [], ⟨.inl ⟨rfl, rfl, rfl⟩, by simp, by simp [Go.Proofs.YtegaklgjcicnfaaGreat.wt], by simp⟩, ?_⟩
    simp only [go_sem, seval, Int.natCast_add, Int.natCast_succ, layV]
   ·simp only [go_sem, seval]
    refine hN1 _ _ ⟨hL1, hk1, _, ys, ⟨sl_prefix e1 e2 e3, fun m hm' => by obtain ⟨k, a1, a2, a3, _⟩ := e6 m hm'; exact ⟨k, a1, a2, a3⟩, Nat.le_trans (hwt ys e7 e6) hbd, by omega⟩, ?_⟩
    simp only [go_sem, seval, Int.natCast_add, Int.natCast_succ, layV]
  ·have hdec : decide (more ≥ 0) = true := by rw [hmk]; simp
   rw [hdec]
   have hmb : bdm l n more = bd l n + 2 ^ (l.length - mk - 1) := by unfold bdm; rw [hmk, if_neg (by omega), Int.toNat_natCast]
   rcases hpk with rfl | ⟨d, ys, cs, rfl, e1, e2, e3, e4, e5, e6, e7⟩
   ·simp only [go_sem, seval]
    refine cK_of (bin153_nil more S1) ?_
    rintro v S2 _ hL2 ⟨⟨c, rfl⟩, hS2⟩
    obtain rfl := hS2.symm
    simp only [go_sem, seval]
    refine cK_of (insert154_nil S1.next more (S1.new ⟨false, [.int .i64 more]⟩) (by simp [St.blk_new])) ?_
    rintro v S3 _ hL3 ⟨d', rfl, i1, i2, i3⟩
    simp only [go_sem, seval]
    refine hN1 _ _ ⟨hL3, (hk1.new _).trans i3 fun _ _ _ => trivial, _, [more], ⟨sl_prefix (ys := [more]) i1 (Nat.le_refl _) rfl, fun m hm' => ?_, ?_, by simp⟩, ?_⟩
    ·simp at hm'; exact ⟨mk, by rw [hm', hmk], hmk1, hmk2⟩
    ·rw [hmb, hmk]; simp [Go.Proofs.YtegaklgjcicnfaaGreat.wt]
    ·simp only [go_sem, seval, Int.natCast_add, Int.natCast_succ, layV]
   ·simp only [go_sem, seval]
    refine cK_of (bin153 d ys.length 1 more S1 (fun j hj => ⟨ys[j], by
     have := iV_at (xs := ys) hj
     have h2 : (iV cs)[j]? = (iV ys)[j]? := by
      rw [← e3]
      simp only [iV, List.map_take, List.getElem?_take]
      rw [if_pos hj]
     rw [rd_of_blk e1, h2, this]⟩) (by omega)) ?_
    rintro v S2 _ hL2 ⟨⟨at_, c, rfl, hat⟩, hS2⟩
    obtain rfl := hS2.symm
    simp only [go_sem, seval]
    have hdl := hL1 _ _ e1
    have hvd : S1.next ≠ d := by omega
    refine cK_of (insert154 d S1.next at_ cs ys more (S1.new ⟨false, [.int .i64 more]⟩) (by rw [St.blk_new, if_neg (by omega)]; exact e1) e2 e3 (by simp [St.blk_new]) hvd hat (by omega)) ?_
    rintro v S3 _ hL3 ⟨d', rfl, i1, i2, i3⟩
    have hzl : (ys.take at_ ++ more :: ys.drop at_).length = ys.length + 1 := by simp; omega
    simp only [go_sem, seval]
    refine hN1 _ _ ⟨hL3, (hk1.new _).trans i3 fun i hi' _ => by omega, _, ys.take at_ ++ more :: ys.drop at_, ⟨sl_prefix i1 (Nat.le_refl _) List.take_length, fun m hm' => ?_, ?_, by omega⟩, ?_⟩
    ·rcases List.mem_append.1 hm' with h1 | h1
     ·obtain ⟨k, a1, a2, a3, _⟩ := e6 m (List.mem_of_mem_take h1); exact ⟨k, a1, a2, a3⟩
     ·rcases List.mem_cons.1 h1 with h1 | h1
      ·exact ⟨mk, by rw [h1, hmk], hmk1, hmk2⟩
      ·obtain ⟨k, a1, a2, a3, _⟩ := e6 m (List.mem_of_mem_drop h1); exact ⟨k, a1, a2, a3⟩
    ·rw [wt_insert, hmb, hmk, Int.toNat_natCast]
     have := hwt ys e7 e6
     omega
    ·simp only [go_sem, seval, Int.natCast_add, Int.natCast_succ, layV]
 rintro t1 S2 ⟨hL2, hk2, kb, ms, hks, hs⟩
 obtain ⟨ka, ke, rfl⟩ := hks.sl.slice
 simp only [slots_cons, slots_nil, layV] at hs
 simp only [go_sem, seval, hs]
 refine lK_of (fun t' S' => ∃ (j m : Nat) (L O C : Value) (cs : List Value) (os : List Int) (ccs : List Value), j ≤ ms.length ∧ ThreeI l n (bdm l n more) S S' (.slice ka ms.length ke) ms j L O C m cs os ccs ∧
  Slots t' [(0, ptr kp), (1, .int .i64 n), (2, .int .i64 w), (9, .agg #[.bool a, .int .i64 h]), (10, .agg es.toArray), (12, layV (.slice none 0 0) (.slice none 0 0) 0 0 0 0 0 false 0), (13, .bool false), (17, layV L (.slice none 0 0) 0 0 0 0 0 false 0), (18, O), (19, C), (25, undef), (52, .slice ka ms.length ke), (53, .int .i64 ms.length), (54, .int .i64 j)]) (fun t' _ => ms.length - (RowKit.intOf (t' 54)).toNat) ?_ ?_
 ·refine ⟨0, 0, _, _, _, [], [], [], Nat.zero_le _, three_nil hL2 hk2 hks, ?_⟩
  simp only [go_sem, seval, Int.natCast_add, Int.natCast_succ, hs, layV]
 rintro t2 S3 Q1 ⟨j, m, L, O, C, cs, os, ccs, hj, hT, hs2⟩ hL3 hN hE
 obtain ⟨La, Le, rfl⟩ := hT.oL.sl.slice
 obtain ⟨Oa, Oe, rfl⟩ := hT.oO.sl.slice
 obtain ⟨Ca, Ce, rfl⟩ := hT.oC.sl.slice
 simp only [slots_cons, slots_nil, layV] at hs2
 by_cases hjn : j = ms.length
 ·subst hjn
  simp only [go_sem, seval, hs2, Int.lt_irrefl]
  refine hE _ _ _ (by simp) ?_
  simp only [go_sem, seval, hs2, he.B 26, he.N 28]
  refine cK_of (stack155 _ ccs ms.length (bg es 26) S3 hT.oC.sl hT.cb hks.len) ?_
  rintro v S4 _ hL4 ⟨⟨y, e, t1', t2', c1, c2, k, b, rfl, ⟨ya, yn, ye, rfl⟩, hY⟩, hk4⟩
  have hT4 := hT.keeps hL4 hk4
  simp only [go_sem, seval, hs2, pileV]
  refine cK_of (value156 _ _ _) ?_
  rintro v S5 _ hL5 ⟨⟨vm, ok, rfl⟩, hk5⟩
  have hT5 := hT4.keeps hL5 hk5
  cases b
  ·simp only [go_sem, seval, hs2]
   refine fin_at hQ rfl ?_; simp only [go_sem, seval, aF132, hs2]; rw [retQ_some]; simp only [oneOr]
   exact zero _ _ _ (layP_nil _ _ _ _ _) hT5.keep
  cases ok
  ·simp only [go_sem, seval, hs2]
   refine fin_at hQ rfl ?_; simp only [go_sem, seval, aF132, hs2]; rw [retQ_some]; simp only [oneOr]
   exact zero _ _ _ (layP_nil _ _ _ _ _) hT5.keep
  obtain ⟨ys, hyl, hYo, hYf⟩ := hY rfl
  have hYo5 := hYo.keeps hL4 hk5 fun _ _ => trivial
  have hyn : yn = ms.length := by obtain ⟨_, _, h⟩ := hYo.sl.slice; cases h; rfl
  subst hyn
  have hdLy : Dis (.slice La m Le) (.slice ya ms.length ye) := fun i hi hy => by have := own_lt hT.live hT.oL i hi; have := hYf i hy; omega
  simp only [go_sem, seval, hs2]
  refine lK_of (fun t' S' => ∃ (i : Nat) (cs2 : List Value), i ≤ ms.length ∧ KeepsAll S S' ∧ Own S' 26 (.slice La m Le) m cs2 ∧ PlacedAt l n m cs2 ∧ Own S' 1 (.slice Oa ms.length Oe) ms.length (iV os) ∧ Own S' 1 (.slice ya ms.length ye) ms.length (iV ys) ∧
   Slots t' [(10, .agg es.toArray), (12, layV (.slice none 0 0) (.slice none 0 0) 0 0 0 0 0 false 0), (13, .bool false), (17, layV (.slice La m Le) (.slice none 0 0) 0 0 0 0 0 false 0), (25, pileV (.slice ya ms.length ye) e t1' t2' c1 c2 k), (27, .int .i64 vm), (117, .slice Oa ms.length Oe), (118, .int .i64 ms.length), (119, .int .i64 i)]) (fun t' _ => ms.length - (RowKit.intOf (t' 119)).toNat) ?_ ?_
  ·refine ⟨0, cs, Nat.zero_le _, hT5.keep, hT5.oL, hT5.pl, hT5.oO, hYo5, ?_⟩
   simp only [go_sem, seval, Int.natCast_add, Int.natCast_succ, hs2, layV, pileV]
  rintro t3 S6 Q2 ⟨i, cs2, hi, hk6, hL6, hp6, hO6, hY6, hs3⟩ hL6l hN2 hE2
  simp only [slots_cons, slots_nil, layV, pileV] at hs3
  by_cases hin : i = ms.length
  ·subst hin
   simp only [go_sem, seval, hs3, Int.lt_irrefl]
   refine hE2 _ _ _ (by simp) ?_
   have fin : ∀ (hg : Int) (c : Bool), InP l n (bdm l n more) S (.tuple #[layV (.slice La m Le) (.slice ya ms.length ye) e t1' t2' c1 c2 k hg, .bool c]) S6 := fun hg c =>
    zero _ _ _ ⟨_, _, _, _, _, _, _, _, _, m, cs2, rfl, ⟨_, _, _, rfl⟩, hL6.sl, hT.fL, by have h1 := hT.mb; have h2 := hks.wt; rw [List.take_length] at h1; omega, hp6⟩ hk6
   cases k
   ·cases ho : bg es 27
    ·simp only [go_sem, seval, hs3, he.B 27, he.N 28, ho]
     refine cK_of (fits107 _ _) ?_
     rintro v S7 _ hL7 ⟨rfl, hS7⟩
     obtain rfl := hS7.symm
     simp only [go_sem, seval, hs3]
     refine fin_at hQ rfl ?_; simp only [go_sem, seval, aF132, hs3]; rw [retQ_some]; simp only [oneOr]
     exact fin _ _
    ·simp only [go_sem, seval, hs3, he.B 27, he.N 28, ho]
     refine cK_of (fits107 _ _) ?_
     rintro v S7 _ hL7 ⟨rfl, hS7⟩
     obtain rfl := hS7.symm
     simp only [go_sem, seval, hs3]
     refine fin_at hQ rfl ?_; simp only [go_sem, seval, aF132, hs3]; rw [retQ_some]; simp only [oneOr]
     exact fin _ _
   ·simp only [go_sem, seval, hs3, he.B 27, he.N 28]
    refine cK_of (fits107 _ _) ?_
    rintro v S7 _ hL7 ⟨rfl, hS7⟩
    obtain rfl := hS7.symm
    simp only [go_sem, seval, hs3]
    refine fin_at hQ rfl ?_; simp only [go_sem, seval, aF132, hs3]; rw [retQ_some]; simp only [oneOr]
    exact fin _ _
  ·have hil : i < ms.length := by omega
   have hil' : (i : Int) < ms.length := by omega
   have hi0 : (0 : Int) ≤ i := by omega
   have hw1 : IntKind.i64.wrap ((i : Int) + 1) = i + 1 := wrap64_id (by omega) (by have := hks.len; omega)
   obtain ⟨q, hq, hqm⟩ := hT.ob _ (List.getElem_mem (show i < os.length by rw [hT.ol]; exact hil))
   obtain ⟨dO, hvO, hbO, _⟩ := hO6.ne (by omega)
   cases hvO
   obtain ⟨dY, hvY, hbY, _⟩ := hY6.ne (by omega)
   cases hvY
   obtain ⟨dL, hvL, hbL, hlL⟩ := hL6.ne (by omega)
   cases hvL
   have hrO : rd S6 dO i = some (.int .i64 q) := by rw [rd_of_blk hbO, iV_at (show i < os.length by rw [hT.ol]; exact hil), hq]
   have hrY : rd S6 dY i = some (.int .i64 (ys[i]'(by omega))) := by rw [rd_of_blk hbY, iV_at (by omega)]
   have hq0 : (0 : Int) ≤ q := by omega
   have hqm' : (q : Int) < m := by omega
   have hql : q * 26 + 1 + 1 + 1 ≤ cs2.length := by omega
   have hdLO := hT.dLO dL rfl
   have hdLY := hdLy dL rfl
   have hfL := hT.fL dL rfl
   simp only [go_sem, seval, hs3, hil', hi0, Int.toNat_natCast, Nat.mul_one, hrO, hrY, hq0, hqm', hbL, hql, hw1]
   refine hN2 _ _ ⟨i + 1, cs2.set (q * 26 + 2) (.int .i64 (ys[i]'(by omega))), by omega, hk6.set (fun x hx _ => by omega) _, ?_, hp6.set _, hO6.keep fun x hx => ?_, hY6.keep fun x hx => ?_, ?_⟩ ?_
   ·exact .inr ⟨dL, rfl, blk_set_self _ _ _, by rw [List.length_set]; exact hlL⟩
   ·rw [St.blk_set, if_neg fun e' => hdLO (by rw [← e']; exact hx)]
   ·rw [St.blk_set, if_neg fun e' => hdLY (by rw [← e']; exact hx)]
   ·simp only [go_sem, seval, Int.natCast_add, Int.natCast_succ, hs3, layV, pileV]
   ·simp only [go_sem, seval, hs3]
    simp [RowKit.intOf]
    omega
 ·have hjl : j < ms.length := by omega
  have hjl' : (j : Int) < ms.length := by omega
  have hj0 : (0 : Int) ≤ j := by omega
  have hw1 : IntKind.i64.wrap ((j : Int) + 1) = j + 1 := wrap64_id (by omega) (by have := hks.len; omega)
  obtain ⟨k, hk, hkn, hkl⟩ := hks.mem _ (List.getElem_mem hjl)
  obtain ⟨kd, ko, ke', hv, _, hcc⟩ := hT.kids.sl.ne (by omega)
  cases hv
  have hr := Sl.i hT.kids.sl rfl (by omega) hjl
  rw [hk] at hr
  have hK3 := hK.keeps hh hT.keep
  have hh3 := Nat.le_trans hh hT.keep.1
  have hsty := sty_fl (hok _ (List.getElem_mem hn)).s
  simp only [go_sem, seval, hs2, hjl', hj0, Int.toNat_natCast, Nat.mul_one, hr]
  refine cK_of (style55 hK3 hok hn) ?_
  rintro v S4 _ hL4 ⟨rfl, hS4⟩
  obtain rfl := hS4.symm
  generalize hsc : l[n].s.cells = sc at *
  simp only [go_sem, seval, hs2, hsty.N 48, hsty.B 42, z99]
  refine cK_of (hbox k hkn hkl S3 w h a (bg sc 42) hK3 hh3) ?_
  rintro v S4 _ hL4 ⟨⟨fs, v, b, rfl, hf, L', y', e', t1', t2', c1', c2', k', high', m', cs', rfl, ⟨ya, yi, yj, rfl⟩, g1, g2, g3, g4⟩, hk4⟩
  obtain ⟨L'a, L'e, rfl⟩ := g1.slice
  have hT4 := hT.keeps hL4 hk4
  cases b
  ·simp only [go_sem, seval, hs2, layV, hf.N 25, hf.F 25]
   refine hE _ _ _ (by simp) ?_
   simp only [go_sem, seval, hs2]
   refine fin_at hQ rfl ?_; simp only [go_sem, seval, aF132, hs2]; rw [retQ_some]; simp only [oneOr]
   exact zero _ _ _ (layP_nil _ _ _ _ _) hT4.keep
  ·have hjm := hks.len
   have hmm : m ≤ 33554432 := by have h1 := hT.mb; have h2 := wt_take_le (l := l) ms j; have h3 := hks.wt; omega
   have hmm' : m' ≤ 8388608 := by
    have h1 : 2 ^ (l.length - k - 1) ≤ 2 ^ 23 := Nat.pow_le_pow_right (by omega) (by omega)
    unfold bd at g3
    omega
   simp only [go_sem, seval, hs2, layV, hf.N 25, hf.F 25]
   refine hK_of (appN hT4.live (by omega) hT4.oO rfl (by omega)) ?_
   rintro v1 S5 ⟨⟨a1, e1, rfl⟩, A1⟩
   have hz1 : (z138.set 0 (Value.int .i64 (k : Int))).length = 26 := by rw [List.length_set]; rfl
   have hw2 : Go.Proofs.YtegaklgjcicnfaaGreat.Abs.ow (z138.set 0 (Value.int .i64 (k : Int))) 1 fs = Value.int .i64 (k : Int) :: fs := by
    rw [ow_eq _ _ _ (by have := hf.N 25; omega), hf.N 25, List.drop_of_length_le (by omega)]
    simp [z138]
   have hp1 : (Value.int .i64 (k : Int) :: fs).length = 26 := by rw [List.length_cons, hf.N 25]
   have hw3 : Go.Proofs.YtegaklgjcicnfaaGreat.Abs.ow z138 0 (Value.int .i64 (k : Int) :: fs) = Value.int .i64 (k : Int) :: fs := by
    rw [ow_eq _ _ _ (by rw [hp1]; exact Nat.le_refl _), hp1, List.drop_of_length_le (by exact Nat.le_refl _)]
    simp
   have hw4 : (Value.int .i64 (k : Int) :: fs).take 26 = Value.int .i64 (k : Int) :: fs := List.take_of_length_le (by omega)
   have hz0 : z138.length = 26 := rfl
   obtain ⟨X, hX⟩ : ∃ X, X = Value.int .i64 (k : Int) :: fs := ⟨_, rfl⟩
   rw [← hX] at hw2 hp1 hw3 hw4
   simp only [go_sem, seval, hs2, hf.N 25, hf.F 25, hz1, hw2, hw3, hw4, hp1, hz0]
   refine hK_of (appN A1.live (by omega) (A1.other hT4.live hT4.oL hT4.dLO.symm) hp1 (by omega)) ?_
   rintro v2 S6 ⟨⟨a2, e2, rfl⟩, A2⟩
   simp only [go_sem, seval, hs2]
   have hlO : ∀ i, Value.blkOf (.slice Oa j Oe) = some i → i < S3.next := own_lt hT.live hT.oO
   have hlL : ∀ i, Value.blkOf (.slice La m Le) = some i → i < S3.next := own_lt hT.live hT.oL
   have hL'5 := g1.keeps hL4 A1.keep fun i hi hx => by have := g2 i hi; have := hlO i hx; omega
   have hL'6 := hL'5.keeps A1.live A2.keep fun i hi hx => by have := g2 i hi; have := hlL i hx; omega
   refine hK_of (appS A2.live (by omega) A2.own hL'6 (by omega)) ?_
   rintro v3 S7 ⟨⟨a3, e3, rfl⟩, A3⟩
   obtain ⟨z0, z1, z2, z3, z4, z5, z6, z7, hcz⟩ := child_eq (hf.sub 17 8)
   simp only [go_sem, seval, hs2, hf.N 25, hcz]
   have hC5 := A1.other hT4.live hT4.oC hT4.dOC
   have hC6 := A2.other A1.live hC5 hT4.dLC
   have hlC : ∀ i, Value.blkOf (.slice Ca j Ce) = some i → i < S4.next := own_lt hT4.live hT4.oC
   have hC7 := A3.other A2.live hC6 (A2.dis (fun i hi => Nat.lt_of_lt_of_le (hlC i hi) A1.keep.1) hT4.dLC)
   refine hK_of (appN A3.live (by omega) hC7 rfl (by omega)) ?_
   rintro v4 S8 ⟨⟨a4, e4, rfl⟩, A4⟩
   simp only [go_sem, seval, hs2, hw1]
   subst hX
   refine hN _ _ ⟨j + 1, m + 1 + m', _, _, _, _, _, _, by omega, hT4.step hjl hk hkn hkl A1 A2 A3 A4 hf (by trivial) g4 g3, ?_⟩ ?_
   ·simp only [go_sem, seval, Int.natCast_add, Int.natCast_succ, hs2, layV]
   ·simp only [go_sem, seval, hs2]
    simp [RowKit.intOf]
    omega
end
end Go.Proofs.YtegaklgjcicnfaaGreat
namespace Go.Proofs.YtegaklgjcicnfaaGreat
open Go Go.Proofs.YtegaklgjcicnfaaGreat.Abs
section
variable {hi kp : Nat} {l : List Nd}
theorem bdm_none (n : Nat) : bdm l n (-1) = bd l n := by simp [bdm]
theorem box_all (hok : ∀ x ∈ l, x.Ok) (hl : l.length ≤ 24) : ∀ (d n : Nat), n < l.length → l.length - n ≤ d → ∀ (S : St) (w h : Int) (a rtl : Bool), KinAt S hi kp l → hi ≤ S.next → ACalls Tryz.prog 68 [ptr kp, .int .i64 n, .int .i64 w, .agg #[.bool a, .int .i64 h], .bool rtl] S (BoxP l n S)
 | 0, n, hn, hd, S, w, h, a, rtl, hK, hh => by omega
 | d + 1, n, hn, hd, S, w, h, a, rtl, hK, hh => by
  refine box68 n hok hn (by omega) (fun S' w' h' a' es hK' hh' he => ?_) S w h a rtl hK hh
  have := inside132 n hok hn hl (fun k hk hkl S2 w2 h2 a2 r2 hK2 hh2 => box_all hok hl d k hkl (by omega) S2 w2 h2 a2 r2 hK2 hh2) (-1) (.inl rfl) S' w' h' a' es hK' hh' he
  rw [bdm_none] at this
  exact this
theorem box_any (hok : ∀ x ∈ l, x.Ok) (hl : l.length ≤ 24) (n : Nat) (hn : n < l.length) (S : St) (w h : Int) (a rtl : Bool) (hK : KinAt S hi kp l) (hh : hi ≤ S.next) : ACalls Tryz.prog 68 [ptr kp, .int .i64 n, .int .i64 w, .agg #[.bool a, .int .i64 h], .bool rtl] S (BoxP l n S) :=
 box_all hok hl l.length n hn (by omega) S w h a rtl hK hh
theorem inside_any (hok : ∀ x ∈ l, x.Ok) (hl : l.length ≤ 24) (n : Nat) (hn : n < l.length) (more : Int) (hm : more = -1 ∨ ∃ k : Nat, more = k ∧ n < k ∧ k < l.length) (S : St) (w h : Int) (a : Bool) (es : List Value) (hK : KinAt S hi kp l) (hh : hi ≤ S.next) (he : Fl edgeSg es) :
  ACalls Tryz.prog 132 [ptr kp, .int .i64 n, .int .i64 w, .agg #[.bool a, .int .i64 h], .agg es.toArray, .int .i64 more] S (InP l n (bdm l n more) S) :=
 inside132 n hok hn hl (fun k _ hkl S2 w2 h2 a2 r2 hK2 hh2 => box_any hok hl k hkl S2 w2 h2 a2 r2 hK2 hh2) more hm S w h a es hK hh he
theorem box40 (hok : ∀ x ∈ l, x.Ok) (hl : l.length ≤ 24) (n : Nat) (hn : n < l.length) (S : St) (w h : Int) (a rtl : Bool) (hK : KinAt S hi kp l) (hh : hi ≤ S.next) : ACalls Tryz.prog 40 [ptr kp, .int .i64 n, .int .i64 w, .agg #[.bool a, .int .i64 h], .bool rtl] S (BoxP l n S) := by
 refine run_of hmix Tryz.func40 cF40 rfl fun hL Q hQ => ?_
 have zero : BoxP l n S (.tuple #[.agg (List.toArray z99), layV (.slice none 0 0) (.slice none 0 0) 0 0 0 0 0 false 0, .bool false]) S := ⟨⟨_, _, _, rfl, z99_fl, layP_nil _ _ _ _ _⟩, Keeps.refl _ _⟩
 simp only [go_sem, seval, aF40]
 refine cK_of (made39 hK hn) ?_
 rintro v S1 _ hL1 ⟨rfl, hS1⟩
 obtain rfl := hS1.symm
 cases madeL l n
 ·simp only [go_sem, seval]
  refine fin_at hQ rfl ?_; simp only [go_sem, seval, aF40]; rw [retQ_some]; simp only [oneOr]
  exact zero
 ·simp only [go_sem, seval]
  refine cK_of (may67 _ _ _ _) ?_
  rintro v S1 _ hL1 ⟨⟨c, rfl⟩, hS1⟩
  obtain rfl := hS1.symm
  cases c
  ·simp only [go_sem, seval]
   refine fin_at hQ rfl ?_; simp only [go_sem, seval, aF40]; rw [retQ_some]; simp only [oneOr]
   exact zero
  ·simp only [go_sem, seval]
   refine cK_of (box_any hok hl n hn S w h a rtl hK hh) ?_
   rintro v S2 _ hL2 ⟨⟨fs, v, b, rfl, hf, L, y, e, t1, t2, c1, c2, k, high, m, cs', rfl, ⟨ya, yi, yj, rfl⟩, g1, g2, g3, g4⟩, hk⟩
   obtain ⟨La, Le, rfl⟩ := g1.slice
   simp only [go_sem, seval, layV, hf.N 25, hf.F 25]
   refine fin_at hQ rfl ?_; simp only [go_sem, seval, aF40, hf.N 25, hf.F 25]; rw [retQ_some]; simp only [oneOr]
   exact ⟨⟨_, _, _, rfl, hf, _, _, _, _, _, _, _, _, _, m, cs', rfl, ⟨_, _, _, rfl⟩, g1, g2, g3, g4⟩, hk⟩
theorem inside118 (hok : ∀ x ∈ l, x.Ok) (hl : l.length ≤ 24) (n : Nat) (hn : n < l.length) (S : St) (w h : Int) (a : Bool) (hK : KinAt S hi kp l) (hh : hi ≤ S.next) : ACalls Tryz.prog 118 [ptr kp, .int .i64 n, .int .i64 w, .agg #[.bool a, .int .i64 h]] S (InP l n (bd l n) S) := by
 refine run_of hmix Tryz.func118 cF118 rfl fun hL Q hQ => ?_
 have zero : InP l n (bd l n) S (.tuple #[layV (.slice none 0 0) (.slice none 0 0) 0 0 0 0 0 false 0, .bool false]) S := ⟨⟨_, _, rfl, layP_nil _ _ _ _ _⟩, Keeps.refl _ _⟩
 simp only [go_sem, seval, aF118]
 refine cK_of (out44 hK hok hn) ?_
 rintro v S1 _ hL1 ⟨rfl, hS1⟩
 obtain rfl := hS1.symm
 cases outL l n
 ·simp only [go_sem, seval]
  refine fin_at hQ rfl ?_; simp only [go_sem, seval, aF118]; rw [retQ_some]; simp only [oneOr]
  exact zero
 ·simp only [go_sem, seval]
  refine cK_of (may67 _ _ _ _) ?_
  rintro v S1 _ hL1 ⟨⟨c, rfl⟩, hS1⟩
  obtain rfl := hS1.symm
  cases c
  ·simp only [go_sem, seval]
   refine fin_at hQ rfl ?_; simp only [go_sem, seval, aF118]; rw [retQ_some]; simp only [oneOr]
   exact zero
  ·simp only [go_sem, seval]
   have := inside_any hok hl n hn (-1) (.inl rfl) S w h a (z168.set 24 (.bool true)) hK hh (by trivial)
   rw [bdm_none] at this
   refine cK_of this ?_
   rintro v S2 _ hL2 ⟨⟨v, b, rfl, L, y, e, t1, t2, c1, c2, k, high, m, cs', rfl, ⟨ya, yi, yj, rfl⟩, g1, g2, g3, g4⟩, hk⟩
   obtain ⟨La, Le, rfl⟩ := g1.slice
   simp only [go_sem, seval, layV]
   refine fin_at hQ rfl ?_; simp only [go_sem, seval, aF118]; rw [retQ_some]; simp only [oneOr]
   exact ⟨⟨_, _, rfl, _, _, _, _, _, _, _, _, _, m, cs', rfl, ⟨_, _, _, rfl⟩, g1, g2, g3, g4⟩, hk⟩
theorem par_nat (hf : TForm l) {k : Nat} (h0 : 0 < k) (hk : k < l.length) : ∃ p : Nat, par l k = p ∧ p < k :=
 ⟨(par l k).toNat, by
  have htr := hf.1.2.tr k hk
  have := sh_in (P := par l) (k := k) (fun i hi => hf.1.2 i (by omega)) h0 ((hf.1.2 k hk).2 h0)
  omega, by
  have htr := hf.1.2.tr k hk
  omega⟩
set_option maxHeartbeats 1000000 in
theorem with166 (hok : ∀ x ∈ l, x.Ok) (hform : TForm l) (hl : l.length ≤ 24) (n : Nat) (hn : n < l.length) (S : St) (w h : Int) (a op : Bool) (hK : KinAt S hi kp l) (hh : hi ≤ S.next) : ACalls Tryz.prog 166 [ptr kp, .int .i64 n, .int .i64 w, .agg #[.bool a, .int .i64 h], .bool op] S
  fun r S' => (∃ fs b, r = .tuple #[.agg (List.toArray fs), .bool b] ∧ Fl frameSg fs) ∧ KeepsAll S S' := by
 refine run_of hmix Tryz.func166 cF166 rfl fun hL Q hQ => ?_
 have zero : ∀ S', KeepsAll S S' → (∃ fs b, Value.tuple #[.agg (List.toArray z99), .bool false] = .tuple #[.agg (List.toArray fs), .bool b] ∧ Fl frameSg fs) ∧ KeepsAll S S' := fun S' hk => ⟨⟨_, _, rfl, z99_fl⟩, hk⟩
 simp only [go_sem, seval, aF166]
 refine cK_of (out44 hK hok hn) ?_
 rintro v S1 _ hL1 ⟨rfl, hS1⟩
 obtain rfl := hS1.symm
 cases ho : outL l n
 ·simp only [go_sem, seval]
  refine fin_at hQ rfl ?_; simp only [go_sem, seval, aF166]; rw [retQ_some]; simp only [oneOr]
  exact zero _ (Keeps.refl _ _)
 have hn0 : 0 < n := by
  unfold outL at ho
  simp at ho
  exact ho.2.1
 obtain ⟨p, hp, hpn⟩ := par_nat hform hn0 hn
 simp only [go_sem, seval]
 refine cK_of (may67 _ _ _ _) ?_
 rintro v S1 _ hL1 ⟨⟨c, rfl⟩, hS1⟩
 obtain rfl := hS1.symm
 cases c
 ·simp only [go_sem, seval]
  refine fin_at hQ rfl ?_; simp only [go_sem, seval, aF166]; rw [retQ_some]; simp only [oneOr]
  exact zero _ (Keeps.refl _ _)
 simp only [go_sem, seval]
 refine cK_of (parent70 hK hok hn) ?_
 rintro v S1 _ hL1 ⟨rfl, hS1⟩
 obtain rfl := hS1.symm
 rw [hp]
 simp only [go_sem, seval]
 refine cK_of (inside_any hok hl p (by omega) n (.inr ⟨n, rfl, hpn, hn⟩) S w h a ((z168.set 24 (.bool !op)).set 26 (.bool op)) hK hh (by trivial)) ?_
 rintro v S2 _ hL2 ⟨⟨v, b, rfl, L, y, e, t1, t2, c1, c2, k, high, m, cs, rfl, ⟨ya, yi, yj, rfl⟩, g1, g2, g3, g4⟩, hk2⟩
 obtain ⟨La, Le, rfl⟩ := g1.slice
 cases b
 ·simp only [go_sem, seval, layV, LO.clr, LO.tgt, Option.getD_none, Env.clr_nil]
  refine fin_at hQ rfl ?_; simp only [go_sem, seval, aF166, LO.clr, LO.tgt, Option.getD_none, Env.clr_nil]; rw [retQ_some]; simp only [oneOr]
  exact zero _ hk2
 have hmm : m ≤ 33554432 := Nat.le_trans g3 (bdm_le hl)
 simp only [go_sem, seval, layV, LO.clr, LO.tgt, Option.getD_none, Env.clr_nil]
 refine lK_of (fun t' S' => S' = S2 ∧ ∃ j : Nat, j ≤ m ∧ Slots t' [(1, .int .i64 n), (10, .agg z99.toArray), (11, .bool false), (46, .slice La m Le), (47, .int .i64 m), (48, .int .i64 j)]) (fun t' _ => m - (RowKit.intOf (t' 48)).toNat) ?_ ?_
 ·refine ⟨rfl, 0, Nat.zero_le _, ?_⟩
  simp only [go_sem, seval, Int.natCast_add, Int.natCast_succ]
 rintro t1 S3 Q1 ⟨rfl, j, hj, hs⟩ hL3 hN hE
 simp only [slots_cons, slots_nil] at hs
 by_cases hjn : j = m
 ·subst hjn
  simp only [go_sem, seval, hs, Int.lt_irrefl]
  refine hE _ _ _ (by simp) ?_
  simp only [go_sem, seval, hs]
  refine fin_at hQ rfl ?_; simp only [go_sem, seval, aF166, hs]; rw [retQ_some]; simp only [oneOr]
  exact zero _ hk2
 ·have hjl : (j : Int) < m := by omega
  have hj0 : (0 : Int) ≤ j := by omega
  have hw1 : IntKind.i64.wrap ((j : Int) + 1) = j + 1 := wrap64_id (by omega) (by omega)
  obtain ⟨d, o, f, hv, _, hcc⟩ := g1.ne (by omega)
  cases hv
  obtain ⟨hfp, _⟩ := g4 j (by omega)
  have hx : cellsOf S3 d (o + j * 26) 26 = some ((cs.drop (j * 26)).take 26) := by rw [cellsOf_of_cells hcc (by omega)]
  generalize (cs.drop (j * 26)).take 26 = c26 at *
  have hff : Fl frameSg ((c26.drop 1).take 25) := hfp.sub 1 25
  cases hc : ig c26 0 == n
  ·simp only [go_sem, seval, hs, hjl, hj0, Int.toNat_natCast, hx, hfp.N 26, hfp.F 26, hfp.I 0, hc, hw1]
   refine hN _ _ ⟨rfl, j + 1, by omega, ?_⟩ ?_
   ·simp only [go_sem, seval, Int.natCast_add, Int.natCast_succ, hs]
   ·simp only [go_sem, seval, hs]
    simp [RowKit.intOf]
    omega
  ·simp only [go_sem, seval, hs, hjl, hj0, Int.toNat_natCast, hx, hfp.N 26, hfp.F 26, hfp.I 0, hc, hff.N 25, hff.F 25]
   refine hE _ _ _ (by simp) ?_
   simp only [go_sem, seval, hs]
   refine fin_at hQ rfl ?_; simp only [go_sem, seval, aF166, hs, hff.N 25, hff.F 25]; rw [retQ_some]; simp only [oneOr]
   exact ⟨⟨_, _, rfl, hff⟩, hk2⟩
theorem top141 (hok : ∀ x ∈ l, x.Ok) (hform : TForm l) (hl : l.length ≤ 24) (n : Nat) (hn : n < l.length) (S : St) (w h : Int) (a op : Bool) (hK : KinAt S hi kp l) (hh : hi ≤ S.next) : ACalls Tryz.prog 141 [ptr kp, .int .i64 n, .int .i64 w, .agg #[.bool a, .int .i64 h], .bool op] S (NK S) := by
 refine run_of hmix Tryz.func141 cF141 rfl fun hL Q hQ => ?_
 simp only [go_sem, seval, aF141]
 refine cK_of (with166 hok hform hl n hn S w h a op hK hh) ?_
 rintro v S2 _ hL2 ⟨⟨fs, b, rfl, hf⟩, hk2⟩
 cases b
 ·simp only [go_sem, seval, hf.N 25, hf.F 25, z99]
  refine fin_at hQ rfl ?_; simp only [go_sem, seval, aF141]; rw [retQ_some]; simp only [oneOr]
  exact ⟨⟨_, _, rfl⟩, hk2⟩
 ·simp only [go_sem, seval, hf.N 25, hf.F 25, z99, hf.I 1, hf.I 4]
  refine cK_of (sum109 _ [ig fs 1, IntKind.i64.wrap (0 - ig fs 4)] _ (sl_new _ [ig fs 1, IntKind.i64.wrap (0 - ig fs 4)]) (by simp)) ?_
  rintro v S3 _ hL3 ⟨⟨m, c, rfl, _⟩, rfl⟩
  simp only [go_sem, seval]
  refine fin_at hQ rfl ?_; simp only [go_sem, seval, aF141]; rw [retQ_some]; simp only [oneOr]
  exact ⟨⟨_, _, rfl⟩, hk2.new _⟩
end
theorem asked140 (cs : List Value) (S : St) (hs : Fl styleSg cs) : ACalls Tryz.prog 140 [.agg cs.toArray] S fun r S' => r = .bool (ig cs 2 == 0 && ig cs 6 == 0) ∧ S' = S := by
 refine run_of hmix Tryz.func140 cF140 rfl fun hL Q hQ => ?_
 cases h0 : ig cs 2 == 0
 ·simp only [go_sem, seval, aF140, hs.N 48, hs.F 48, hs.I 2, h0]
  refine fin_at hQ rfl ?_; simp only [go_sem, seval, aF140]; rw [retQ_some]; simp only [oneOr]
  exact ⟨by simp [h0], trivial⟩
 ·simp only [go_sem, seval, aF140, hs.N 48, hs.F 48, hs.I 2, hs.I 6, h0]
  refine fin_at hQ rfl ?_; simp only [go_sem, seval, aF140]; rw [retQ_some]; simp only [oneOr]
  exact ⟨by simp [h0], trivial⟩
theorem pick108 (a b : Bool) (m n : Int) (t : Bool) (S : St) : ACalls Tryz.prog 108 [.agg #[.bool a, .int .i64 m], .agg #[.bool b, .int .i64 n], .bool t] S fun r S' => (∃ k, r = .int .i64 k) ∧ S' = S := by
 refine run_of hmix Tryz.func108 cF108 rfl fun hL Q hQ => ?_
 cases a <;> cases b <;> cases t <;> simp only [go_sem, seval, aF108]
 all_goals first
  | (refine fin_at hQ rfl ?_; simp only [go_sem, seval, aF108]; rw [retQ_some]; simp only [oneOr]; exact ⟨⟨_, rfl⟩, trivial⟩)
  | (refine cK_of (or128' _ _ _) ?_
     rintro v S1 _ hL1 ⟨rfl, hS1⟩
     obtain rfl := hS1.symm
     simp only [go_sem, seval]
     refine fin_at hQ rfl ?_; simp only [go_sem, seval, aF108]; rw [retQ_some]; simp only [oneOr]
     exact ⟨⟨_, rfl⟩, trivial⟩)
theorem lens4_eq {ds : List Value} (h : Fl lens4 ds) : ∃ a b c d e f g i, ds = [.int .i64 a, .int .i64 b, .int .i64 c, .int .i64 d, .int .i64 e, .int .i64 f, .int .i64 g, .int .i64 i] := by
 obtain ⟨a, r1, rfl, h1⟩ := Fl.invI h
 obtain ⟨b, r2, rfl, h2⟩ := Fl.invI h1
 obtain ⟨c, r3, rfl, h3⟩ := Fl.invI h2
 obtain ⟨d, r4, rfl, h4⟩ := Fl.invI h3
 obtain ⟨e, r5, rfl, h5⟩ := Fl.invI h4
 obtain ⟨f, r6, rfl, h6⟩ := Fl.invI h5
 obtain ⟨g, r7, rfl, h7⟩ := Fl.invI h6
 obtain ⟨i, r8, rfl, h8⟩ := Fl.invI h7
 obtain rfl := h8.nil
 exact ⟨_, _, _, _, _, _, _, _, rfl⟩
set_option maxHeartbeats 2000000 in
theorem by72 (cs : List Value) (w n : Int) (a rtl : Bool) (S : St) (hs : Fl styleSg cs) : ACalls Tryz.prog 72 [.agg cs.toArray, .int .i64 w, .agg #[.bool a, .int .i64 n], .bool rtl] S fun r S' => (∃ x y b, r = .tuple #[.int .i64 x, .int .i64 y, .bool b]) ∧ S' = S := by
 refine run_of hmix Tryz.func72 cF72 rfl fun hL Q hQ => ?_
 cases h1 : ig cs 1 != 1
 case' true =>
  simp only [go_sem, seval, aF72, hs.N 48, hs.F 48, hs.I 1, h1]
  refine fin_at hQ rfl ?_; simp only [go_sem, seval, aF72]; rw [retQ_some]; simp only [oneOr]
  exact ⟨⟨_, _, _, rfl⟩, trivial⟩
 obtain ⟨a0, a1, a2, a3, a4, a5, a6, a7, hof⟩ := lens4_eq (hs.sub 2 8)
 simp only [go_sem, seval, aF72, hs.N 48, hs.F 48, hs.I 1, h1, hof]
 refine lK_keep [1,3,6,11,22,23] fun t1 hk' => ?_; simp only [go_sem, seval] at hk'; have hk := hk'; clear hk'
 refine lK_unroll ?_
 simp only [go_sem, seval, hk]
 refine cK_of (of101 _ _ _ _ _) ?_
 rintro v S1 _ hL1 ⟨⟨b0, n0, k, rfl, _⟩, hS1⟩
 obtain rfl := hS1.symm
 cases k
 ·simp only [go_sem, seval, hk]
  refine fin_at hQ rfl ?_; simp only [go_sem, seval, aF72, hk]; rw [retQ_some]; simp only [oneOr]
  exact ⟨⟨_, _, _, rfl⟩, trivial⟩
 simp only [go_sem, seval, hk]
 refine lK_keep [1,3,6,11,22,23] fun t1 hk' => ?_; simp only [go_sem, seval, hk] at hk'; clear hk; have hk := hk'; clear hk'
 refine lK_unroll ?_
 simp only [go_sem, seval, hk]
 refine cK_of (of101 _ _ _ _ _) ?_
 rintro v S1 _ hL1 ⟨⟨b1, n1, k, rfl, _⟩, hS1⟩
 obtain rfl := hS1.symm
 cases k
 ·simp only [go_sem, seval, hk]
  refine fin_at hQ rfl ?_; simp only [go_sem, seval, aF72, hk]; rw [retQ_some]; simp only [oneOr]
  exact ⟨⟨_, _, _, rfl⟩, trivial⟩
 simp only [go_sem, seval, hk]
 refine lK_keep [1,3,6,11,22,23] fun t1 hk' => ?_; simp only [go_sem, seval, hk] at hk'; clear hk; have hk := hk'; clear hk'
 refine lK_unroll ?_
 simp only [go_sem, seval, hk]
 refine cK_of (of101 _ _ _ _ _) ?_
 rintro v S1 _ hL1 ⟨⟨b2, n2, k, rfl, _⟩, hS1⟩
 obtain rfl := hS1.symm
 cases k
 ·simp only [go_sem, seval, hk]
  refine fin_at hQ rfl ?_; simp only [go_sem, seval, aF72, hk]; rw [retQ_some]; simp only [oneOr]
  exact ⟨⟨_, _, _, rfl⟩, trivial⟩
 simp only [go_sem, seval, hk]
 refine lK_keep [1,3,6,11,22,23] fun t1 hk' => ?_; simp only [go_sem, seval, hk] at hk'; clear hk; have hk := hk'; clear hk'
 refine lK_unroll ?_
 simp only [go_sem, seval, hk]
 refine cK_of (of101 _ _ _ _ _) ?_
 rintro v S1 _ hL1 ⟨⟨b3, n3, k, rfl, _⟩, hS1⟩
 obtain rfl := hS1.symm
 cases k
 ·simp only [go_sem, seval, hk]
  refine fin_at hQ rfl ?_; simp only [go_sem, seval, aF72, hk]; rw [retQ_some]; simp only [oneOr]
  exact ⟨⟨_, _, _, rfl⟩, trivial⟩
 simp only [go_sem, seval, hk]
 refine lK_keep [1,3,6,11,22,23] fun t1 hk' => ?_; simp only [go_sem, seval, hk] at hk'; clear hk; have hk := hk'; clear hk'
 refine lK_unroll ?_
 simp only [go_sem, seval, hk]
 refine cK_of (pick108 _ _ _ _ _ _) ?_
 rintro v S1 _ hL1 ⟨⟨k1, rfl⟩, hS1⟩
 obtain rfl := hS1.symm
 simp only [go_sem, seval, hk]
 refine cK_of (pick108 _ _ _ _ _ _) ?_
 rintro v S1 _ hL1 ⟨⟨k2, rfl⟩, hS1⟩
 obtain rfl := hS1.symm
 simp only [go_sem, seval, hk]
 refine fin_at hQ rfl ?_; simp only [go_sem, seval, aF72, hk]; rw [retQ_some]; simp only [oneOr]
 exact ⟨⟨_, _, _, rfl⟩, trivial⟩
theorem units135 (k m n : Int) (S : St) : ACalls Tryz.prog 135 [.agg #[.int .i64 k, .int .i64 m], .int .i64 n] S fun r S' => (∃ k, r = .int .i64 k) ∧ S' = S := by
 refine run_of hmix Tryz.func135 cF135 rfl fun hL Q hQ => ?_
 cases h0 : k == 1
 ·simp only [go_sem, seval, aF135, h0]
  refine fin_at hQ rfl ?_; simp only [go_sem, seval, aF135]; rw [retQ_some]; simp only [oneOr]
  exact ⟨⟨_, rfl⟩, trivial⟩
 ·simp only [go_sem, seval, aF135, h0]
  refine fin_at hQ rfl ?_; simp only [go_sem, seval, aF135]; rw [retQ_some]; simp only [oneOr]
  exact ⟨⟨_, rfl⟩, trivial⟩
end Go.Proofs.YtegaklgjcicnfaaGreat
namespace Go.Proofs.YtegaklgjcicnfaaGreat
open Go Go.Proofs.YtegaklgjcicnfaaGreat.Abs
section
variable {hi kp : Nat} {l : List Nd}
set_option maxHeartbeats 2000000 in
theorem outer136 (hok : ∀ x ∈ l, x.Ok) (n : Nat) (hn : n < l.length) (hc : ∀ S, KinAt S hi kp l → hi ≤ S.next → ACalls Tryz.prog 114 [ptr kp, .int .i64 n] S (NK S)) (S : St) (hK : KinAt S hi kp l) (hh : hi ≤ S.next) : ACalls Tryz.prog 136 [ptr kp, .int .i64 n] S (NK S) := by
 refine run_of hmix Tryz.func136 cF136 rfl fun hL Q hQ => ?_
 have hs := sty_fl (hok _ (List.getElem_mem hn)).s
 simp only [go_sem, seval, aF136]
 refine cK_of (hc S hK hh) ?_
 rintro v S1 _ hL1 ⟨⟨m, ok, rfl⟩, hk1⟩
 simp only [go_sem, seval]
 refine cK_of (style55 (hK.keeps hh hk1) hok hn) ?_
 rintro v S2 _ hL2 ⟨rfl, hS2⟩
 obtain rfl := hS2.symm
 generalize hcs : l[n].s.cells = cs at *
 simp only [go_sem, seval, hs.N 48, hs.F 48, z39]
 have hb2 : ((S1.new ⟨false, [.int .i64 m]⟩).new ⟨false, [.int .i64 3, .int .i64 1]⟩).blk (S1.next + 1) = some ⟨false, iV [3, 1]⟩ := by rw [St.blk_new, if_pos (by rw [St.next_new])]; rfl
 have hb1 : ((S1.new ⟨false, [.int .i64 m]⟩).new ⟨false, [.int .i64 3, .int .i64 1]⟩).blk S1.next = some ⟨false, iV [m]⟩ := by rw [St.blk_new, if_neg (by rw [St.next_new]; omega), St.blk_new, if_pos rfl]; rfl
 have hkk : KeepsAll S ((S1.new ⟨false, [.int .i64 m]⟩).new ⟨false, [.int .i64 3, .int .i64 1]⟩) := (hk1.new _).new _
 have hLL : Live ((S1.new ⟨false, [.int .i64 m]⟩).new ⟨false, [.int .i64 3, .int .i64 1]⟩) := (hL1.new _).new _
 have hSn : S.next ≤ S1.next := hk1.1
 refine lK_of (fun t' S' => Live S' ∧ KeepsAll S S' ∧ ∃ (j : Nat) (x : Value) (xs : List Int), j ≤ 2 ∧ xs.length = 1 + 3 * j ∧ Own S' 1 x xs.length (iV xs) ∧ S'.blk (S1.next + 1) = some ⟨false, iV [3, 1]⟩ ∧ Value.blkOf x ≠ some (S1.next + 1) ∧ (∀ i, Value.blkOf x = some i → S.next ≤ i) ∧
  Slots t' [(4, .int .i64 0), (5, .bool false), (7, .bool ok), (8, .agg cs.toArray), (9, x), (25, .slice (some ⟨S1.next + 1, 0, none⟩) 2 1), (26, .int .i64 2), (27, .int .i64 j)]) (fun t' _ => 2 - (RowKit.intOf (t' 27)).toNat) ?_ ?_
 ·refine ⟨hLL, hkk, 0, .slice (some ⟨S1.next, 0, none⟩) 1 1, [m], by omega, rfl, .inr ⟨S1.next, rfl, hb1, rfl⟩, hb2, by simp [Value.blkOf], fun i hi => by simp [Value.blkOf] at hi; omega, ?_⟩
  simp only [go_sem, seval, Int.natCast_add, Int.natCast_succ]
 rintro t1 S2 Q1 ⟨hL2, hk2, j, x, xs, hj, hxl, hx, hb, hxd, hxf, hs2⟩ _ hN hE
 obtain ⟨xa, xe, rfl⟩ := hx.sl.slice
 simp only [slots_cons, slots_nil] at hs2
 by_cases hj2 : j = 2
 ·subst hj2
  simp only [go_sem, seval, hs2, Int.lt_irrefl]
  refine hE _ _ _ (by simp) ?_
  simp only [go_sem, seval, hs2]
  refine cK_of (sum109 _ xs _ hx.sl (by omega)) ?_
  rintro v S3 _ hL3 ⟨⟨m3, c3, rfl, _⟩, hS3⟩
  obtain rfl := hS3.symm
  cases ok
  ·simp only [go_sem, seval, hs2]
   refine fin_at hQ rfl ?_; simp only [go_sem, seval, aF136, hs2]; rw [retQ_some]; simp only [oneOr]
   exact ⟨⟨_, _, rfl⟩, hk2⟩
  ·simp only [go_sem, seval, hs2]
   refine fin_at hQ rfl ?_; simp only [go_sem, seval, aF136, hs2]; rw [retQ_some]; simp only [oneOr]
   exact ⟨⟨_, _, rfl⟩, hk2⟩
 ·have hjl : (j : Int) < 2 := by omega
  have hj0 : (0 : Int) ≤ j := by omega
  have hw1 : IntKind.i64.wrap ((j : Int) + 1) = j + 1 := wrap64_id (by omega) (by omega)
  obtain ⟨q, hq, hq4⟩ : ∃ q : Nat, (iV [3, 1])[j]? = some (.int .i64 q) ∧ q < 4 := by
   have : j = 0 ∨ j = 1 := by omega
   rcases this with rfl | rfl
   ·exact ⟨3, rfl, by omega⟩
   ·exact ⟨1, rfl, by omega⟩
  have hr : rd S2 (S1.next + 1) j = some (.int .i64 q) := by rw [rd_of_blk hb]; exact hq
  have hq0 : (0 : Int) ≤ q := by omega
  have hq4' : (q : Int) < 4 := by omega
  have k8 : ∀ q, q < 4 → styleSg[22 + q * 2]? = some true ∧ styleSg[22 + q * 2 + 1]? = some true ∧ styleSg[30 + q * 2]? = some true ∧ styleSg[30 + q * 2 + 1]? = some true ∧ styleSg[38 + q]? = some true := fun q hq => by
   match q, hq with
   | 0, _ | 1, _ | 2, _ | 3, _ => exact ⟨rfl, rfl, rfl, rfl, rfl⟩
  have e1 := hs.L (22 + q * 2) (k8 q hq4).1 (k8 q hq4).2.1
  have e2 := hs.L (30 + q * 2) (k8 q hq4).2.2.1 (k8 q hq4).2.2.2.1
  have e3 := hs.i (38 + q) (k8 q hq4).2.2.2.2
  have l1 : 22 + q * 2 + 2 ≤ 48 := by omega
  have l2 : 30 + q * 2 + 2 ≤ 48 := by omega
  simp only [go_sem, seval, hs2, hjl, hj0, hr, hq0, hq4', Int.toNat_natCast, Nat.mul_one, e1, e2, e3, hs.N 48, l1, l2]
  refine cK_of (units135 _ _ _ _) ?_
  rintro v S3 _ hL3 ⟨⟨u1, rfl⟩, hS3⟩
  obtain rfl := hS3.symm
  simp only [go_sem, seval]
  refine cK_of (units135 _ _ _ _) ?_
  rintro v S3 _ hL3 ⟨⟨u2, rfl⟩, hS3⟩
  obtain rfl := hS3.symm
  simp only [go_sem, seval]
  have hxn := hx.keeps hL2 (Keeps.of_new S2 ⟨false, iV [u1, u2, ig cs (38 + q)]⟩ fun _ => True) fun _ _ => trivial
  refine hK_of (appS (hL2.new _) (by omega) hxn (sl_new S2 [u1, u2, ig cs (38 + q)]) (by simp; omega)) ?_
  rintro v3 S4 ⟨⟨a3, e3', rfl⟩, A⟩
  have hlt := hL2 _ _ hb
  have hnn : ∀ b, (S2.new b).next = S2.next + 1 := fun _ => rfl
  simp only [go_sem, seval, hs2, hw1]
  have hlen : (xs ++ [u1, u2, ig cs (38 + q)]).length = xs.length + [u1, u2, ig cs (38 + q)].length := by simp
  refine hN _ _ ⟨A.live, (hk2.new _).trans A.keep fun i hi _ hx' => by have := hxf i hx'; omega, j + 1, .slice a3 (xs.length + 3) e3', xs ++ [u1, u2, ig cs (38 + q)], by omega, by simp; omega, ?_, ?_, fun hx' => ?_, fun i hi => ?_, ?_⟩ ?_
  ·have := A.own
   rw [hlen]
   simpa [iV] using this
  ·rw [A.keep.2 _ (by rw [hnn]; omega) hxd, St.blk_new, if_neg (by omega)]; exact hb
  ·rcases A.new _ hx' with h | h
   ·exact hxd h
   ·rw [hnn] at h; omega
  ·rcases A.new _ hi with h | h
   ·exact hxf _ h
   ·have := hk2.1; rw [hnn] at h; omega
  ·simp only [go_sem, seval, Int.natCast_add, Int.natCast_succ, hs2]
  ·simp only [go_sem, seval, hs2]
   simp [RowKit.intOf]
   omega
set_option maxHeartbeats 2000000 in
theorem content114 (hok : ∀ x ∈ l, x.Ok) (hl : l.length ≤ 1000000) : ∀ (d n : Nat), n < l.length → l.length - n ≤ d → ∀ (S : St), KinAt S hi kp l → hi ≤ S.next → ACalls Tryz.prog 114 [ptr kp, .int .i64 n] S (NK S)
 | 0, n, hn, hd, S, hK, hh => by omega
 | d + 1, n, hn, hd, S, hK, hh => by
  refine run_of hmix Tryz.func114 cF114 rfl fun hL Q hQ => ?_
  have hs := sty_fl (hok _ (List.getElem_mem hn)).s
  simp only [go_sem, seval, aF114]
  refine cK_of (made39 hK hn) ?_
  rintro v S1 _ hL1 ⟨rfl, hS1⟩
  obtain rfl := hS1.symm
  cases madeL l n
  ·simp only [go_sem, seval]
   refine fin_at hQ rfl ?_; simp only [go_sem, seval, aF114]; rw [retQ_some]; simp only [oneOr]
   exact ⟨⟨_, _, rfl⟩, Keeps.refl _ _⟩
  simp only [go_sem, seval]
  refine cK_of (style55 hK hok hn) ?_
  rintro v S2 _ hL2 ⟨rfl, hS2⟩
  obtain rfl := hS2.symm
  generalize hcs : l[n].s.cells = cs at *
  simp only [go_sem, seval, hs.N 48, hs.F 48, z39, hs.L 10]
  refine cK_of (units135 _ _ _ _) ?_
  rintro v S3 _ hL3 ⟨⟨u, rfl⟩, hS3⟩
  obtain rfl := hS3.symm
  simp only [go_sem, seval, hs.N 48, hs.I 10]
  refine iK_cut (fun t' S' => Live S' ∧ KeepsAll S S' ∧ ∃ q : Int, Slots t' [(4, .int .i64 0), (5, .bool false), (6, .agg cs.toArray), (7, .int .i64 q)]) ?_ ?_
  ·intro Q1 hN1 hE1
   cases h10 : ig cs 10 != 1
   ·simp only [go_sem, seval, h10]
    refine hN1 _ _ ⟨hL, Keeps.refl _ _, u, ?_⟩
    simp only [go_sem, seval, Int.natCast_add, Int.natCast_succ]
   ·simp only [go_sem, seval, h10]
    refine cK_of (flow134 hK hh hok hl hn) ?_
    rintro v S4 _ hL4 ⟨hpk, hk4⟩
    obtain ⟨ms, hsl, hmem, hml⟩ : ∃ ms : List Int, Sl S4 1 v ms.length (iV ms) ∧ (∀ m ∈ ms, ∃ k : Nat, m = k ∧ n < k ∧ k < l.length) ∧ ms.length ≤ 1000000 := by
     rcases hpk with rfl | ⟨d, ys, cs', rfl, e1, e2, e3, e4, e5, e6, e7⟩
     ·exact ⟨[], .inl ⟨rfl, rfl, rfl⟩, by simp, by simp⟩
     ·exact ⟨ys, sl_prefix e1 e2 e3, fun m hm' => by obtain ⟨k, a1, a2, a3, _⟩ := e6 m hm'; exact ⟨k, a1, a2, a3⟩, by omega⟩
    obtain ⟨ka, ke, rfl⟩ := hsl.slice
    simp only [go_sem, seval]
    refine lK_of (fun t' S' => Live S' ∧ KeepsAll S4 S' ∧ ∃ (j : Nat) (q : Int), j ≤ ms.length ∧ Slots t' [(0, ptr kp), (4, .int .i64 0), (5, .bool false), (6, .agg cs.toArray), (7, .int .i64 q), (28, .slice ka ms.length ke), (29, .int .i64 ms.length), (30, .int .i64 j)]) (fun t' _ => ms.length - (RowKit.intOf (t' 30)).toNat) ?_ ?_
    ·refine ⟨hL4, Keeps.refl _ _, 0, u, Nat.zero_le _, ?_⟩
     simp only [go_sem, seval, Int.natCast_add, Int.natCast_succ]
    rintro t1 S5 Q2 ⟨hL5, hk5, j, q, hj, hs2⟩ _ hN hE
    simp only [slots_cons, slots_nil] at hs2
    have hk05 := hk4.trans hk5 fun _ _ _ => trivial
    by_cases hjn : j = ms.length
    ·subst hjn
     simp only [go_sem, seval, hs2, Int.lt_irrefl]
     refine hE _ _ _ (by simp) ?_
     simp only [go_sem, seval, hs2]
     refine hN1 _ _ ⟨hL5, hk05, q, ?_⟩
     simp only [go_sem, seval, Int.natCast_add, Int.natCast_succ, hs2]
    ·have hjl : j < ms.length := by omega
     have hjl' : (j : Int) < ms.length := by omega
     have hj0 : (0 : Int) ≤ j := by omega
     have hw1 : IntKind.i64.wrap ((j : Int) + 1) = j + 1 := wrap64_id (by omega) (by omega)
     obtain ⟨k, hk, hkn, hkl⟩ := hmem _ (List.getElem_mem hjl)
     have hsl5 := hsl.keeps hL4 hk5 fun _ _ => trivial
     obtain ⟨kd, ko, ke', hv, _, hcc⟩ := hsl5.ne (by omega)
     cases hv
     have hr := Sl.i hsl5 rfl (by omega) hjl
     rw [hk] at hr
     simp only [go_sem, seval, hs2, hjl', hj0, Int.toNat_natCast, Nat.mul_one, hr]
     refine cK_of (outer136 hok k hkl (fun S' hK' hh' => content114 hok hl d k hkl (by omega) S' hK' hh') S5 (hK.keeps hh hk05) (Nat.le_trans hh hk05.1)) ?_
     rintro v S6 _ hL6 ⟨⟨q2, b, rfl⟩, hk6⟩
     cases b
     ·simp only [go_sem, seval, hs2]
      refine hE _ _ _ (by simp) ?_
      simp only [go_sem, seval, hs2]
      refine hE1 _ _ _ (by simp) ?_
      simp only [go_sem, seval, hs2]
      refine fin_at hQ rfl ?_; simp only [go_sem, seval, aF114, hs2]; rw [retQ_some]; simp only [oneOr]
      exact ⟨⟨_, _, rfl⟩, hk05.trans hk6 fun _ _ _ => trivial⟩
     ·simp only [go_sem, seval, hs2, hw1]
      refine hN _ _ ⟨hL6, hk5.trans hk6 fun _ _ _ => trivial, j + 1, (if q2 > q then q2 else q), by omega, ?_⟩ ?_
      ·simp only [go_sem, seval, Int.natCast_add, Int.natCast_succ, hs2]
      ·simp only [go_sem, seval, hs2]
       simp [RowKit.intOf]
       omega
  rintro t1 S4 ⟨hL4, hk4, q, hs2⟩
  simp only [slots_cons, slots_nil] at hs2
  simp only [go_sem, seval, hs2, hs.N 48, hs.L 14, hs.L 16]
  refine cK_of (units135 _ _ _ _) ?_
  rintro v S5 _ hL5 ⟨⟨u2, rfl⟩, hS5⟩
  obtain rfl := hS5.symm
  simp only [go_sem, seval]
  refine cK_of (units135 _ _ _ _) ?_
  rintro v S5 _ hL5 ⟨⟨u3, rfl⟩, hS5⟩
  obtain rfl := hS5.symm
  simp only [go_sem, seval]
  refine cK_of (clamp131 _ _ _ _) ?_
  rintro v S5 _ hL5 ⟨⟨u4, rfl⟩, hS5⟩
  obtain rfl := hS5.symm
  simp only [go_sem, seval]
  refine fin_at hQ rfl ?_; simp only [go_sem, seval, aF114]; rw [retQ_some]; simp only [oneOr]
  exact ⟨⟨_, _, rfl⟩, hk4⟩
end
end Go.Proofs.YtegaklgjcicnfaaGreat
namespace Go.Proofs.YtegaklgjcicnfaaGreat
open Go Go.Proofs.YtegaklgjcicnfaaGreat.Abs
/-- Is a node positioned? -/
def posd (l : List Nd) (k : Nat) : Bool := madeL l k && (decide (0 < k) && posAt l k != 0)
/-- The first that is positioned, upwards. -/
def firstPosd (l : List Nd) (a : Int) : Int := match (chain (par l) a).find? (fun a => posd l a.toNat) with | some b => b | none => -1
/-- Who holds a node. -/
def holdOf (l : List Nd) (n : Nat) : Int := if madeL l n = false then -1 else if outL l n = false then par l n else if posAt l n = 3 then -1 else firstPosd l (par l n)
theorem pos_get {l : List Nd} (hok : ∀ x ∈ l, x.Ok) {j : Nat} (hj : j < l.length) : l[j].s.cells[1]? = some (.int .i64 (posAt l j)) := by
 have hs := (hok _ (List.getElem_mem hj)).s
 unfold posAt
 rw [List.getElem?_eq_getElem hj, hs.c.pos]
section
variable {hi kp : Nat} {l : List Nd}
theorem positioned92 (hok : ∀ x ∈ l, x.Ok) (n : Nat) (hn : n < l.length) (S : St) (hK : KinAt S hi kp l) : ACalls Tryz.prog 92 [ptr kp, .int .i64 n] S fun r S' => r = .bool (posd l n) ∧ S' = S := by
 refine run_of hmix Tryz.func92 cF92 rfl fun hL Q hQ => ?_
 simp only [go_sem, seval, aF92]
 refine cK_of (made39 hK hn) ?_
 rintro v S1 _ hL1 ⟨rfl, hS1⟩
 obtain rfl := hS1.symm
 unfold posd at hQ
 cases hm : madeL l n
 ·simp only [go_sem, seval]
  refine fin_at hQ rfl ?_; simp only [go_sem, seval, aF92]; rw [retQ_some]; simp only [oneOr]
  exact ⟨by simp [hm], trivial⟩
 cases hg : decide ((n : Int) > 0)
 ·simp only [go_sem, seval, hg]
  refine fin_at hQ rfl ?_; simp only [go_sem, seval, aF92]; rw [retQ_some]; simp only [oneOr]
  exact ⟨by simp at hg; simp [hg], trivial⟩
 ·simp only [go_sem, seval, hg]
  refine cK_of (style55 hK hok hn) ?_
  rintro v S1 _ hL1 ⟨rfl, hS1⟩
  obtain rfl := hS1.symm
  have hp := pos_get hok hn
  simp only [go_sem, seval, hp]
  refine fin_at hQ rfl ?_; simp only [go_sem, seval, aF92]; rw [retQ_some]; simp only [oneOr]
  refine ⟨?_, trivial⟩
  simp at hg
  simp [hm, hg]
theorem firstPosd_neg {a : Int} (h : a < 0) : firstPosd l a = -1 := by unfold firstPosd; rw [chain_neg _ h]; rfl
theorem firstPosd_pos (htr : Tr (par l) l.length) {a : Nat} (h : a < l.length) : firstPosd l a = if posd l a = true then (a : Int) else firstPosd l (par l a) := by
 unfold firstPosd
 rw [chain_pos htr (by omega) (by omega), List.find?_cons, Int.toNat_natCast]
 cases posd l a <;> rfl
set_option maxHeartbeats 1000000 in
theorem hold53 (hok : ∀ x ∈ l, x.Ok) (htr : Tr (par l) l.length) (n : Nat) (hn : n < l.length) (S : St) (hK : KinAt S hi kp l) : ACalls Tryz.prog 53 [ptr kp, .int .i64 n] S fun r S' => r = .int .i64 (holdOf l n) ∧ S' = S := by
 refine run_of hmix Tryz.func53 cF53 rfl fun hL Q hQ => ?_
 unfold holdOf at hQ
 simp only [go_sem, seval, aF53]
 refine cK_of (made39 hK hn) ?_
 rintro v S1 _ hL1 ⟨rfl, hS1⟩
 obtain rfl := hS1.symm
 cases hm : madeL l n
 ·simp only [go_sem, seval]
  refine fin_at hQ rfl ?_; simp only [go_sem, seval, aF53]; rw [retQ_some]; simp only [oneOr]
  exact ⟨by simp [hm], trivial⟩
 simp only [go_sem, seval]
 refine cK_of (out44 hK hok hn) ?_
 rintro v S1 _ hL1 ⟨rfl, hS1⟩
 obtain rfl := hS1.symm
 cases ho : outL l n
 ·simp only [go_sem, seval]
  refine cK_of (parent70 hK hok hn) ?_
  rintro v S1 _ hL1 ⟨rfl, hS1⟩
  obtain rfl := hS1.symm
  simp only [go_sem, seval]
  refine fin_at hQ rfl ?_; simp only [go_sem, seval, aF53]; rw [retQ_some]; simp only [oneOr]
  exact ⟨by simp [hm, ho], trivial⟩
 simp only [go_sem, seval]
 refine cK_of (style55 hK hok hn) ?_
 rintro v S1 _ hL1 ⟨rfl, hS1⟩
 obtain rfl := hS1.symm
 have hp := pos_get hok hn
 cases h3 : posAt l n == 3
 case' true =>
  simp only [go_sem, seval, hp, h3]
  refine fin_at hQ rfl ?_; simp only [go_sem, seval, aF53]; rw [retQ_some]; simp only [oneOr]
  exact ⟨by simp at h3; simp [hm, ho, h3], trivial⟩
 simp only [go_sem, seval, hp, h3]
 refine cK_of (parent70 hK hok hn) ?_
 rintro v S1 _ hL1 ⟨rfl, hS1⟩
 obtain rfl := hS1.symm
 have h3' : posAt l n ≠ 3 := by simpa using h3
 have hpar := htr n hn
 simp only [go_sem, seval]
 refine lK_of (fun t' S' => S' = S ∧ ∃ a : Int, -1 ≤ a ∧ a < l.length ∧ firstPosd l a = firstPosd l (par l n) ∧ Slots t' [(0, ptr kp), (5, .int .i64 a)]) (fun t' _ => (RowKit.intOf (t' 5) + 1).toNat) ?_ ?_
 ·refine ⟨rfl, par l n, by omega, by omega, rfl, ?_⟩
  simp only [go_sem, seval, Int.natCast_add, Int.natCast_succ]
 rintro t1 S2 Q1 ⟨rfl, a, ha1, ha2, hfa, hs⟩ hL2 hN hE
 simp only [slots_cons, slots_nil] at hs
 by_cases ha : a = -1
 ·subst ha
  simp only [go_sem, seval, hs, bne_self_eq_false]
  refine hE _ _ _ (by simp) ?_
  simp only [go_sem, seval, hs]
  refine fin_at hQ rfl ?_; simp only [go_sem, seval, aF53, hs]; rw [retQ_some]; simp only [oneOr]
  refine ⟨?_, trivial⟩
  rw [firstPosd_neg (by omega)] at hfa
  simp [hm, ho, h3', ← hfa]
 ·obtain ⟨k, rfl⟩ : ∃ k : Nat, a = k := ⟨a.toNat, by omega⟩
  have hne : ((k : Int) != -1) = true := bne_iff_ne.2 (by omega)
  have hkl : k < l.length := by omega
  simp only [go_sem, seval, hs, hne]
  refine cK_of (positioned92 hok k hkl S2 hK) ?_
  rintro v S1 _ hL1 ⟨rfl, hS1⟩
  obtain rfl := hS1.symm
  have hfp := firstPosd_pos htr hkl
  cases hpd : posd l k
  ·simp only [go_sem, seval, hs]
   refine cK_of (parent70 hK hok hkl) ?_
   rintro v S1 _ hL1 ⟨rfl, hS1⟩
   obtain rfl := hS1.symm
   have hpk := htr k hkl
   simp only [go_sem, seval, hs]
   refine hN _ _ ⟨rfl, par l k, by omega, by omega, ?_, ?_⟩ ?_
   ·rw [hpd] at hfp
    rw [← hfa, hfp]
    simp
   ·simp only [go_sem, seval, Int.natCast_add, Int.natCast_succ, hs]
   ·simp only [go_sem, seval, hs]
    simp [RowKit.intOf]
    omega
  ·simp only [go_sem, seval, hs]
   refine hE _ _ _ (by simp) ?_
   simp only [go_sem, seval, hs]
   refine fin_at hQ rfl ?_; simp only [go_sem, seval, aF53, hs]; rw [retQ_some]; simp only [oneOr]
   refine ⟨?_, trivial⟩
   rw [hpd, if_pos rfl] at hfp
   simp [hm, ho, h3', ← hfa, hfp]
end
/-- A box. -/
def boxSg : List Bool := [false, true, true, true, true, true, true, true, true, true, true, true, true, true, true, true, true, true, true, true, true]
abbrev W64 (n : Int) : Int := IntKind.i64.wrap n
/-- A padding box. -/
def padsL (cs : List Value) : List Int :=
 if bg cs 0 = false then [0, 0, 0, 0] else
 [W64 (ig cs 1 + ig cs 20), W64 (ig cs 2 + ig cs 17), W64 (W64 (W64 (W64 (ig cs 1 + ig cs 20) + ig cs 16) + ig cs 3) + ig cs 14), W64 (W64 (W64 (W64 (ig cs 2 + ig cs 17) + ig cs 13) + ig cs 4) + ig cs 15)]
/-- A border box. -/
def edgesL (cs : List Value) : List Int :=
 if bg cs 0 = false then [0, 0, 0, 0] else
 [ig cs 1, ig cs 2, W64 (W64 (W64 (W64 (W64 (ig cs 1 + ig cs 20) + ig cs 16) + ig cs 3) + ig cs 14) + ig cs 18), W64 (W64 (W64 (W64 (W64 (ig cs 2 + ig cs 17) + ig cs 13) + ig cs 4) + ig cs 15) + ig cs 19)]
theorem pads56 (cs : List Value) (S : St) (h : Fl boxSg cs) : ACalls Tryz.prog 56 [.agg cs.toArray] S fun r S' => r = .agg (iV (padsL cs)).toArray ∧ S' = S := by
 refine run_of hmix Tryz.func56 cF56 rfl fun hL Q hQ => ?_
 unfold padsL at hQ
 cases h0 : bg cs 0
 ·simp only [go_sem, seval, aF56, h.N 21, h.F 21, h.B 0, h0]
  refine fin_at hQ rfl ?_; simp only [go_sem, seval, aF56]; rw [retQ_some]; simp only [oneOr]
  exact ⟨by simp [h0, iV], trivial⟩
 ·simp only [go_sem, seval, aF56, h.N 21, h.F 21, h.B 0, h0, h.I 1, h.I 2, h.I 3, h.I 4, h.I 13, h.I 14, h.I 15, h.I 16, h.I 17, h.I 20]
  refine fin_at hQ rfl ?_; simp only [go_sem, seval, aF56]; rw [retQ_some]; simp only [oneOr]
  exact ⟨by simp [h0, iV], trivial⟩
theorem edges106 (cs : List Value) (S : St) (h : Fl boxSg cs) : ACalls Tryz.prog 106 [.agg cs.toArray] S fun r S' => r = .agg (iV (edgesL cs)).toArray ∧ S' = S := by
 refine run_of hmix Tryz.func106 cF106 rfl fun hL Q hQ => ?_
 unfold edgesL at hQ
 cases h0 : bg cs 0
 ·simp only [go_sem, seval, aF106, h.N 21, h.F 21, h.B 0, h0]
  refine fin_at hQ rfl ?_; simp only [go_sem, seval, aF106]; rw [retQ_some]; simp only [oneOr]
  exact ⟨by simp [h0, iV], trivial⟩
 ·simp only [go_sem, seval, aF106, h.N 21, h.F 21, h.B 0, h0]
  refine cK_of (pads56 cs S h) ?_
  rintro v S1 _ hL1 ⟨rfl, hS1⟩
  obtain rfl := hS1.symm
  have hp : iV (padsL cs) = [.int .i64 (W64 (ig cs 1 + ig cs 20)), .int .i64 (W64 (ig cs 2 + ig cs 17)), .int .i64 (W64 (W64 (W64 (W64 (ig cs 1 + ig cs 20) + ig cs 16) + ig cs 3) + ig cs 14)), .int .i64 (W64 (W64 (W64 (W64 (ig cs 2 + ig cs 17) + ig cs 13) + ig cs 4) + ig cs 15))] := by
   unfold padsL; simp [h0, iV]
  rw [hp]
  simp only [go_sem, seval, h.N 21, h.F 21, h.I 1, h.I 2, h.I 18, h.I 19]
  refine fin_at hQ rfl ?_; simp only [go_sem, seval, aF106]; rw [retQ_some]; simp only [oneOr]
  exact ⟨by simp [h0, iV], trivial⟩
end Go.Proofs.YtegaklgjcicnfaaGreat
namespace Go.Proofs.YtegaklgjcicnfaaGreat
open Go Go.Proofs.YtegaklgjcicnfaaGreat.Abs
/-- A box: made, or nothing. -/
def BoxOk (cs : List Value) : Prop := Fl boxSg cs ∧ (bg cs 0 = false → cs = z51)
def workV (kp : Nat) (v0 v1 : Int) (db dk n : Nat) (ag : Value) (bad : Bool) : List Value := [ptr kp, .int .i64 v0, .int .i64 v1, .slice (some ⟨db, 0, none⟩) n 21, .slice (some ⟨dk, 0, none⟩) n 1, ag, .bool bad]
structure WorkAt (S : St) (hi kp : Nat) (l : List Nd) (wp db dk : Nat) (v0 v1 : Int) (ag : Value) (bad : Bool) (bs ks : List Value) : Prop where
 row : S.blk wp = some ⟨false, workV kp v0 v1 db dk l.length ag bad⟩
 box : S.blk db = some ⟨false, bs⟩
 bl : bs.length = l.length * 21
 bok : ∀ j, j < l.length → BoxOk ((bs.drop (j * 21)).take 21)
 kn : S.blk dk = some ⟨false, ks⟩
 kl : ks.length = l.length
 kok : ∀ j, j < l.length → ∃ b, ks[j]? = some (.bool b)
 kin : KinAt S hi kp l
 h1 : hi ≤ db
 h2 : hi ≤ dk
 h3 : hi ≤ wp
 n1 : db ≠ dk
 n2 : wp ≠ db
 n3 : wp ≠ dk
 agS : ∃ a i j, ag = .slice a i j
section
variable {S S' : St} {hi kp : Nat} {l : List Nd} {wp db dk : Nat} {v0 v1 : Int} {ag : Value} {bad : Bool} {bs ks : List Value}
theorem WorkAt.keeps (h : WorkAt S hi kp l wp db dk v0 v1 ag bad bs ks) (hL : Live S) (hk : KeepsAll S S') : WorkAt S' hi kp l wp db dk v0 v1 ag bad bs ks :=
 have hh : hi ≤ S.next := Nat.le_trans h.h3 (Nat.le_of_lt (hL _ _ h.row))
 { h with row := (hk.2 _ (hL _ _ h.row) trivial).trans h.row, box := (hk.2 _ (hL _ _ h.box) trivial).trans h.box, kn := (hk.2 _ (hL _ _ h.kn) trivial).trans h.kn, kin := h.kin.keeps hh hk }
theorem WorkAt.setBad (h : WorkAt S hi kp l wp db dk v0 v1 ag bad bs ks) (b : Bool) : WorkAt (S.set wp ⟨false, workV kp v0 v1 db dk l.length ag b⟩) hi kp l wp db dk v0 v1 ag b bs ks :=
 { h with row := blk_set_self _ _ _, box := by rw [St.blk_set, if_neg (Ne.symm h.n2)]; exact h.box, kn := by rw [St.blk_set, if_neg (Ne.symm h.n3)]; exact h.kn, kin := h.kin.keep fun i hi' => by rw [St.blk_set, if_neg (by have := h.h3; omega)] }
theorem is41 (b : Bool) (h : WorkAt S hi kp l wp db dk v0 v1 ag bad bs ks) : ACalls Tryz.prog 41 [ptr wp, .bool b] S fun r S' => r = .bool (!(bad || !b)) ∧ S' = S.set wp ⟨false, workV kp v0 v1 db dk l.length ag (bad || !b)⟩ := by
 refine run_of hmix Tryz.func41 cF41 rfl fun hL Q hQ => ?_
 have hr := h.row
 have r6 := rd_of_blk hr 6
 simp only [workV] at hr r6 hQ
 cases bad
 all_goals
  simp only [go_sem, seval, aF41, hr, r6]
  refine fin_at hQ rfl ?_; simp only [go_sem, seval, aF41]; rw [retQ_some]; simp only [oneOr]
  first | exact ⟨trivial, rfl⟩ | exact ⟨rfl, rfl⟩ | exact ⟨trivial, trivial⟩
theorem sum74 (x : Value) (xs : List Int) (h : WorkAt S hi kp l wp db dk v0 v1 ag bad bs ks) (hx : Sl S 1 x xs.length (iV xs)) (hn : xs.length ≤ 1000) : ACalls Tryz.prog 74 [ptr wp, x] S fun r S' => ∃ m b, r = .int .i64 m ∧ (b = true → m = sumI xs ∧ fitI m) ∧ S' = S.set wp ⟨false, workV kp v0 v1 db dk l.length ag (bad || !b)⟩ := by
 refine run_of hmix Tryz.func74 cF74 rfl fun hL Q hQ => ?_
 have hr := h.row
 have r6 := rd_of_blk hr 6
 simp only [workV] at hr r6 hQ
 simp only [go_sem, seval, aF74]
 refine cK_of (sum109 _ xs _ hx hn) ?_
 rintro v S1 _ hL1 ⟨⟨m, b, rfl, hb⟩, hS1⟩
 obtain rfl := hS1.symm
 cases bad
 all_goals
  simp only [go_sem, seval, hr, r6]
  refine fin_at hQ rfl ?_; simp only [go_sem, seval, aF74]; rw [retQ_some]; simp only [oneOr]
  first | exact ⟨m, b, rfl, hb, rfl⟩ | exact ⟨m, b, rfl, hb, trivial⟩
/-- A sum, noted. -/
theorem sum74' (x : Value) (xs : List Int) (hL : Live S) (h : WorkAt S hi kp l wp db dk v0 v1 ag bad bs ks) (hx : Sl S 1 x xs.length (iV xs)) (hn : xs.length ≤ 1000) : ACalls Tryz.prog 74 [ptr wp, x] S fun r S' => ∃ m bad', r = .int .i64 m ∧ WorkAt S' hi kp l wp db dk v0 v1 ag bad' bs ks ∧ Keeps S S' (· ≠ wp) ∧ S'.next = S.next ∧ (bad' = false → bad = false ∧ m = sumI xs ∧ fitI m) :=
 (sum74 x xs h hx hn).mono fun r S' _ ⟨m, b, h1, h2, h3⟩ => ⟨m, bad || !b, h1, by rw [h3]; exact h.setBad _, by rw [h3]; exact (Keeps.refl _ _).set (fun i _ hi' => hi') _, by rw [h3]; rfl, fun hb => by
  cases bad <;> cases b <;> simp at hb ⊢
  exact h2 rfl⟩
theorem box_at (h : WorkAt S hi kp l wp db dk v0 v1 ag bad bs ks) {n : Nat} (hn : n < l.length) : cellsOf S db (n * 21) 21 = some ((bs.drop (n * 21)).take 21) := by
 rw [cellsOf_of_blk h.box, if_pos]
 have := h.bl
 have : (n + 1) * 21 ≤ l.length * 21 := Nat.mul_le_mul_right _ hn
 show n * 21 + 21 ≤ bs.length
 omega
set_option maxHeartbeats 1000000 in
theorem corner71 (n : Nat) (hn : n < l.length) (hl : l.length ≤ 1000000) (h : WorkAt S hi kp l wp db dk v0 v1 ag bad bs ks) : ACalls Tryz.prog 71 [ptr wp, .int .i64 n] S fun r S' => ∃ x y bad', r = .tuple #[.int .i64 x, .int .i64 y] ∧ WorkAt S' hi kp l wp db dk v0 v1 ag bad' bs ks ∧ Keeps S S' (· ≠ wp) ∧ (bad' = false → bad = false) := by
 refine run_of hmix Tryz.func71 cF71 rfl fun hL Q hQ => ?_
 have r3 := rd_of_blk h.row 3
 simp only [workV] at r3
 have hx := box_at h hn
 have hb := (h.bok n hn).1
 generalize (bs.drop (n * 21)).take 21 = cs at *
 have hn0 : (0 : Int) ≤ n := by omega
 have hnl : (n : Int) < l.length := by omega
 simp only [go_sem, seval, aF71, r3, hn0, hnl, Int.toNat_natCast, hx, hb.N 21, hb.F 21, z51, hb.I 1, hb.I 2, hb.I 13, hb.I 16, hb.I 17, hb.I 20]
 obtain ⟨Sa, hSa⟩ : ∃ Sa, Sa = S.new ⟨false, iV [ig cs 1, ig cs 20, ig cs 16]⟩ := ⟨_, rfl⟩
 obtain ⟨Sb, hSb⟩ : ∃ Sb, Sb = Sa.new ⟨false, iV [ig cs 2, ig cs 17, ig cs 13]⟩ := ⟨_, rfl⟩
 have hLa : Live Sa := by rw [hSa]; exact hL.new _
 have hLb : Live Sb := by rw [hSb]; exact hLa.new _
 have ka : KeepsAll S Sa := by rw [hSa]; exact Keeps.of_new _ _ _
 have kb : KeepsAll Sa Sb := by rw [hSb]; exact Keeps.of_new _ _ _
 have x1 : Sl Sa 1 (.slice (some ⟨S.next, 0, none⟩) 3 1) 3 (iV [ig cs 1, ig cs 20, ig cs 16]) := by rw [hSa]; exact sl_new S _
 have x2 : Sl Sb 1 (.slice (some ⟨S.next + 1, 0, none⟩) 3 1) 3 (iV [ig cs 2, ig cs 17, ig cs 13]) := by rw [hSb]; have := sl_new Sa [ig cs 2, ig cs 17, ig cs 13]; rw [show Sa.next = S.next + 1 by rw [hSa]; rfl] at this; exact this
 have x1b := x1.keeps hLa kb fun _ _ => trivial
 have hWb := (h.keeps hL ka).keeps hLa kb
 have e : (S.new ⟨false, [.int .i64 (ig cs 1), .int .i64 (ig cs 20), .int .i64 (ig cs 16)]⟩).new ⟨false, [.int .i64 (ig cs 2), .int .i64 (ig cs 17), .int .i64 (ig cs 13)]⟩ = Sb := by rw [hSb, hSa]; rfl
 have wlt := hL _ _ h.row
 rw [e]
 refine cK_of (sum74' _ [ig cs 1, ig cs 20, ig cs 16] hLb hWb x1b (by simp)) ?_
 rintro v S1 _ hL1 ⟨m1, bad1, rfl, hW1, hk1, hn1, hb1⟩
 have x2' := x2.keeps hLb hk1 fun i hi => by simp [Value.blkOf] at hi; show i ≠ wp; omega
 simp only [go_sem, seval]
 refine cK_of (sum74' _ [ig cs 2, ig cs 17, ig cs 13] hL1 hW1 x2' (by simp)) ?_
 rintro v S2 _ hL2 ⟨m2, bad2, rfl, hW2, hk2, hn2, hb2⟩
 simp only [go_sem, seval]
 refine fin_at hQ rfl ?_; simp only [go_sem, seval, aF71]; rw [retQ_some]; simp only [oneOr]
 exact ⟨_, _, bad2, rfl, hW2, ((ka.all.trans kb fun _ _ _ => trivial).trans hk1 fun _ _ h => h).trans hk2 fun _ _ h => h, fun hb => (hb1 (hb2 hb).1).1⟩
theorem high73 (n : Nat) (hn : n < l.length) (h : WorkAt S hi kp l wp db dk v0 v1 ag bad bs ks) : ACalls Tryz.prog 73 [ptr wp, .int .i64 n] S fun r S' => (∃ a m, r = .agg #[.bool a, .int .i64 m]) ∧ S' = S := by
 refine run_of hmix Tryz.func73 cF73 rfl fun hL Q hQ => ?_
 have r3 := rd_of_blk h.row 3
 have r4 := rd_of_blk h.row 4
 simp only [workV] at r3 r4
 have hx := box_at h hn
 have hb := (h.bok n hn).1
 obtain ⟨kb, hkb⟩ := h.kok n hn
 have hrk : rd S dk n = some (.bool kb) := by rw [rd_of_blk h.kn]; exact hkb
 have hx4 : rd S db (n * 21 + 4) = some (.int .i64 (ig ((bs.drop (n * 21)).take 21) 4)) := by rw [rd_of_cells hx (by omega)]; exact hb.I 4
 have hn0 : (0 : Int) ≤ n := by omega
 have hnl : (n : Int) < l.length := by omega
 cases kb
 ·simp only [go_sem, seval, aF73, r4, hn0, hnl, Int.toNat_natCast, Nat.mul_one, hrk]
  refine fin_at hQ rfl ?_; simp only [go_sem, seval, aF73]; rw [retQ_some]; simp only [oneOr]
  exact ⟨⟨_, _, rfl⟩, trivial⟩
 ·simp only [go_sem, seval, aF73, r3, r4, hn0, hnl, Int.toNat_natCast, Nat.mul_one, hrk, hx4]
  refine fin_at hQ rfl ?_; simp only [go_sem, seval, aF73]; rw [retQ_some]; simp only [oneOr]
  exact ⟨⟨_, _, rfl⟩, trivial⟩
end
end Go.Proofs.YtegaklgjcicnfaaGreat
namespace Go.Proofs.YtegaklgjcicnfaaGreat
open Go Go.Proofs.YtegaklgjcicnfaaGreat.Abs
theorem chunk_ow {bs cb : List Value} {n j m : Nat} (hb : bs.length = m * 21) (hc : cb.length = 21) (hn : n < m) (hj : j < m) : ((Go.Proofs.YtegaklgjcicnfaaGreat.Abs.ow bs (n * 21) cb).drop (j * 21)).take 21 = if n = j then cb else (bs.drop (j * 21)).take 21 := by
 have h1 : (n + 1) * 21 ≤ m * 21 := Nat.mul_le_mul_right _ hn
 have h2 : (j + 1) * 21 ≤ m * 21 := Nat.mul_le_mul_right _ hj
 rw [ow_eq _ _ _ (by omega), hc]
 have l1 : (bs.take (n * 21)).length = n * 21 := by rw [List.length_take]; omega
 split
 ·rename_i e
  subst e
  rw [List.append_assoc, List.drop_left' l1, List.take_left' hc]
 ·rename_i e
  apply List.ext_getElem?
  intro i
  rw [List.getElem?_take, List.getElem?_take]
  split
  ·rename_i hi
   rw [List.getElem?_drop, List.getElem?_drop]
   rcases Nat.lt_or_ge (j * 21 + i) (n * 21) with h | h
   ·rw [List.append_assoc, List.getElem?_append_left (by omega), List.getElem?_take, if_pos h]
   ·have hnj : n < j := by omega
    rw [List.getElem?_append_right (by rw [List.length_append]; omega), List.getElem?_drop, List.length_append, l1, hc]
    congr 1
    omega
  ·rfl
section
variable {S S' : St} {hi kp : Nat} {l : List Nd} {wp db dk : Nat} {v0 v1 : Int} {ag : Value} {bad : Bool} {bs ks : List Value}
theorem WorkAt.note (h : WorkAt S hi kp l wp db dk v0 v1 ag bad bs ks) {n : Nat} (hn : n < l.length) {cb : List Value} (hc : BoxOk cb) (b : Bool) : WorkAt ((S.set db ⟨false, Go.Proofs.YtegaklgjcicnfaaGreat.Abs.ow bs (n * 21) cb⟩).set dk ⟨false, ks.set n (.bool b)⟩) hi kp l wp db dk v0 v1 ag bad (Go.Proofs.YtegaklgjcicnfaaGreat.Abs.ow bs (n * 21) cb) (ks.set n (.bool b)) :=
 { h with
  row := by rw [St.blk_set, if_neg h.n3, St.blk_set, if_neg h.n2]; exact h.row
  box := by rw [St.blk_set, if_neg h.n1, St.blk_set, if_pos rfl]
  bl := by rw [ow_length]; exact h.bl
  bok := fun j hj => by
   rw [chunk_ow h.bl (hc.1.N 21) hn hj]
   split
   ·exact hc
   ·exact h.bok j hj
  kn := blk_set_self _ _ _
  kl := by rw [List.length_set]; exact h.kl
  kok := fun j hj => by
   by_cases e : n = j
   ·subst e; exact ⟨b, by rw [List.getElem?_set_self (by rw [h.kl]; exact hj)]⟩
   ·rw [List.getElem?_set_ne e]; exact h.kok j hj
  kin := h.kin.keep fun i hi' => by rw [St.blk_set, if_neg (by have := h.h2; omega), St.blk_set, if_neg (by have := h.h1; omega)] }
set_option maxHeartbeats 1000000 in
theorem note69 (n : Nat) (hn : n < l.length) (cb : List Value) (hc : BoxOk cb) (b : Bool) (h : WorkAt S hi kp l wp db dk v0 v1 ag bad bs ks) : ACalls Tryz.prog 69 [ptr wp, .int .i64 n, .agg cb.toArray, .bool b] S fun r S' => ∃ bad', WorkAt S' hi kp l wp db dk v0 v1 ag bad' (Go.Proofs.YtegaklgjcicnfaaGreat.Abs.ow bs (n * 21) cb) (ks.set n (.bool b)) ∧ Keeps S S' (fun i => i ≠ wp ∧ i ≠ db ∧ i ≠ dk) ∧ (bad' = false → bad = false) := by
 refine run_of hmix Tryz.func69 cF69 rfl fun hL Q hQ => ?_
 have r3 := rd_of_blk h.row 3
 have r4 := rd_of_blk h.row 4
 simp only [workV] at r3 r4
 have hn0 : (0 : Int) ≤ n := by omega
 have hnl : (n : Int) < l.length := by omega
 have hbb := h.box
 have hkk := h.kn
 have hb1 : n * 21 + 21 ≤ bs.length := by have := h.bl; have : (n + 1) * 21 ≤ l.length * 21 := Nat.mul_le_mul_right _ hn; omega
 have hk1 : n + 1 ≤ ks.length := by have := h.kl; omega
 simp only [go_sem, seval, aF69, r3, r4, hn0, hnl, Int.toNat_natCast, Nat.mul_one, hc.1.N 21, hc.1.F 21, hbb, hkk, hb1, hk1, h.n1, Ne.symm h.n1]
 have hW := h.note hn hc b
 obtain ⟨Sa, hSa⟩ : ∃ Sa, Sa = (S.set db ⟨false, Go.Proofs.YtegaklgjcicnfaaGreat.Abs.ow bs (n * 21) cb⟩).set dk ⟨false, ks.set n (.bool b)⟩ := ⟨_, rfl⟩
 rw [← hSa] at hW
 have ka : Keeps S Sa (fun i => i ≠ wp ∧ i ≠ db ∧ i ≠ dk) := by rw [hSa]; exact ((Keeps.refl _ _).set (fun i _ h => h.2.1) _).set (fun i _ h => h.2.2) _
 rw [← hSa]
 have he : ∃ a b c d, edgesL cb = [a, b, c, d] := by
  unfold edgesL
  split <;> exact ⟨_, _, _, _, rfl⟩
 obtain ⟨x0, y0, x1, y1, he⟩ := he
 refine cK_of (edges106 cb Sa hc.1) ?_
 rintro v S1 _ hL1 ⟨rfl, hS1⟩
 obtain rfl := hS1.symm
 rw [he]
 simp only [go_sem, seval, iV, List.map_cons, List.map_nil]
 refine cK_of (fits107 _ _) ?_
 rintro v S1 _ hL1' ⟨rfl, hS1⟩
 obtain rfl := hS1.symm
 cases hf : fitB x1
 ·simp only [go_sem, seval]
  refine cK_of (is41 _ hW) ?_
  rintro v S2 _ hL2 ⟨rfl, rfl⟩
  simp only [go_sem, seval]
  refine hQ _ _ _ ?_
  rw [k_body_normal]
  simp only [go_sem, seval, aF69]
  rw [retQ_some]
  exact ⟨_, hW.setBad _, ka.set (fun i _ h => h.1) _, fun hb => by cases bad <;> simp_all⟩
 ·simp only [go_sem, seval]
  refine cK_of (fits107 _ _) ?_
  rintro v S1 _ hL1'' ⟨rfl, hS1⟩
  obtain rfl := hS1.symm
  simp only [go_sem, seval]
  refine cK_of (is41 _ hW) ?_
  rintro v S2 _ hL2 ⟨rfl, rfl⟩
  simp only [go_sem, seval]
  refine hQ _ _ _ ?_
  rw [k_body_normal]
  simp only [go_sem, seval, aF69]
  rw [retQ_some]
  exact ⟨_, hW.setBad _, ka.set (fun i _ h => h.1) _, fun hb => by cases bad <;> simp_all⟩
/-- What of a frame a box takes. -/
theorem put42 (n : Nat) (hn : n < l.length) (fs : List Value) (hf : Fl frameSg fs) (x y o0 o1 o2 o3 : Int) (h : WorkAt S hi kp l wp db dk v0 v1 ag bad bs ks) : ACalls Tryz.prog 42 [ptr wp, .int .i64 n, .agg fs.toArray, .int .i64 x, .int .i64 y, .agg #[.int .i64 o0, .int .i64 o1, .int .i64 o2, .int .i64 o3]] S fun r S' => ∃ bad' cb b, BoxOk cb ∧ WorkAt S' hi kp l wp db dk v0 v1 ag bad' (Go.Proofs.YtegaklgjcicnfaaGreat.Abs.ow bs (n * 21) cb) (ks.set n (.bool b)) ∧ Keeps S S' (fun i => i ≠ wp ∧ i ≠ db ∧ i ≠ dk) ∧ (bad' = false → bad = false) := by
 refine run_of hmix Tryz.func42 cF42 rfl fun hL Q hQ => ?_
 obtain ⟨m0, m1, m2, m3, hm⟩ := ints4_eq (hf.sub 4 4)
 obtain ⟨p0, p1, p2, p3, hp⟩ := ints4_eq (hf.sub 8 4)
 obtain ⟨b0, b1, b2, b3, hb⟩ := ints4_eq (hf.sub 12 4)
 simp only [go_sem, seval, aF42, hf.N 25, hf.F 25, hf.I 2, hf.I 3, hf.B 16, hm, hp, hb, z51]
 refine cK_of (note69 n hn [.bool true, .int .i64 x, .int .i64 y, .int .i64 (ig fs 2), .int .i64 (ig fs 3), .int .i64 o0, .int .i64 o1, .int .i64 o2, .int .i64 o3, .int .i64 m0, .int .i64 m1, .int .i64 m2, .int .i64 m3, .int .i64 p0, .int .i64 p1, .int .i64 p2, .int .i64 p3, .int .i64 b0, .int .i64 b1, .int .i64 b2, .int .i64 b3] ⟨by trivial, fun hh => by cases hh⟩ (bg fs 16) h) ?_
 rintro v S1 _ hL1 ⟨bad', hW, hk, hb'⟩
 simp only [go_sem, seval]
 refine hQ _ _ _ ?_
 rw [k_body_normal]
 simp only [go_sem, seval, aF42]
 rw [retQ_some]
 exact ⟨bad', _, _, ⟨by trivial, fun hh => by cases hh⟩, hW, hk, hb'⟩
end
end Go.Proofs.YtegaklgjcicnfaaGreat
namespace Go.Proofs.YtegaklgjcicnfaaGreat
open Go Go.Proofs.YtegaklgjcicnfaaGreat.Abs
section
variable {S S' : St} {hi kp : Nat} {l : List Nd} {wp db dk : Nat} {v0 v1 : Int} {ag : Value} {bad : Bool} {bs ks : List Value}
/-- A plan that went on. -/
def Went (S : St) (hi kp : Nat) (l : List Nd) (wp db dk : Nat) (v0 v1 : Int) (ag : Value) (bad : Bool) (S' : St) : Prop :=
 ∃ bad' bs' ks', WorkAt S' hi kp l wp db dk v0 v1 ag bad' bs' ks' ∧ Keeps S S' (fun i => i ≠ wp ∧ i ≠ db ∧ i ≠ dk) ∧ (bad' = false → bad = false)
set_option maxHeartbeats 4000000 in
theorem inner43 (hok : ∀ x ∈ l, x.Ok) (hform : TForm l) (hl : l.length ≤ 24) (L : Value) (m n0 : Nat) (cs : List Value) (hL0 : Sl S 26 L m cs) (hLd : ∀ i, Value.blkOf L = some i → i ≠ wp ∧ i ≠ db ∧ i ≠ dk) (hm : m ≤ 100000000) (hp : PlacedAt l n0 m cs)
  (h : WorkAt S hi kp l wp db dk v0 v1 ag bad bs ks) : ACalls Tryz.prog 43 [ptr wp, L] S fun r S' => Went S hi kp l wp db dk v0 v1 ag bad S' ∧ (m = 0 → S' = S) := by
 refine run_of hmix Tryz.func43 cF43 rfl fun hL Q hQ => ?_
 obtain ⟨La, Le, rfl⟩ := hL0.slice
 simp only [go_sem, seval, aF43]
 refine lK_of (fun t' S' => ∃ (j : Nat) (bad' : Bool) (bs' ks' : List Value), j ≤ m ∧ Live S' ∧ WorkAt S' hi kp l wp db dk v0 v1 ag bad' bs' ks' ∧ Keeps S S' (fun i => i ≠ wp ∧ i ≠ db ∧ i ≠ dk) ∧ (bad' = false → bad = false) ∧ (m = 0 → S' = S) ∧
  Slots t' [(0, ptr wp), (12, .slice La m Le), (13, .int .i64 m), (14, .int .i64 j)]) (fun t' _ => m - (RowKit.intOf (t' 14)).toNat) ?_ ?_
 ·refine ⟨0, bad, bs, ks, Nat.zero_le _, hL, h, Keeps.refl _ _, id, fun _ => rfl, ?_⟩
  simp only [go_sem, seval, Int.natCast_add, Int.natCast_succ]
 rintro t1 S1 Q1 ⟨j, bad1, bs1, ks1, hj, hL1, hW, hk1, hb1, hm0, hs⟩ _ hN hE
 simp only [slots_cons, slots_nil] at hs
 by_cases hjm : j = m
 ·subst hjm
  simp only [go_sem, seval, hs, Int.lt_irrefl]
  refine hE _ _ _ (by simp) ?_
  simp only [go_sem, seval, hs]
  refine hQ _ _ _ ?_
  rw [k_body_normal]
  simp only [go_sem, seval, aF43]
  rw [retQ_some]
  exact ⟨⟨bad1, bs1, ks1, hW, hk1, hb1⟩, hm0⟩
 ·have hjl : (j : Int) < m := by omega
  have hj0 : (0 : Int) ≤ j := by omega
  have hw1 : IntKind.i64.wrap ((j : Int) + 1) = j + 1 := wrap64_id (by omega) (by omega)
  have hL2 := hL0.keeps hL hk1 hLd
  obtain ⟨d, o, f, hv, _, hcc⟩ := hL2.ne (by omega)
  cases hv
  obtain ⟨hfp, k, hk, hkn, hkl⟩ := hp j (by omega)
  have hx : cellsOf S1 d (o + j * 26) 26 = some ((cs.drop (j * 26)).take 26) := by rw [cellsOf_of_cells hcc (by omega)]
  have hN0 : ((cs.drop (j * 26)).take 26)[0]? = some (.int .i64 k) := by rw [List.getElem?_take, if_pos (by omega), List.getElem?_drop, Nat.add_zero]; exact hk
  generalize (cs.drop (j * 26)).take 26 = c26 at *
  have hff : Fl frameSg ((c26.drop 1).take 25) := hfp.sub 1 25
  obtain ⟨p, hpp, hpk⟩ := par_nat hform (by omega : 0 < k) hkl
  have r0 := rd_of_blk hW.row 0
  simp only [workV] at r0
  simp only [go_sem, seval, hs, hjl, hj0, Int.toNat_natCast, hx, hfp.N 26, hfp.F 26, hN0, r0]
  refine cK_of (parent70 hW.kin hok hkl) ?_
  rintro v S2 _ hL2' ⟨rfl, hS2⟩
  obtain rfl := hS2.symm
  rw [hpp]
  simp only [go_sem, seval, hs]
  refine cK_of (corner71 p (by omega) (by omega) hW) ?_
  rintro v S2 _ hL2' ⟨x, y, bad2, rfl, hW2, hk2, hb2⟩
  have s0 := rd_of_blk hW2.row 0
  have s3 := rd_of_blk hW2.row 3
  simp only [workV] at s0 s3
  have hpl : p < l.length := by omega
  have hpl' : (p : Int) < l.length := by omega
  have hp0 : (0 : Int) ≤ p := by omega
  have hbx := box_at hW2 hpl
  have hbo := (hW2.bok p hpl).1
  have hb3 : rd S2 db (p * 21 + 3) = some (.int .i64 (ig ((bs1.drop (p * 21)).take 21) 3)) := by rw [rd_of_cells hbx (by omega)]; exact hbo.I 3
  simp only [go_sem, seval, hs, s0, s3, hN0, hfp.N 26, hpl', hp0, Int.toNat_natCast, hb3]
  refine cK_of (style55 hW2.kin hok hkl) ?_
  rintro v S3 _ hL3 ⟨rfl, hS3⟩
  obtain rfl := hS3.symm
  have hsk := sty_fl (hok _ (List.getElem_mem hkl)).s
  have hsp := sty_fl (hok _ (List.getElem_mem hpl)).s
  simp only [go_sem, seval, hs, s0, s3, hpl', hp0, Int.toNat_natCast, hb3]
  refine cK_of (high73 p hpl hW2) ?_
  rintro v S3 _ hL3 ⟨⟨ha, hn, rfl⟩, hS3⟩
  obtain rfl := hS3.symm
  simp only [go_sem, seval, hs, s0, s3, hpl', hp0, Int.toNat_natCast, hb3]
  refine cK_of (style55 hW2.kin hok hpl) ?_
  rintro v S3 _ hL3 ⟨rfl, hS3⟩
  obtain rfl := hS3.symm
  generalize hck : l[k].s.cells = ck at *
  generalize hcp : l[p].s.cells = cp at *
  simp only [go_sem, seval, hs, s0, s3, hpl', hp0, Int.toNat_natCast, hb3, hsp.B 42]
  refine cK_of (by72 ck _ hn ha _ S2 hsk) ?_
  rintro v S3 _ hL3 ⟨⟨dx, dy, ok, rfl⟩, hS3⟩
  obtain rfl := hS3.symm
  simp only [go_sem, seval, hs]
  refine cK_of (is41 ok hW2) ?_
  rintro v S3 _ hL3 ⟨rfl, hS3⟩
  have hW3 := hW2.setBad (bad2 || !ok)
  rw [← hS3] at hW3
  have hk3 : Keeps S2 S3 (· ≠ wp) := by rw [hS3]; exact (Keeps.refl _ _).set (fun i _ h => h) _
  have hk13 : Keeps S S3 (fun i => i ≠ wp ∧ i ≠ db ∧ i ≠ dk) := (hk1.trans hk2 fun i _ h => h.1).trans hk3 fun i _ h => h.1
  have hb13 : (bad2 || !ok) = false → bad = false := fun hb => hb1 (hb2 (by cases bad2 <;> simp at hb ⊢))
  generalize (bad2 || !ok) = bad3 at *
  cases bad3
  case' true =>
   simp only [go_sem, seval, hs]
   refine hE _ _ _ (by simp) ?_
   simp only [go_sem, seval, hs]
   refine hQ _ _ _ ?_
   rw [k_body_ret]
   simp only [go_sem, seval, aF43]
   rw [retQ_some]
   exact ⟨⟨_, _, _, hW3, hk13, hb13⟩, fun h0 => by omega⟩
  simp only [go_sem, seval, hs, hN0, hfp.N 26, hff.N 25, hff.F 25, hfp.I 1, hfp.I 2]
  obtain ⟨Sa, hSa⟩ : ∃ Sa, Sa = S3.new ⟨false, iV [x, ig c26 1, dx]⟩ := ⟨_, rfl⟩
  obtain ⟨Sb, hSb⟩ : ∃ Sb, Sb = Sa.new ⟨false, iV [y, ig c26 2, dy]⟩ := ⟨_, rfl⟩
  have hLa : Live Sa := by rw [hSa]; exact hL3.new _
  have hLb : Live Sb := by rw [hSb]; exact hLa.new _
  have ka : KeepsAll S3 Sa := by rw [hSa]; exact Keeps.of_new _ _ _
  have kb : KeepsAll Sa Sb := by rw [hSb]; exact Keeps.of_new _ _ _
  have x1 : Sl Sa 1 (.slice (some ⟨S3.next, 0, none⟩) 3 1) 3 (iV [x, ig c26 1, dx]) := by rw [hSa]; exact sl_new S3 _
  have x2 : Sl Sb 1 (.slice (some ⟨S3.next + 1, 0, none⟩) 3 1) 3 (iV [y, ig c26 2, dy]) := by rw [hSb]; have := sl_new Sa [y, ig c26 2, dy]; rw [show Sa.next = S3.next + 1 by rw [hSa]; rfl] at this; exact this
  have x1b := x1.keeps hLa kb fun _ _ => trivial
  have hWb := (hW3.keeps hL3 ka).keeps hLa kb
  have e : (S3.new ⟨false, [.int .i64 x, .int .i64 (ig c26 1), .int .i64 dx]⟩).new ⟨false, [.int .i64 y, .int .i64 (ig c26 2), .int .i64 dy]⟩ = Sb := by rw [hSb, hSa]; rfl
  have wlt := hL3 _ _ hW3.row
  rw [e]
  refine cK_of (sum74' _ [x, ig c26 1, dx] hLb hWb x1b (by simp)) ?_
  rintro v S4 _ hL4 ⟨m1, bad4, rfl, hW4, hk4, _, hb4⟩
  have x2' := x2.keeps hLb hk4 fun i hi => by simp [Value.blkOf] at hi; show i ≠ wp; omega
  simp only [go_sem, seval]
  refine cK_of (sum74' _ [y, ig c26 2, dy] hL4 hW4 x2' (by simp)) ?_
  rintro v S5 _ hL5 ⟨m2, bad5, rfl, hW5, hk5, _, hb5⟩
  simp only [go_sem, seval]
  refine cK_of (put42 k hkl ((c26.drop 1).take 25) hff m1 m2 _ _ _ _ hW5) ?_
  rintro v S6 _ hL6 ⟨bad6, cb, bb, hcb, hW6, hk6, hb6⟩
  simp only [go_sem, seval, hs, hw1]
  refine hN _ _ ⟨j + 1, bad6, _, _, by omega, hL6, hW6, ((((hk13.trans ka fun _ _ _ => trivial).trans kb fun _ _ _ => trivial).trans hk4 fun i _ h => h.1).trans hk5 fun i _ h => h.1).trans hk6 fun i _ h => h, fun hb => hb13 (hb4 (hb5 (hb6 hb)).1).1, fun h0 => by omega, ?_⟩ ?_
  ·simp only [go_sem, seval, Int.natCast_add, Int.natCast_succ, hs]
  ·simp only [go_sem, seval, hs]
   simp [RowKit.intOf]
   omega
end
end Go.Proofs.YtegaklgjcicnfaaGreat
namespace Go.Proofs.YtegaklgjcicnfaaGreat
open Go Go.Proofs.YtegaklgjcicnfaaGreat.Abs
section
variable {S S' : St} {hi kp : Nat} {l : List Nd} {wp db dk : Nat} {v0 v1 : Int} {ag : Value} {bad : Bool} {bs ks : List Value}
theorem holdOf_lt (htr : Tr (par l) l.length) {n : Nat} (hn : n < l.length) : -1 ≤ holdOf l n ∧ holdOf l n < l.length := by
 have hp := htr n hn
 have hf : ∀ (d : Nat) (a : Int), -1 ≤ a → a < l.length → a < d → -1 ≤ firstPosd l a ∧ firstPosd l a < l.length := by
  intro d
  induction d with
  | zero => intro a h1 h2 h3; rw [firstPosd_neg (by omega)]; omega
  | succ d ih =>
   intro a h1 h2 h3
   by_cases ha : a < 0
   ·rw [firstPosd_neg ha]; omega
   ·obtain ⟨k, rfl⟩ : ∃ k : Nat, a = k := ⟨a.toNat, by omega⟩
    rw [firstPosd_pos htr (by omega)]
    have := htr k (by omega)
    split
    ·omega
    ·exact ih _ (by omega) (by omega) (by omega)
 unfold holdOf
 split
 ·omega
 split
 ·omega
 split
 ·omega
 exact hf l.length _ (by omega) (by omega) (by omega)
set_option maxHeartbeats 1000000 in
theorem holder77 (hok : ∀ x ∈ l, x.Ok) (htr : Tr (par l) l.length) (n : Nat) (hn : n < l.length) (h : WorkAt S hi kp l wp db dk v0 v1 ag bad bs ks) : ACalls Tryz.prog 77 [ptr wp, .int .i64 n] S fun r S' => (∃ a b c d t, r = .tuple #[.agg (iV [a, b, c, d]).toArray, .bool t] ∧ (holdOf l n = -1 → [a, b, c, d] = [0, 0, v0, v1])) ∧ S' = S := by
 refine run_of hmix Tryz.func77 cF77 rfl fun hL Q hQ => ?_
 have r0 := rd_of_blk h.row 0
 have r1 := rd_of_blk h.row 1
 have r2 := rd_of_blk h.row 2
 have r3 := rd_of_blk h.row 3
 simp only [workV] at r0 r1 r2 r3
 simp only [go_sem, seval, aF77, r0]
 refine cK_of (hold53 hok htr n hn S h.kin) ?_
 rintro v S1 _ hL1 ⟨rfl, hS1⟩
 obtain rfl := hS1.symm
 have hh := holdOf_lt htr hn
 cases hv : holdOf l n == -1
 case' true =>
  simp only [go_sem, seval, hv, r1, r2]
  refine fin_at hQ rfl ?_; simp only [go_sem, seval, aF77]; rw [retQ_some]; simp only [oneOr]
  exact ⟨⟨_, _, _, _, _, rfl, fun _ => rfl⟩, trivial⟩
 have hv' : holdOf l n ≠ -1 := by simpa using hv
 obtain ⟨p, hp⟩ : ∃ p : Nat, holdOf l n = p := ⟨(holdOf l n).toNat, by omega⟩
 rw [hp] at hv hh
 rw [hp]
 have hpl : p < l.length := by omega
 have hpl' : (p : Int) < l.length := by omega
 have hp0 : (0 : Int) ≤ p := by omega
 have hbx := box_at h hpl
 have hbo := (h.bok p hpl).1
 have hsp := sty_fl (hok _ (List.getElem_mem hpl)).s
 generalize (bs.drop (p * 21)).take 21 = cb at *
 simp only [go_sem, seval, hv, r0, r3, hpl', hp0, Int.toNat_natCast, hbx]
 refine cK_of (pads56 cb S hbo) ?_
 rintro v S1 _ hL1 ⟨rfl, hS1⟩
 obtain rfl := hS1.symm
 have he : ∃ a b c d, padsL cb = [a, b, c, d] := by
  unfold padsL
  split <;> exact ⟨_, _, _, _, rfl⟩
 obtain ⟨x0, y0, x1, y1, he⟩ := he
 rw [he]
 simp only [go_sem, seval, r0]
 refine cK_of (style55 h.kin hok hpl) ?_
 rintro v S1 _ hL1 ⟨rfl, hS1⟩
 obtain rfl := hS1.symm
 generalize l[p].s.cells = cp at *
 simp only [go_sem, seval, hsp.B 42, iV, List.map_cons, List.map_nil]
 refine fin_at hQ rfl ?_; simp only [go_sem, seval, aF77]; rw [retQ_some]; simp only [oneOr]
 exact ⟨⟨x0, y0, x1, y1, _, rfl, fun hh' => by omega⟩, trivial⟩
end
end Go.Proofs.YtegaklgjcicnfaaGreat
