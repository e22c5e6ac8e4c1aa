/- What all texts lean on. -/
import Derived.Test.YtegaklgjcicnfaaGreatCoreAn
import Derived.Test.YtegaklgjcicnfaaGreatKC
set_option linter.unusedSimpArgs false
set_option linter.unusedVariables false
namespace Go.Proofs.YtegaklgjcicnfaaGreat
open Go Go.Proofs.YtegaklgjcicnfaaGreat.Abs
theorem hmix : Tryz.prog.follows .mixedOrders = true := by kernel_rfl
/-- A step of an Out: what else there is stays; its bytes may lie in a new block. -/
structure OutStep (S : St) (o : Nat) (v : Value) (S' : St) (v' : Value) : Prop where
 keep : Keeps S S' fun i => i ≠ o ∧ Value.blkOf v ≠ some i
 data : ∀ i, Value.blkOf v' = some i → Value.blkOf v = some i ∨ S.next ≤ i
theorem OutStep.refl (S : St) (o : Nat) (v : Value) : OutStep S o v S v := ⟨Keeps.refl _ _, fun i h => .inl h⟩
theorem OutStep.trans {S S' S'' : St} {o : Nat} {v v' v'' : Value} (h : OutStep S o v S' v') (k : OutStep S' o v' S'' v'') : OutStep S o v S'' v'' := by
 refine ⟨h.keep.trans k.keep (fun i hi hp => ⟨hp.1, fun e => ?_⟩), fun i hi => ?_⟩
 ·rcases h.data i e with h' | h'
  ·exact hp.2 h'
  ·omega
 ·rcases k.data i hi with h' | h'
  ·exact h.data i h'
  ·exact .inr (Nat.le_trans h.keep.1 h')
theorem wrap64u (n : Int) : IntKind.u64.wrap n = n % 18446744073709551616 := by simp [IntKind.wrap, IntKind.signed, IntKind.bits]
theorem wrap64_id {n : Int} (h0 : -9223372036854775808 ≤ n) (h1 : n < 9223372036854775808) : IntKind.i64.wrap n = n := by
 rw [IntKind.wrap_i64]; omega
abbrev ptr (o : Nat) : Value := .pointer (some ⟨o, 0, none⟩)
def InI64 (n : Int) : Prop := -9223372036854775808 ≤ n ∧ n < 9223372036854775808
theorem wf64 {n : Int} (h : (Lit.int .i64 n).wf = true) : InI64 n := by
 simp [Lit.wf, IntKind.min, IntKind.max, IntKind.signed, IntKind.bits] at h
 exact ⟨h.1, by omega⟩
theorem OutStep.old {S0 S S' : St} {o : Nat} {d d' : Value} (h : OutStep S o d S' d') (hk : KeepsAll S0 S) (ho : S0.next ≤ o) (hd : Fresh S0 d) : KeepsAll S0 S' ∧ Fresh S0 d' := by
 refine ⟨hk.trans h.keep (fun i hi _ => ⟨by omega, fun e => ?_⟩), fun i hi => ?_⟩
 ·have := hd i e; omega
 ·rcases h.data i hi with h' | h'
  ·exact hd i h'
  ·exact Nat.le_trans hk.1 h'
end Go.Proofs.YtegaklgjcicnfaaGreat
namespace Go.Proofs.YtegaklgjcicnfaaGreat
open Go Go.Proofs.YtegaklgjcicnfaaGreat.Abs
structure Sty where
 shown : Bool
 pos : Int
 lens : List (Int × Int)
 border : List Int
 rtl : Bool
 hasZ : Bool
 z : Int
 clip : Bool
 back : Int
 line : Int
def lenCells (ls : List (Int × Int)) : List Value := ls.flatMap fun p => [.int .i64 p.1, .int .i64 p.2]
def Sty.cells (s : Sty) : List Value :=
 [.bool s.shown, .int .i64 s.pos] ++ lenCells s.lens ++ s.border.map (Value.int .i64) ++ [.bool s.rtl, .bool s.hasZ, .int .i64 s.z, .bool s.clip, .int .i64 s.back, .int .i64 s.line]
structure Sty.Ok (s : Sty) : Prop where
 lens : s.lens.length = 18
 border : s.border.length = 4
 rl : ∀ p ∈ s.lens, InI64 p.1 ∧ InI64 p.2
 rb : ∀ n ∈ s.border, InI64 n
 rp : InI64 s.pos
 rz : InI64 s.z
 rk : InI64 s.back
 rn : InI64 s.line
def styleSh : List Cel := [.bool, .int .i64] ++ List.replicate 36 (.int .i64) ++ List.replicate 4 (.int .i64) ++ [.bool, .bool, .int .i64, .bool, .int .i64, .int .i64]
theorem flat_cons {c : Cel} {sh : List Cel} {cs : List Value} (h : FlatOk (c :: sh) cs) : ∃ v r, cs = v :: r ∧ CelOk c v ∧ FlatOk sh r := by
 cases cs with
 | nil => exact h.elim
 | cons v r => exact ⟨v, r, rfl, h.1, h.2⟩
theorem flat_nil {cs : List Value} (h : FlatOk [] cs) : cs = [] := by
 cases cs with
 | nil => rfl
 | cons v r => exact h.elim
theorem flat_split : ∀ {sh sh' : List Cel} {cs : List Value}, FlatOk (sh ++ sh') cs → ∃ a b, cs = a ++ b ∧ FlatOk sh a ∧ FlatOk sh' b
 | [], sh', cs, h => ⟨[], cs, rfl, trivial, h⟩
 | c :: sh, sh', v :: cs, ⟨h1, h2⟩ => by
  obtain ⟨a, b, rfl, ha, hb⟩ := flat_split h2
  exact ⟨v :: a, b, rfl, ⟨h1, ha⟩, hb⟩
theorem flat_ints : ∀ {n : Nat} {cs : List Value}, FlatOk (List.replicate n (.int .i64)) cs → ∃ xs : List Int, xs.length = n ∧ cs = xs.map (Value.int .i64) ∧ ∀ x ∈ xs, InI64 x
 | 0, [], _ => ⟨[], rfl, rfl, by simp⟩
 | n + 1, v :: cs, h => by
  rw [List.replicate_succ] at h
  obtain ⟨⟨x, rfl, hw⟩, h2⟩ := h
  obtain ⟨xs, h3, rfl, h4⟩ := flat_ints h2
  refine ⟨x :: xs, by simp [h3], rfl, fun y hy => ?_⟩
  rcases List.mem_cons.1 hy with rfl | hy
  ·exact wf64 hw
  ·exact h4 y hy
theorem pairs : ∀ (n : Nat) (xs : List Int), xs.length = 2 * n → (∀ x ∈ xs, InI64 x) → ∃ ls : List (Int × Int), ls.length = n ∧ xs.map (Value.int .i64) = lenCells ls ∧ ∀ p ∈ ls, InI64 p.1 ∧ InI64 p.2
 | 0, [], _, _ => ⟨[], rfl, rfl, by simp⟩
 | n + 1, a :: b :: xs, h, hx => by
  obtain ⟨ls, h1, h2, h3⟩ := pairs n xs (by simp at h; omega) fun x hm => hx x (by simp [hm])
  refine ⟨(a, b) :: ls, by simp [h1], by simp [lenCells] at h2 ⊢; exact h2, fun p hp => ?_⟩
  rcases List.mem_cons.1 hp with rfl | hp
  ·exact ⟨hx _ (by simp), hx _ (by simp)⟩
  ·exact h3 p hp
 | n + 1, [a], h, _ => by simp at h; omega
theorem sty_of {cs : List Value} (h : FlatOk styleSh cs) : ∃ s : Sty, s.Ok ∧ cs = s.cells := by
 obtain ⟨a, b, rfl, h1, h2⟩ := flat_split h
 obtain ⟨a1, a2, rfl, h3, h4⟩ := flat_split h1
 obtain ⟨a3, a4, rfl, h5, h6⟩ := flat_split h3
 obtain ⟨xs, hx1, rfl, hx2⟩ := flat_ints h6
 obtain ⟨ys, hy1, rfl, hy2⟩ := flat_ints h4
 obtain ⟨ls, hl1, hl2, hl3⟩ := pairs 18 xs (by omega) hx2
 obtain ⟨u, a5, rfl, ⟨shown, rfl⟩, h5a⟩ := flat_cons h5
 obtain ⟨v, a6, rfl, ⟨pos, rfl, w2⟩, h5b⟩ := flat_cons h5a
 obtain rfl := flat_nil h5b
 obtain ⟨c1, b1, rfl, ⟨rtl, rfl⟩, h2a⟩ := flat_cons h2
 obtain ⟨c2, b2, rfl, ⟨hasZ, rfl⟩, h2b⟩ := flat_cons h2a
 obtain ⟨c3, b3, rfl, ⟨z, rfl, w3⟩, h2c⟩ := flat_cons h2b
 obtain ⟨c4, b4, rfl, ⟨clip, rfl⟩, h2d⟩ := flat_cons h2c
 obtain ⟨c5, b5, rfl, ⟨back, rfl, w5⟩, h2e⟩ := flat_cons h2d
 obtain ⟨c6, b6, rfl, ⟨line, rfl, w6⟩, h2f⟩ := flat_cons h2e
 obtain rfl := flat_nil h2f
 exact ⟨⟨shown, pos, ls, ys, rtl, hasZ, z, clip, back, line⟩, ⟨hl1, hy1, hl3, hy2, wf64 w2, wf64 w3, wf64 w5, wf64 w6⟩, by rw [hl2]; rfl⟩
theorem lenCells_length (ls : List (Int × Int)) : (lenCells ls).length = ls.length * 2 := by
 induction ls with
 | nil => rfl
 | cons p ps ih => simp [lenCells] at ih ⊢; omega
theorem lenCells_at (ps : List (Int × Int)) (k : Nat) (h : k < ps.length) : ((lenCells ps).drop (k * 2)).take 2 = [.int .i64 ps[k].1, .int .i64 ps[k].2] := by
 induction ps generalizing k with
 | nil => simp at h
 | cons p ps ih =>
  cases k with
  | zero => simp [lenCells]
  | succ k =>
   have := ih k (by simpa using h)
   rw [Nat.succ_mul]
   simpa [lenCells] using this
theorem Sty.Ok.len {s : Sty} (h : s.Ok) : s.cells.length = 48 := by
 simp [Sty.cells, lenCells_length, h.lens, h.border]
/-- A style in memory. -/
def StyAt (S : St) (b : Nat) (s : Sty) : Prop := cellsOf S b 0 48 = some s.cells
theorem StyAt.of_blk {S : St} {b : Nat} {s : Sty} {ro : Bool} (h : S.blk b = some ⟨ro, s.cells⟩) (hs : s.Ok) : StyAt S b s := by
 unfold StyAt
 rw [cellsOf_of_blk h, if_pos (by rw [hs.len]; omega), List.drop_zero, List.take_of_length_le (by rw [hs.len]; omega)]
theorem StyAt.rd {S : St} {b : Nat} {s : Sty} (h : StyAt S b s) (hs : s.Ok) (j : Nat) (hj : j < 48) : rd S b j = s.cells[j]? := by
 have := rd_of_cells h hj
 rwa [Nat.zero_add] at this
theorem Sty.head {s : Sty} : s.cells[0]? = some (.bool s.shown) ∧ s.cells[1]? = some (.int .i64 s.pos) := by simp [Sty.cells]
theorem Sty.tail {s : Sty} (hs : s.Ok) : s.cells.drop 42 = [.bool s.rtl, .bool s.hasZ, .int .i64 s.z, .bool s.clip, .int .i64 s.back, .int .i64 s.line] := by
 unfold Sty.cells
 rw [List.drop_left' (by simp [lenCells_length, hs.lens, hs.border])]
theorem Sty.mid {s : Sty} (hs : s.Ok) : (s.cells.drop 38).take 4 = s.border.map (Value.int .i64) := by
 unfold Sty.cells
 rw [List.append_assoc, List.append_assoc, ← List.append_assoc [Value.bool s.shown, Value.int .i64 s.pos], List.drop_left' (by simp [lenCells_length, hs.lens]), List.take_left' (by simp [hs.border])]
theorem Sty.lensAt {s : Sty} (hs : s.Ok) : (s.cells.drop 2).take 36 = lenCells s.lens := by
 unfold Sty.cells
 rw [List.append_assoc, List.append_assoc, List.drop_left' (by simp), List.take_left' (by simp [lenCells_length, hs.lens])]
structure StyRd (S : St) (b : Nat) (s : Sty) : Prop where
 shown : rd S b 0 = some (.bool s.shown)
 pos : rd S b 1 = some (.int .i64 s.pos)
 rtl : rd S b 42 = some (.bool s.rtl)
 hasZ : rd S b 43 = some (.bool s.hasZ)
 z : rd S b 44 = some (.int .i64 s.z)
 clip : rd S b 45 = some (.bool s.clip)
 back : rd S b 46 = some (.int .i64 s.back)
 line : rd S b 47 = some (.int .i64 s.line)
 border : ∀ k (h : k < s.border.length), rd S b (38 + k) = some (.int .i64 s.border[k])
 kind : ∀ k (h : k < s.lens.length), rd S b (2 + k * 2) = some (.int .i64 s.lens[k].1)
 num : ∀ k (h : k < s.lens.length), rd S b (2 + k * 2 + 1) = some (.int .i64 s.lens[k].2)
 len : ∀ k (h : k < s.lens.length), cellsOf S b (2 + k * 2) 2 = some [.int .i64 s.lens[k].1, .int .i64 s.lens[k].2]
 span : ∀ k n, k + n ≤ 18 → cellsOf S b (2 + k * 2) (n * 2) = some (lenCells ((s.lens.drop k).take n))
 borders : cellsOf S b 38 4 = some (s.border.map (Value.int .i64))
theorem lenCells_append (a b : List (Int × Int)) : lenCells (a ++ b) = lenCells a ++ lenCells b := by simp [lenCells]
theorem lenCells_span (ps : List (Int × Int)) (k n : Nat) : ((lenCells ps).drop (k * 2)).take (n * 2) = lenCells ((ps.drop k).take n) := by
 have hd : (lenCells ps).drop (k * 2) = lenCells (ps.drop k) := by
  induction ps generalizing k with
  | nil => simp [lenCells]
  | cons p ps ih =>
   cases k with
   | zero => rfl
   | succ k => rw [Nat.succ_mul]; simpa [lenCells] using ih k
 rw [hd]
 generalize ps.drop k = qs
 induction qs generalizing n with
 | nil => simp [lenCells]
 | cons p ps ih =>
  cases n with
  | zero => simp [lenCells]
  | succ n => rw [Nat.succ_mul]; simpa [lenCells] using ih n
theorem StyAt.all {S : St} {b : Nat} {s : Sty} (h : StyAt S b s) (hs : s.Ok) : StyRd S b s := by
 have hr := h.rd hs
 have ht : ∀ j, j < 6 → Go.Proofs.YtegaklgjcicnfaaGreat.Abs.rd S b (42 + j) = ([.bool s.rtl, .bool s.hasZ, .int .i64 s.z, .bool s.clip, .int .i64 s.back, .int .i64 s.line] : List Value)[j]? := fun j hj => by
  rw [hr _ (by omega), ← Sty.tail hs, List.getElem?_drop]
 have hl : ∀ k, k < s.lens.length → cellsOf S b (2 + k * 2) 2 = some ((lenCells s.lens).drop (k * 2) |>.take 2) := fun k hk => by
  have := hs.lens
  have h1 := cellsOf_of_cells h (j := 2 + k * 2) (n := 2) (by omega)
  rw [Nat.zero_add] at h1
  rw [h1, ← Sty.lensAt hs, List.drop_take, List.take_take, List.drop_drop, Nat.min_eq_left (by omega)]
 have hl' : ∀ k (hk : k < s.lens.length), cellsOf S b (2 + k * 2) 2 = some [.int .i64 s.lens[k].1, .int .i64 s.lens[k].2] := fun k hk => by
  rw [hl k hk, lenCells_at s.lens k hk]
 refine ⟨by rw [hr 0 (by omega), Sty.head.1], by rw [hr 1 (by omega), Sty.head.2], by simpa using ht 0 (by omega), by simpa using ht 1 (by omega), by simpa using ht 2 (by omega), by simpa using ht 3 (by omega), by simpa using ht 4 (by omega), by simpa using ht 5 (by omega), fun k hk => ?_, fun k hk => ?_, fun k hk => ?_, hl', fun k n hkn => ?_, ?_⟩
 ·have hb := hs.border
  have h4 : ((s.cells.drop 38).take 4)[k]? = (s.border.map (Value.int .i64))[k]? := by rw [Sty.mid hs]
  rw [List.getElem?_take, if_pos (by omega), List.getElem?_drop] at h4
  rw [hr _ (by omega), h4]
  simp [hk]
 ·simpa using rd_of_cells (hl' k hk) (j := 0) (by omega)
 ·simpa using rd_of_cells (hl' k hk) (j := 1) (by omega)
 ·have h1 := cellsOf_of_cells h (j := 2 + k * 2) (n := n * 2) (by omega)
  rw [Nat.zero_add] at h1
  rw [h1, ← lenCells_span, ← Sty.lensAt hs, List.drop_take, List.take_take, List.drop_drop, Nat.min_eq_left (by omega)]
 ·have h1 := cellsOf_of_cells h (j := 38) (n := 4) (by omega)
  rw [Nat.zero_add, Sty.mid hs] at h1
  exact h1
/-- The same, of the cells alone. -/
structure StyC (s : Sty) : Prop where
 all : List.take 48 s.cells = s.cells
 len : s.cells.length = 48
 shown : s.cells[0]? = some (.bool s.shown)
 pos : s.cells[1]? = some (.int .i64 s.pos)
 rtl : s.cells[42]? = some (.bool s.rtl)
 hasZ : s.cells[43]? = some (.bool s.hasZ)
 z : s.cells[44]? = some (.int .i64 s.z)
 clip : s.cells[45]? = some (.bool s.clip)
 back : s.cells[46]? = some (.int .i64 s.back)
 line : s.cells[47]? = some (.int .i64 s.line)
 border : ∀ k (h : k < s.border.length), s.cells[38 + k]? = some (.int .i64 s.border[k])
 kind : ∀ k (h : k < s.lens.length), s.cells[2 + k * 2]? = some (.int .i64 s.lens[k].1)
 num : ∀ k (h : k < s.lens.length), s.cells[2 + k * 2 + 1]? = some (.int .i64 s.lens[k].2)
 one : ∀ k (h : k < s.lens.length), (s.cells.drop (2 + k * 2)).take 2 = [.int .i64 s.lens[k].1, .int .i64 s.lens[k].2]
 span : ∀ k n, k + n ≤ 18 → (s.cells.drop (2 + k * 2)).take (n * 2) = lenCells ((s.lens.drop k).take n)
 borders : (s.cells.drop 38).take 4 = s.border.map (Value.int .i64)
theorem Sty.Ok.c {s : Sty} (hs : s.Ok) : StyC s := by
 have hl := hs.len
 have hb : ((⟨fun _ => none, 0⟩ : St).new ⟨false, s.cells⟩).blk 0 = some ⟨false, s.cells⟩ := by simp [St.blk_new]
 have a := (StyAt.of_blk hb hs).all hs
 have hr : ∀ j, Go.Proofs.YtegaklgjcicnfaaGreat.Abs.rd ((⟨fun _ => none, 0⟩ : St).new ⟨false, s.cells⟩) 0 j = s.cells[j]? := fun j => by rw [rd_of_blk hb]
 have hc : ∀ j n, j + n ≤ 48 → cellsOf ((⟨fun _ => none, 0⟩ : St).new ⟨false, s.cells⟩) 0 j n = some ((s.cells.drop j).take n) := fun j n h => by rw [cellsOf_of_blk hb, if_pos (by simp only; omega)]
 have h18 := hs.lens
 exact ⟨List.take_of_length_le (by omega), hl, by rw [← hr]; exact a.shown, by rw [← hr]; exact a.pos, by rw [← hr]; exact a.rtl, by rw [← hr]; exact a.hasZ, by rw [← hr]; exact a.z, by rw [← hr]; exact a.clip, by rw [← hr]; exact a.back, by rw [← hr]; exact a.line,
  fun k h => by rw [← hr]; exact a.border k h, fun k h => by rw [← hr]; exact a.kind k h, fun k h => by rw [← hr]; exact a.num k h, fun k h => by have := a.len k h; rw [hc _ _ (by omega)] at this; exact Option.some.inj this,
  fun k n h => by have := a.span k n h; rw [hc _ _ (by omega)] at this; exact Option.some.inj this, by have := a.borders; rw [hc _ _ (by omega)] at this; exact Option.some.inj this⟩
theorem StyAt.keeps {S S' : St} {b : Nat} {s : Sty} (h : StyAt S b s) (hk : S'.blk b = S.blk b) : StyAt S' b s := by
 unfold StyAt
 rw [cellsOf_congr hk]
 exact h
/-- Is a length as it may be, at its place? -/
def LenOk (j : Nat) (p : Int × Int) : Prop := (p.1 = 0 ∧ p.2 = 0 ∨ p.1 = 1 ∨ p.1 = 2) ∧ (p.2 < 0 → ¬ (4 ≤ j ∧ j < 10 ∨ 14 ≤ j)) ∧ (14 ≤ j → p.1 ≠ 0)
def SFormed (s : Sty) : Prop :=
 (∀ j (h : j < s.lens.length), LenOk j s.lens[j]) ∧ (∀ k (h : k < s.border.length), 0 ≤ s.border[k]) ∧ (0 ≤ s.pos ∧ s.pos ≤ 3 ∧ 0 ≤ s.back ∧ 0 ≤ s.line ∧ (s.hasZ = true ∨ s.z = 0))
def LenIn (p : Int × Int) : Prop := (p.1 = 1 → -1099511627776 ≤ p.2 ∧ p.2 ≤ 1099511627776) ∧ (p.1 = 2 → -1000000 ≤ p.2 ∧ p.2 ≤ 1000000)
def SWithin (s : Sty) : Prop :=
 (∀ j (h : j < s.lens.length), LenIn s.lens[j]) ∧ (∀ k (h : k < s.border.length), s.border[k] ≤ 1099511627776) ∧ (-1073741824 ≤ s.z ∧ s.z ≤ 1073741824 ∧ s.back ≤ 16777216 ∧ s.line ≤ 16777216)
end Go.Proofs.YtegaklgjcicnfaaGreat
namespace Go.Proofs.YtegaklgjcicnfaaGreat
open Go Go.Proofs.YtegaklgjcicnfaaGreat.Abs
def LenF (p : Int × Int) : Prop := p.1 = 0 ∧ p.2 = 0 ∨ p.1 = 1 ∨ p.1 = 2
theorem formed65 (a b : Int) (S : St) : ACalls Tryz.prog 146 [.agg #[.int .i64 a, .int .i64 b]] S fun r S' => (∃ c, r = .bool c ∧ (c = true ↔ LenF (a, b))) ∧ KeepsAll S S' := by
 refine run_of hmix Tryz.func146 cF146 rfl fun hL Q hQ => ?_
 have hk : KeepsAll S S := Keeps.refl _ _
 by_cases h0 : a = 0
 ·subst h0
  by_cases h1 : b = 0
  ·subst h1
   simp only [go_sem, seval, aF146]
   refine fin_at hQ rfl ?_; simp only [go_sem, seval, aF146]; rw [retQ_some]; simp only [oneOr]
   exact ⟨⟨_, rfl, by simp [LenF]⟩, hk⟩
  ·simp only [go_sem, seval, aF146, show (b == 0) = false by simpa using h1]
   refine fin_at hQ rfl ?_; simp only [go_sem, seval, aF146]; rw [retQ_some]; simp only [oneOr]
   exact ⟨⟨_, rfl, by simp [LenF, h1]⟩, hk⟩
 ·by_cases h1 : a = 1
  ·subst h1
   simp only [go_sem, seval, aF146]
   refine fin_at hQ rfl ?_; simp only [go_sem, seval, aF146]; rw [retQ_some]; simp only [oneOr]
   exact ⟨⟨_, rfl, by simp [LenF]⟩, hk⟩
  ·simp only [go_sem, seval, aF146, show (a == 0) = false by simpa using h0, show (a == 1) = false by simpa using h1]
   refine fin_at hQ rfl ?_; simp only [go_sem, seval, aF146]; rw [retQ_some]; simp only [oneOr]
   exact ⟨⟨_, rfl, by simp [LenF, h0, h1]⟩, hk⟩
def ptrs (b o k : Nat) : List Value := (List.range k).map fun j => .pointer (some ⟨b, o + j * 2, none⟩)
theorem ptrs_succ (b o k : Nat) : ptrs b o (k + 1) = ptrs b o k ++ [.pointer (some ⟨b, o + k * 2, none⟩)] := by simp [ptrs, List.range_succ]
def IsL (S : St) (l : Nat) (v : Value) (n : Nat) (cs : List Value) : Prop := S.blk l = some ⟨false, [v]⟩ ∧ Own S 1 v n cs ∧ Value.blkOf v ≠ some l
/-- An append onto what a block bears, and back into it. -/
theorem IsL.app {S S' : St} {l n : Nat} {v v' : Value} {cs : List Value} (h : IsL S l v n cs) (hL : Live S) {n' : Nat} {cs' : List Value} (h1 : Own S' 1 v' n' cs') (h2 : Keeps S S' fun i => Value.blkOf v ≠ some i)
  (h3 : ∀ i, Value.blkOf v' = some i → Value.blkOf v = some i ∨ S.next ≤ i) : IsL (S'.set l ⟨false, [v']⟩) l v' n' cs' ∧ OutStep S l v (S'.set l ⟨false, [v']⟩) v' := by
 have hl := hL _ _ h.1
 have hne : Value.blkOf v' ≠ some l := fun e => by
  rcases h3 _ e with h' | h'
  ·exact h.2.2 h'
  ·omega
 refine ⟨⟨by simp [St.blk_set], h1.keep fun i hi => ?_, hne⟩, ⟨(h2.mono fun i _ hp => hp.2).set (fun i _ hp => hp.1) _, h3⟩⟩
 rw [St.blk_set, if_neg]
 intro e
 exact hne (e ▸ hi)
theorem four91 (b o l : Nat) (v : Value) (n : Nat) (cs : List Value) (S : St) (h : IsL S l v n cs) (hn : n ≤ 1000) :
  ACalls Tryz.prog 147 [.pointer (some ⟨b, o, none⟩), ptr l] S fun r S' => r = .tuple #[] ∧ ∃ v', IsL S' l v' (n + 4) (cs ++ ptrs b o 4) ∧ OutStep S l v S' v' := by
 refine run_of hmix Tryz.func147 cF147 rfl fun hL Q hQ => ?_
 simp only [go_sem, seval, aF147]
 refine lK_of (fun t' S' => ∃ (k : Nat) (v' : Value), k ≤ 4 ∧ t' 0 = .pointer (some ⟨b, o, none⟩) ∧ t' 1 = ptr l ∧ t' 4 = .int .i64 k ∧ IsL S' l v' (n + k) (cs ++ ptrs b o k) ∧ OutStep S l v S' v') (fun t' _ => (4 - RowKit.intOf (t' 4)).toNat) ?_ ?_
 ·refine ⟨0, v, by omega, ?_, ?_, ?_, by simpa [ptrs] using h, .refl _ _ _⟩
  ·simp only [go_sem, seval]
  ·simp only [go_sem, seval]
  ·simp only [go_sem, seval]
 ·rintro t1 S1 Q1 ⟨k, v1, hk, h0, h1, h4, hI, hs⟩ hL1 hN hE
  by_cases hk4 : k = 4
  ·subst hk4
   simp only [go_sem, seval, h4, show ¬ (((4 : Nat) : Int) < 4) by omega]
   refine hE _ _ _ (by simp) ?_
   simp only [go_sem, seval]
   refine fin_at hQ rfl ?_; simp only [go_sem, seval, aF147]; rw [retQ_some]; simp only [oneOr]
   exact ⟨trivial, v1, hI, hs⟩
  ·have hlt : ((k : Int) < 4) := by omega
   have hk0 : (0 : Int) ≤ k := by omega
   have hk1 : IntKind.i64.wrap ((k : Int) + 1) = k + 1 := wrap64_id (by omega) (by omega)
   have hl := hL1 _ _ hI.1
   have hr : rd S1 l 0 = some v1 := by rw [rd_of_blk hI.1]; rfl
   simp only [go_sem, seval, h0, h1, h4, hlt, hk0, Int.toNat_natCast, hr, Nat.ne_of_lt hl, (show (((4 : Nat) : Int)) = 4 from rfl)]
   ·refine hK_of (append_own (cs := cs ++ ptrs b o k) (k := 1) (ds := [.pointer (some ⟨b, o + k * 2, none⟩)]) (by omega) (hI.2.1.keep (fun i hi => ?_)) (.inr ⟨S1.next, 0, 1, rfl, .inr rfl, by simp [cellsOf_new]⟩) (by omega)
     (R := fun v' S' => Own S' 1 v' (n + k + 1) (cs ++ ptrs b o k ++ [.pointer (some ⟨b, o + k * 2, none⟩)]) ∧ Keeps S1 S' (fun i => Value.blkOf v1 ≠ some i) ∧ (∀ i, Value.blkOf v' = some i → Value.blkOf v1 = some i ∨ S1.next ≤ i)) ?_) ?_
    ·rw [St.blk_new, if_neg (Nat.ne_of_lt (hI.2.1.sl.lt hL1 hi))]
    ·intro v' S' k1 k2 k3
     refine ⟨k1, (Keeps.of_new S1 _ _).trans k2 (fun i _ hp => hp), fun i hi => ?_⟩
     rcases k3 i hi with h | h
     ·exact .inl h
     ·simp [St.next_new] at h; omega
    ·rintro v2 S2 ⟨k1, k2, k3⟩
     obtain ⟨av, ee, hv2⟩ := k1.sl.slice
     have hb2 : S2.blk l = some ⟨false, [v1]⟩ := by rw [k2.2 l hl hI.2.2]; exact hI.1
     obtain ⟨g1, g2⟩ := hI.app hL1 k1 k2 k3
     simp only [go_sem, seval, h1, h4, hb2, hv2, hk1]
     rw [← hv2]
     refine hN _ _ ⟨k + 1, v2, by omega, ?_, ?_, ?_, ?_, hs.trans g2⟩ ?_
     ·simp only [go_sem, seval, h0]
     ·simp only [go_sem, seval, h1]
     ·simp only [go_sem, seval]; congr 1
     ·rw [ptrs_succ, ← List.append_assoc]; exact g1
     ·simp only [go_sem, seval, h4, RowKit.intOf]
      omega
theorem enters147 : enters Tryz.prog 147 = true := by kernel_rfl
theorem lengths64 (b : Nat) (S : St) : ACalls Tryz.prog 124 [ptr b] S fun r S' => Own S' 1 r 18 (ptrs b 2 18) ∧ KeepsAll S S' ∧ Fresh S r := by
 refine run_of hmix Tryz.func124 cF124 rfl fun hL Q hQ => ?_
 simp only [go_sem, seval, aF124]
 have hk0 := Keeps.of_new S ⟨false, [.slice none 0 0]⟩ fun _ => True
 refine ⟨enters147, cK_of (four91 b 2 S.next (.slice none 0 0) 0 [] _ ⟨by simp [St.blk_new], .inl ⟨rfl, rfl, rfl⟩, by simp [Value.blkOf]⟩ (by omega)) ?_⟩
 rintro r1 S1 hS1 hL1 ⟨rfl, v1, hI1, hs1⟩
 obtain ⟨hK1, hF1⟩ := hs1.old hk0 (Nat.le_refl _) (fun d hd => by simp [Value.blkOf] at hd)
 have hl1 := hL1 _ _ hI1.1
 have hr : rd S1 S.next 0 = some v1 := by rw [rd_of_blk hI1.1]; rfl
 simp only [go_sem, seval, hr, Nat.ne_of_lt hl1]
 ·refine hK_of (append_own (cs := [] ++ ptrs b 2 4) (k := 6) (ds := [.pointer (some ⟨b, 10, none⟩), .pointer (some ⟨b, 12, none⟩), .pointer (some ⟨b, 14, none⟩), .pointer (some ⟨b, 16, none⟩), .pointer (some ⟨b, 18, none⟩), .pointer (some ⟨b, 20, none⟩)]) (by omega) (hI1.2.1.keep (fun i hi => ?_)) (.inr ⟨S1.next, 0, 1, rfl, .inr rfl, by simp [cellsOf_new]⟩) (by omega)
   (R := fun v' S' => Own S' 1 v' 10 (ptrs b 2 10) ∧ Keeps S1 S' (fun i => Value.blkOf v1 ≠ some i) ∧ (∀ i, Value.blkOf v' = some i → Value.blkOf v1 = some i ∨ S1.next ≤ i)) ?_) ?_
  ·rw [St.blk_new, if_neg (Nat.ne_of_lt (hI1.2.1.sl.lt hL1 hi))]
  ·intro v' S' k1 k2 k3
   refine ⟨k1, (Keeps.of_new S1 _ _).trans k2 (fun i _ hp => hp), fun i hi => ?_⟩
   rcases k3 i hi with h | h
   ·exact .inl h
   ·simp [St.next_new] at h; omega
  ·rintro v2 S2 ⟨k1, k2, k3⟩
   obtain ⟨av, ee, hv2⟩ := k1.sl.slice
   have hb2 : S2.blk S.next = some ⟨false, [v1]⟩ := by rw [k2.2 _ hl1 hI1.2.2]; exact hI1.1
   obtain ⟨hI2, hs2⟩ := hI1.app hL1 k1 k2 k3
   obtain ⟨hK2, hF2⟩ := hs2.old hK1 (Nat.le_refl _) hF1
   simp only [go_sem, seval, hb2, hv2]
   rw [← hv2]
   refine ⟨enters147, cK_of (four91 b 22 S.next v2 10 _ _ hI2 (by omega)) ?_⟩
   rintro r3 S3 hS3 hL3 ⟨rfl, v3, hI3, hs3⟩
   obtain ⟨hK3, hF3⟩ := hs3.old hK2 (Nat.le_refl _) hF2
   simp only [go_sem, seval]
   refine ⟨enters147, cK_of (four91 b 30 S.next v3 14 _ _ hI3 (by omega)) ?_⟩
   rintro r4 S4 hS4 hL4 ⟨rfl, v4, hI4, hs4⟩
   obtain ⟨hK4, hF4⟩ := hs4.old hK3 (Nat.le_refl _) hF3
   have hr4 : rd S4 S.next 0 = some v4 := by rw [rd_of_blk hI4.1]; rfl
   simp only [go_sem, seval, hr4]
   refine fin_at hQ rfl ?_; simp only [go_sem, seval, aF124]; rw [retQ_some]; simp only [oneOr]
   exact ⟨hI4.2.1, hK4, hF4⟩
end Go.Proofs.YtegaklgjcicnfaaGreat
namespace Go.Proofs.YtegaklgjcicnfaaGreat
open Go Go.Proofs.YtegaklgjcicnfaaGreat.Abs
def BoolPost (p : Prop) (S : St) (r : Value) (S' : St) : Prop := (∃ c, r = .bool c ∧ (c = true ↔ p)) ∧ KeepsAll S S'
theorem ptrs_rd {S : St} {v : Value} {b o n d : Nat} (h : S.blk d = some ⟨false, ptrs b o n⟩) (j : Nat) (hj : j < n) : rd S d j = some (.pointer (some ⟨b, o + j * 2, none⟩)) := by
 rw [rd_of_blk h]
 simp [ptrs, hj]
theorem formed20 (s : Sty) (hs : s.Ok) (S : St) : ACalls Tryz.prog 121 [.agg s.cells.toArray] S (BoolPost (SFormed s) S) := by
 refine run_of hmix Tryz.func121 cF121 rfl fun hL Q hQ => ?_
 simp only [go_sem, seval, aF121]
 have hk0 : KeepsAll S (S.new ⟨false, s.cells⟩) := Keeps.of_new _ _ _
 have hl18 := hs.lens
 have hb4 := hs.border
 refine cK_of (lengths64 S.next _) ?_
 rintro r1 S1 hS1 hL1 ⟨hO1, hK1, hF1⟩
 have hK01 : KeepsAll S S1 := hk0.trans hK1 fun _ _ _ => trivial
 have hbl : S1.blk S.next = some ⟨false, s.cells⟩ := by rw [hK1.2 _ (by simp [St.next_new]) trivial]; simp [St.blk_new]
 have hsty : StyAt S1 S.next s := .of_blk hbl hs
 have hblt := hL1 _ _ hbl
 obtain ⟨dp, hr1, hbp, _⟩ := hO1.ne (by omega)
 have hdp := hL1 _ _ hbp
 simp only [go_sem, seval, hr1]
 refine lK_of (fun t' S' => ∃ j : Nat, j ≤ 18 ∧ (∀ i (h : i < s.lens.length), i < j → LenF s.lens[i]) ∧ t' 1 = ptr S.next ∧ t' 8 = r1 ∧ t' 9 = .int .i64 18 ∧ t' 10 = .int .i64 j ∧ KeepsAll S1 S') (fun t' _ => (18 - RowKit.intOf (t' 10)).toNat) ?_ ?_
 ·refine ⟨0, by omega, by omega, ?_, ?_, ?_, ?_, Keeps.refl _ _⟩
  ·simp only [go_sem, seval]
  ·simp only [go_sem, seval, hr1]
  ·simp only [go_sem, seval] <;> try rfl
  ·simp only [go_sem, seval] <;> try rfl
 ·rintro t1 S2 Q1 ⟨j, hj, hg, h1, h8, h9, h10, hK2⟩ hL2 hN hE
  have hsty2 : StyAt S2 S.next s := hsty.keeps (hK2.2 _ hblt trivial)
  have hbp2 : S2.blk dp = some ⟨false, ptrs S.next 2 18⟩ := by rw [hK2.2 _ hdp trivial]; exact hbp
  by_cases hj18 : j = 18
  ·subst hj18
   simp only [go_sem, seval, h9, h10, show ¬ (((18 : Nat) : Int) < 18) by omega]
   refine hE _ _ _ (by simp) ?_
   have a := hsty2.all hs
   have l4 := a.len 4 (by omega)
   have l5 := a.len 5 (by omega)
   have l6 := a.len 6 (by omega)
   have l7 := a.len 7 (by omega)
   have l8 := a.len 8 (by omega)
   have l9 := a.len 9 (by omega)
   simp only [Nat.reduceMul, Nat.reduceAdd] at l4 l5 l6 l7 l8 l9
   simp only [go_sem, seval, h1, l4, l5, l6, l7, l8, l9]
   generalize hb6 : S2.next = b6
   have hK02 : KeepsAll S S2 := hK01.trans hK2 fun _ _ _ => trivial
   obtain ⟨ls6, hls6⟩ : ∃ ls6, ls6 = [s.lens[4], s.lens[5], s.lens[6], s.lens[7], s.lens[8], s.lens[9]] := ⟨_, rfl⟩
   have hl6 : ls6.length = 6 := by rw [hls6]; rfl
   have hat : ∀ k (h : k < ls6.length), ls6[k] = s.lens[4 + k]'(by omega) := by
    intro k h
    rw [hl6] at h
    subst hls6
    match k, h with
    | 0, _ => rfl
    | 1, _ => rfl
    | 2, _ => rfl
    | 3, _ => rfl
    | 4, _ => rfl
    | 5, _ => rfl
   have hcells : ∀ S3, KeepsAll (S2.new ⟨false, lenCells ls6⟩) S3 → ∀ k (h : k < ls6.length), cellsOf S3 b6 (k * 2) 2 = some [.int .i64 ls6[k].1, .int .i64 ls6[k].2] := by
    intro S3 hK k h
    have hb : S3.blk b6 = some ⟨false, lenCells ls6⟩ := by rw [hK.2 b6 (by simp [St.next_new, hb6]) trivial]; simp [St.blk_new, hb6]
    rw [cellsOf_of_blk hb, if_pos (by rw [lenCells_length]; omega), lenCells_at ls6 k h]
   refine lK_of (fun t' S' => ∃ k : Nat, k ≤ 6 ∧ (∀ i (h : i < ls6.length), i < k → 0 ≤ ls6[i].2) ∧ t' 1 = ptr S.next ∧ t' 32 = .slice (some ⟨b6, 0, none⟩) 6 2 ∧ t' 33 = .int .i64 6 ∧ t' 34 = .int .i64 k ∧ KeepsAll (S2.new ⟨false, lenCells ls6⟩) S') (fun t' _ => (6 - RowKit.intOf (t' 34)).toNat) ?_ ?_
   ·refine ⟨0, by omega, by omega, ?_, ?_, ?_, ?_, ?_⟩
    ·simp only [go_sem, seval, h1]
    ·simp only [go_sem, seval]
    ·simp only [go_sem, seval] <;> try rfl
    ·simp only [go_sem, seval] <;> try rfl
    ·rw [hls6]; exact Keeps.refl _ _
   ·rintro t2 S3 Q2 ⟨k, hk, hg2, g1, g32, g33, g34, hK3⟩ hL3 hN2 hE2
    have hK03 : KeepsAll S S3 := (hK02.new _).trans hK3 fun _ _ _ => trivial
    have hsty3 : StyAt S3 S.next s := hsty2.keeps (by rw [hK3.2 _ (by have := hL2 _ _ (show S2.blk S.next = _ by rw [hK2.2 _ hblt trivial]; exact hbl); simp [St.next_new]; omega) trivial, St.blk_new, if_neg (by have := hL2 _ _ (show S2.blk S.next = _ by rw [hK2.2 _ hblt trivial]; exact hbl); omega)])
    by_cases hk6 : k = 6
    ·subst hk6
     simp only [go_sem, seval, g33, g34, show ¬ (((6 : Nat) : Int) < 6) by omega]
     refine hE2 _ _ _ (by simp) ?_
     simp only [go_sem, seval]
     refine lK_of (fun t' S' => S' = S3 ∧ ∃ k : Nat, k ≤ 4 ∧ (∀ i (h : i < 4), i < k → s.lens[14 + i].1 ≠ 0 ∧ 0 ≤ s.lens[14 + i].2 ∧ 0 ≤ s.border[i]) ∧ t' 1 = ptr S.next ∧ t' 42 = .int .i64 k) (fun t' _ => (4 - RowKit.intOf (t' 42)).toNat) ?_ ?_
     ·refine ⟨rfl, 0, by omega, by omega, ?_, ?_⟩
      ·simp only [go_sem, seval, g1]
      ·simp only [go_sem, seval] <;> try rfl
     ·rintro t3 S4 Q3 ⟨rfl, m, hm, hg3, f1, f42⟩ hL4 hN3 hE3
      have a := hsty3.all hs
      by_cases hm4 : m = 4
      ·subst hm4
       simp only [go_sem, seval, f42, show ¬ (((4 : Nat) : Int) < 4) by omega]
       refine hE3 _ _ _ (by simp) ?_
       have hform : SFormed s ↔ (0 ≤ s.pos ∧ s.pos ≤ 3 ∧ 0 ≤ s.back ∧ 0 ≤ s.line ∧ (s.hasZ = true ∨ s.z = 0)) := by
        refine ⟨fun h => h.2.2, fun h => ⟨fun j hj => ?_, fun k hk => ?_, h⟩⟩
        ·refine ⟨hg j hj (by omega), fun hn hc => ?_, fun h14 => ?_⟩
         ·rcases hc with ⟨c1, c2⟩ | c1
          ·have := hg2 (j - 4) (by omega) (by omega)
           rw [hat _ (by omega)] at this
           simp only [show 4 + (j - 4) = j by omega] at this
           omega
          ·have := (hg3 (j - 14) (by omega) (by omega)).2.1
           simp only [show 14 + (j - 14) = j by omega] at this
           omega
         ·have := (hg3 (j - 14) (by omega) (by omega)).1
          simp only [show 14 + (j - 14) = j by omega] at this
          exact this
        ·exact (hg3 k (by omega) (by omega)).2.2
       simp only [go_sem, seval, f1, a.pos, a.back, a.line, a.hasZ, a.z]
       cases hZ : s.hasZ
       ·have hz := a.hasZ
        rw [hZ] at hz
        repeat' (first | refine gK_splitN (fun hg => ?_) (fun hg => ?_) <;> simp only [go_sem, seval, hg, f1, a.pos, a.back, a.line, hz, a.z] | refine gK_split (fun hg => ?_) (fun hg => ?_) <;> simp only [go_sem, seval, hg, f1, a.pos, a.back, a.line, hz, a.z])
        all_goals
         refine fin_at hQ rfl ?_; simp only [go_sem, seval, aF121]; rw [retQ_some]; simp only [oneOr]
         refine ⟨⟨_, rfl, Iff.trans ?_ hform.symm⟩, hK03⟩
         simp [hZ] at *
         try omega
       ·have hz := a.hasZ
        rw [hZ] at hz
        repeat' (first | refine gK_splitN (fun hg => ?_) (fun hg => ?_) <;> simp only [go_sem, seval, hg, f1, a.pos, a.back, a.line, hz, a.z] | refine gK_split (fun hg => ?_) (fun hg => ?_) <;> simp only [go_sem, seval, hg, f1, a.pos, a.back, a.line, hz, a.z])
        all_goals
         refine fin_at hQ rfl ?_; simp only [go_sem, seval, aF121]; rw [retQ_some]; simp only [oneOr]
         refine ⟨⟨_, rfl, Iff.trans ?_ hform.symm⟩, hK03⟩
         simp [hZ] at *
         try omega
      ·have hlt : ((m : Int) < 4) := by omega
       have hm0 : (0 : Int) ≤ m := by omega
       have hm1 : IntKind.i64.wrap ((m : Int) + 1) = m + 1 := wrap64_id (by omega) (by omega)
       have ek := a.kind (14 + m) (by omega)
       have en := a.num (14 + m) (by omega)
       have eb := a.border m (by omega)
       rw [show 2 + (14 + m) * 2 = 30 + m * 2 by omega] at ek en
       by_cases c1 : (s.lens[14 + m]'(by omega)).1 = 0
       ·simp only [go_sem, seval, f1, f42, hlt, hm0, Int.toNat_natCast, Nat.mul_one, ek, en, eb, show ((s.lens[14 + m]'(by omega)).1 == 0) = true by simpa using c1, show (((4 : Nat) : Int)) = 4 from rfl]
        refine hE3 _ _ _ (by simp) ?_
        simp only [go_sem, seval]
        refine fin_at hQ rfl ?_; simp only [go_sem, seval, aF121]; rw [retQ_some]; simp only [oneOr]
        refine ⟨⟨false, rfl, ⟨fun e => (by cases e), fun e => ?_⟩⟩, hK03⟩
        exact absurd c1 ((e.1 (14 + m) (by omega)).2.2 (by omega))
       ·have c1' : ((s.lens[14 + m]'(by omega)).1 == 0) = false := by simpa using c1
        by_cases c2 : (s.lens[14 + m]'(by omega)).2 < 0
        ·simp only [go_sem, seval, f1, f42, hlt, hm0, Int.toNat_natCast, Nat.mul_one, ek, en, eb, c1', c2, show (((4 : Nat) : Int)) = 4 from rfl]
         refine hE3 _ _ _ (by simp) ?_
         simp only [go_sem, seval]
         refine fin_at hQ rfl ?_; simp only [go_sem, seval, aF121]; rw [retQ_some]; simp only [oneOr]
         refine ⟨⟨false, rfl, ⟨fun e => (by cases e), fun e => ?_⟩⟩, hK03⟩
         exact absurd (.inr (by omega)) ((e.1 (14 + m) (by omega)).2.1 c2)
        ·by_cases c3 : (s.border[m]'(by omega)) < 0
         ·simp only [go_sem, seval, f1, f42, hlt, hm0, Int.toNat_natCast, Nat.mul_one, ek, en, eb, c1', c2, c3, show (((4 : Nat) : Int)) = 4 from rfl]
          refine hE3 _ _ _ (by simp) ?_
          simp only [go_sem, seval]
          refine fin_at hQ rfl ?_; simp only [go_sem, seval, aF121]; rw [retQ_some]; simp only [oneOr]
          refine ⟨⟨false, rfl, ⟨fun e => (by cases e), fun e => ?_⟩⟩, hK03⟩
          have := e.2.1 m (by omega)
          omega
         ·simp only [go_sem, seval, f1, f42, hlt, hm0, Int.toNat_natCast, Nat.mul_one, ek, en, eb, c1', c2, c3, hm1, show (((4 : Nat) : Int)) = 4 from rfl]
          refine hN3 _ _ ⟨rfl, m + 1, by omega, fun i hi hij => ?_, ?_, ?_⟩ ?_
          ·by_cases e : i = m
           ·subst e; exact ⟨c1, by omega, by omega⟩
           ·exact hg3 i hi (by omega)
          ·simp only [go_sem, seval, f1]
          ·simp only [go_sem, seval]; congr 1
          ·simp only [go_sem, seval, f42, RowKit.intOf]
           omega
    ·have hlt : ((k : Int) < 6) := by omega
     have hk0 : (0 : Int) ≤ k := by omega
     have hk1 : IntKind.i64.wrap ((k : Int) + 1) = k + 1 := wrap64_id (by omega) (by omega)
     have hc := hcells S3 hK3 k (by omega)
     simp only [go_sem, seval, g32, g33, g34, hlt, hk0, Int.toNat_natCast, hc, show (((6 : Nat) : Int)) = 6 from rfl]
     refine iK_split (fun hz => ?_) (fun hz => ?_)
     ·have hz := of_decide_eq_true hz
      simp only [go_sem, seval]
      refine hE2 _ _ _ (by simp) ?_
      simp only [go_sem, seval]
      refine fin_at hQ rfl ?_; simp only [go_sem, seval, aF121]; rw [retQ_some]; simp only [oneOr]
      refine ⟨⟨false, rfl, ⟨fun e => (by cases e), fun e => ?_⟩⟩, hK03⟩
      have := (e.1 (4 + k) (by omega)).2.1
      rw [← hat k (by omega)] at this
      exact absurd (.inl ⟨by omega, by omega⟩) (this hz)
     ·have hz := of_decide_eq_false hz
      simp only [go_sem, seval, g34, hk1]
      refine hN2 _ _ ⟨k + 1, by omega, fun i hi hij => ?_, ?_, ?_, ?_, ?_, hK3⟩ ?_
      ·by_cases e : i = k
       ·subst e; omega
       ·exact hg2 i hi (by omega)
      ·simp only [go_sem, seval, g1]
      ·simp only [go_sem, seval, g32]
      ·simp only [go_sem, seval, g33]
      ·simp only [go_sem, seval]; congr 1
      ·simp only [go_sem, seval, g34, RowKit.intOf]
       omega
  ·have hlt : ((j : Int) < 18) := by omega
   have hj0 : (0 : Int) ≤ j := by omega
   have hj1 : IntKind.i64.wrap ((j : Int) + 1) = j + 1 := wrap64_id (by omega) (by omega)
   have hp := ptrs_rd (v := r1) hbp2 j (by omega)
   have hl := (hsty2.all hs).len j (by omega)
   simp only [go_sem, seval, h1, h8, h9, h10, hlt, hr1, hj0, Int.toNat_natCast, Nat.mul_one, hp, hl, show (((18 : Nat) : Int)) = 18 from rfl]
   refine cK_of (formed65 _ _ S2) ?_
   rintro r3 S3 hS3 hL3 ⟨⟨c, rfl, hc⟩, hK3⟩
   have hK03 : KeepsAll S S3 := (hK01.trans hK2 fun _ _ _ => trivial).trans hK3 fun _ _ _ => trivial
   cases c
   ·simp only [go_sem, seval]
    refine hE _ _ _ (by simp) ?_
    simp only [go_sem, seval]
    refine fin_at hQ rfl ?_; simp only [go_sem, seval, aF121]; rw [retQ_some]; simp only [oneOr]
    refine ⟨⟨false, rfl, ⟨fun e => (by cases e), fun e => ?_⟩⟩, hK03⟩
    exact absurd (hc.2 (e.1 j (by omega)).1) (by simp)
   ·simp only [go_sem, seval, h10, hj1]
    refine hN _ _ ⟨j + 1, by omega, fun i hi hij => ?_, ?_, ?_, ?_, ?_, hK2.trans hK3 fun _ _ _ => trivial⟩ ?_
    ·by_cases e : i = j
     ·subst e; exact hc.1 rfl
     ·exact hg i hi (by omega)
    ·simp only [go_sem, seval, h1]
    ·simp only [go_sem, seval, h8]
     try exact hr1
    ·simp only [go_sem, seval, h9]
    ·simp only [go_sem, seval]; congr 1
    ·simp only [go_sem, seval, h10, RowKit.intOf]
     omega
end Go.Proofs.YtegaklgjcicnfaaGreat
namespace Go.Proofs.YtegaklgjcicnfaaGreat
open Go Go.Proofs.YtegaklgjcicnfaaGreat.Abs
theorem within67 (n most : Int) (S : St) (h0 : 0 ≤ most) (h1 : most ≤ 1099511627776) : ACalls Tryz.prog 125 [.int .i64 n, .int .i64 most] S fun r S' => (∃ c, r = .bool c ∧ (c = true ↔ -most ≤ n ∧ n ≤ most)) ∧ S' = S := by
 refine run_of hmix Tryz.func125 cF125 rfl fun hL Q hQ => ?_
 have hw : IntKind.i64.wrap (0 - most) = -most := by rw [wrap64_id (by omega) (by omega)]; omega
 simp only [go_sem, seval, aF125, hw]
 repeat' (first | refine gK_splitN (fun hg => ?_) (fun hg => ?_) <;> simp only [go_sem, seval, hg] | refine gK_split (fun hg => ?_) (fun hg => ?_) <;> simp only [go_sem, seval, hg])
 all_goals
  refine fin_at hQ rfl ?_; simp only [go_sem, seval, aF125]; rw [retQ_some]; simp only [oneOr]
  refine ⟨⟨_, rfl, ?_⟩, (by first | rfl | trivial)⟩
  simp at *
  try omega
theorem within22 (s : Sty) (hs : s.Ok) (S : St) : ACalls Tryz.prog 85 [.agg s.cells.toArray] S (BoolPost (SWithin s) S) := by
 refine run_of hmix Tryz.func85 cF85 rfl fun hL Q hQ => ?_
 simp only [go_sem, seval, aF85]
 have hk0 : KeepsAll S (S.new ⟨false, s.cells⟩) := Keeps.of_new _ _ _
 have hl18 := hs.lens
 have hb4 := hs.border
 refine cK_of (lengths64 S.next _) ?_
 rintro r1 S1 hS1 hL1 ⟨hO1, hK1, hF1⟩
 have hK01 : KeepsAll S S1 := hk0.trans hK1 fun _ _ _ => trivial
 have hbl : S1.blk S.next = some ⟨false, s.cells⟩ := by rw [hK1.2 _ (by simp [St.next_new]) trivial]; simp [St.blk_new]
 have hsty : StyAt S1 S.next s := .of_blk hbl hs
 have a := hsty.all hs
 obtain ⟨dp, hr1, hbp, _⟩ := hO1.ne (by omega)
 simp only [go_sem, seval, hr1]
 refine lK_of (fun t' S' => S' = S1 ∧ ∃ j : Nat, j ≤ 18 ∧ (∀ i (h : i < s.lens.length), i < j → LenIn s.lens[i]) ∧ t' 1 = ptr S.next ∧ t' 7 = r1 ∧ t' 8 = .int .i64 18 ∧ t' 9 = .int .i64 j) (fun t' _ => (18 - RowKit.intOf (t' 9)).toNat) ?_ ?_
 ·refine ⟨rfl, 0, by omega, by omega, ?_, ?_, ?_, ?_⟩
  ·simp only [go_sem, seval]
  ·simp only [go_sem, seval, hr1]
  ·simp only [go_sem, seval] <;> try rfl
  ·simp only [go_sem, seval] <;> try rfl
 ·rintro t1 S2 Q1 ⟨rfl, j, hj, hg, h1, h7, h8, h9⟩ hL2 hN hE
  by_cases hj18 : j = 18
  ·subst hj18
   simp only [go_sem, seval, h8, h9, show ¬ (((18 : Nat) : Int) < 18) by omega]
   refine hE _ _ _ (by simp) ?_
   simp only [go_sem, seval, h1, a.borders]
   refine lK_of (fun t' S' => S' = S2 ∧ ∃ k : Nat, k ≤ 4 ∧ (∀ i (h : i < s.border.length), i < k → s.border[i] ≤ 1099511627776) ∧ t' 1 = ptr S.next ∧ t' 43 = .agg (s.border.map (Value.int .i64)).toArray ∧ t' 44 = .int .i64 k) (fun t' _ => (4 - RowKit.intOf (t' 44)).toNat) ?_ ?_
   ·refine ⟨rfl, 0, by omega, by omega, ?_, ?_, ?_⟩
    ·simp only [go_sem, seval, h1]
    ·simp only [go_sem, seval]
    ·simp only [go_sem, seval] <;> try rfl
   ·rintro t3 S4 Q3 ⟨rfl, m, hm, hg3, f1, f43, f44⟩ hL4 hN3 hE3
    by_cases hm4 : m = 4
    ·subst hm4
     simp only [go_sem, seval, f44, show ¬ (((4 : Nat) : Int) < 4) by omega]
     refine hE3 _ _ _ (by simp) ?_
     have hform : SWithin s ↔ (-1073741824 ≤ s.z ∧ s.z ≤ 1073741824 ∧ s.back ≤ 16777216 ∧ s.line ≤ 16777216) :=
      ⟨fun h => h.2.2, fun h => ⟨fun j hj => hg j hj (by omega), fun k hk => hg3 k hk (by omega), h⟩⟩
     simp only [go_sem, seval, f1, a.z]
     refine cK_of (within67 _ 1073741824 S4 (by omega) (by omega)) ?_
     rintro r3 S3 hS3 hL3 ⟨⟨c, rfl, hc⟩, rfl⟩
     cases c
     ·simp only [go_sem, seval, f1, a.back, a.line]
      refine fin_at hQ rfl ?_; simp only [go_sem, seval, aF85]; rw [retQ_some]; simp only [oneOr]
      refine ⟨⟨_, rfl, Iff.trans ?_ hform.symm⟩, hK01⟩
      simp at *
      try omega
     ·simp only [go_sem, seval, f1, a.back, a.line]
      repeat' (first | refine gK_splitN (fun hg => ?_) (fun hg => ?_) <;> simp only [go_sem, seval, hg, f1, a.back, a.line] | refine gK_split (fun hg => ?_) (fun hg => ?_) <;> simp only [go_sem, seval, hg, f1, a.back, a.line])
      all_goals
       refine fin_at hQ rfl ?_; simp only [go_sem, seval, aF85]; rw [retQ_some]; simp only [oneOr]
       refine ⟨⟨_, rfl, Iff.trans ?_ hform.symm⟩, hK01⟩
       simp at *
       try omega
    ·have hlt : ((m : Int) < 4) := by omega
     have hm0 : (0 : Int) ≤ m := by omega
     have hm1 : IntKind.i64.wrap ((m : Int) + 1) = m + 1 := wrap64_id (by omega) (by omega)
     have eb : (s.border.map (Value.int .i64))[m]? = some (.int .i64 (s.border[m]'(by omega))) := by simp [hb4, show m < 4 by omega]
     by_cases c3 : (s.border[m]'(by omega)) > 1099511627776
     ·simp only [go_sem, seval, f1, f43, f44, hlt, hm0, Int.toNat_natCast, Nat.mul_one, eb, c3, show (((4 : Nat) : Int)) = 4 from rfl]
      refine hE3 _ _ _ (by simp) ?_
      simp only [go_sem, seval]
      refine fin_at hQ rfl ?_; simp only [go_sem, seval, aF85]; rw [retQ_some]; simp only [oneOr]
      refine ⟨⟨false, rfl, ⟨fun e => (by cases e), fun e => ?_⟩⟩, hK01⟩
      have := e.2.1 m (by omega)
      omega
     ·simp only [go_sem, seval, f1, f43, f44, hlt, hm0, Int.toNat_natCast, Nat.mul_one, eb, c3, hm1, show (((4 : Nat) : Int)) = 4 from rfl]
      refine hN3 _ _ ⟨rfl, m + 1, by omega, fun i hi hij => ?_, ?_, ?_, ?_⟩ ?_
      ·by_cases e : i = m
       ·subst e; omega
       ·exact hg3 i hi (by omega)
      ·simp only [go_sem, seval, f1]
      ·simp only [go_sem, seval, f43]
      ·simp only [go_sem, seval]; congr 1
      ·simp only [go_sem, seval, f44, RowKit.intOf]
       omega
  ·have hlt : ((j : Int) < 18) := by omega
   have hj0 : (0 : Int) ≤ j := by omega
   have hj1 : IntKind.i64.wrap ((j : Int) + 1) = j + 1 := wrap64_id (by omega) (by omega)
   have hp := ptrs_rd (v := r1) hbp j (by omega)
   have ek := a.kind j (by omega)
   have en := a.num j (by omega)
   have next : LenIn (s.lens[j]'(by omega)) → ∀ t', t' 1 = ptr S.next → t' 7 = r1 → t' 8 = .int .i64 18 → t' 9 = .int .i64 ((j : Int) + 1) → Q1 .normal t' S2 := by
    intro hin t' g1 g7 g8 g9
    refine hN _ _ ⟨rfl, j + 1, by omega, fun i hi hij => ?_, g1, g7, g8, g9⟩ ?_
    ·by_cases e : i = j
     ·subst e; exact hin
     ·exact hg i hi (by omega)
    ·rw [g9, h9]
     simp [RowKit.intOf]
     omega
   by_cases c1 : (s.lens[j]'(by omega)).1 = 1
   ·simp only [go_sem, seval, h1, h7, h8, h9, hlt, hr1, hj0, Int.toNat_natCast, Nat.mul_one, hp, ek, en, c1, show (((18 : Nat) : Int)) = 18 from rfl]
    refine cK_of (within67 _ 1099511627776 S2 (by omega) (by omega)) ?_
    rintro r3 S3 hS3 hL3 ⟨⟨c, rfl, hc⟩, rfl⟩
    cases c
    ·simp only [go_sem, seval]
     refine hE _ _ _ (by simp) ?_
     simp only [go_sem, seval]
     refine fin_at hQ rfl ?_; simp only [go_sem, seval, aF85]; rw [retQ_some]; simp only [oneOr]
     refine ⟨⟨false, rfl, ⟨fun e => (by cases e), fun e => ?_⟩⟩, hK01⟩
     exact absurd (hc.2 ((e.1 j (by omega)).1 c1)) (by simp)
    ·simp only [go_sem, seval, h9, hj1, ek, c1]
     refine next ⟨fun _ => hc.1 rfl, fun e => by omega⟩ _ ?_ ?_ ?_ ?_
     ·simp only [go_sem, seval, h1]
     ·simp only [go_sem, seval, h7]
      try exact hr1
     ·simp only [go_sem, seval, h8]
     ·simp only [go_sem, seval]
   ·have c1' : ((s.lens[j]'(by omega)).1 == 1) = false := by simpa using c1
    by_cases c2 : (s.lens[j]'(by omega)).1 = 2
    ·have c2' : ((s.lens[j]'(by omega)).1 == 2) = true := by simpa using c2
     simp only [go_sem, seval, h1, h7, h8, h9, hlt, hr1, hj0, Int.toNat_natCast, Nat.mul_one, hp, ek, en, c1', c2', show (((18 : Nat) : Int)) = 18 from rfl]
     refine cK_of (within67 _ 1000000 S2 (by omega) (by omega)) ?_
     rintro r3 S3 hS3 hL3 ⟨⟨c, rfl, hc⟩, rfl⟩
     cases c
     ·simp only [go_sem, seval]
      refine hE _ _ _ (by simp) ?_
      simp only [go_sem, seval]
      refine fin_at hQ rfl ?_; simp only [go_sem, seval, aF85]; rw [retQ_some]; simp only [oneOr]
      refine ⟨⟨false, rfl, ⟨fun e => (by cases e), fun e => ?_⟩⟩, hK01⟩
      exact absurd (hc.2 ((e.1 j (by omega)).2 c2)) (by simp)
     ·simp only [go_sem, seval, h9, hj1]
      refine next ⟨fun e => by omega, fun _ => hc.1 rfl⟩ _ ?_ ?_ ?_ ?_
      ·simp only [go_sem, seval, h1]
      ·simp only [go_sem, seval, h7]
       try exact hr1
      ·simp only [go_sem, seval, h8]
      ·simp only [go_sem, seval]
    ·have c2' : ((s.lens[j]'(by omega)).1 == 2) = false := by simpa using c2
     simp only [go_sem, seval, h1, h7, h8, h9, hlt, hr1, hj0, Int.toNat_natCast, Nat.mul_one, hp, ek, en, c1', c2', hj1, show (((18 : Nat) : Int)) = 18 from rfl]
     refine next ⟨fun e => absurd e c1, fun e => absurd e c2⟩ _ ?_ ?_ ?_ ?_
     ·simp only [go_sem, seval, h1]
     ·simp only [go_sem, seval, h7]
      try exact hr1
     ·simp only [go_sem, seval, h8]
     ·simp only [go_sem, seval]
end Go.Proofs.YtegaklgjcicnfaaGreat
namespace Go.Proofs.YtegaklgjcicnfaaGreat
open Go Go.Proofs.YtegaklgjcicnfaaGreat.Abs
theorem app2 {S : St} {x y : Value} {n k : Nat} {cs ds : List Value} (hL : Live S) (hx : Own S 2 x n cs) (hy : Sl S 2 y k ds) (hb : n + k ≤ 1000000) :
  optWp (doAppend 2 16 x y S) fun v S' => Live S' ∧ Own S' 2 v (n + k) (cs ++ ds) ∧ Keeps S S' (fun i => Value.blkOf x ≠ some i) ∧ (∀ i, Value.blkOf v = some i → Value.blkOf x = some i ∨ S.next ≤ i) :=
 append_live hL (append_own (by omega) hx hy (by omega) fun v S' h1 h2 h3 => ⟨h1, h2, h3⟩)
theorem lens66 (s : Sty) (hs : s.Ok) (S : St) : ACalls Tryz.prog 65 [.agg s.cells.toArray] S fun r S' => Own S' 2 r 18 (lenCells s.lens) ∧ KeepsAll S S' ∧ Fresh S r := by
 refine run_of hmix Tryz.func65 cF65 rfl fun hL Q hQ => ?_
 simp only [go_sem, seval, aF65]
 have hl18 := hs.lens
 obtain ⟨S2, hS2⟩ : ∃ S2, S2 = (S.new ⟨false, s.cells⟩).new ⟨false, []⟩ := ⟨_, rfl⟩
 have hk2 : KeepsAll S S2 := by rw [hS2]; exact (Keeps.of_new _ _ _).new _
 have hbl : S2.blk S.next = some ⟨false, s.cells⟩ := by rw [hS2]; simp [St.blk_new, St.next_new]
 have hsty : StyAt S2 S.next s := .of_blk hbl hs
 have hL2 : Live S2 := by
  rw [hS2]
  exact (hL.new _).new _
 have hb := hL2 _ _ hbl
 have hx : Own S2 2 (.slice (some ⟨S.next + 1, 0, none⟩) 0 2) 0 [] := .inr ⟨_, rfl, by rw [hS2]; simp [St.blk_new, St.next_new], rfl⟩
 rw [← hS2]
 refine hK_of (app2 (k := 4) hL2 hx (.inr ⟨S.next, 2, 0, rfl, .inl rfl, (hsty.all hs).span 0 4 (by omega)⟩) (by omega)) ?_
 rintro v3 S3 ⟨hL3, hO3, hK3, hF3⟩
 have hbl3 : S3.blk S.next = some ⟨false, s.cells⟩ := by rw [hK3.2 _ hb (by simp [Value.blkOf])]; exact hbl
 have hsty3 : StyAt S3 S.next s := .of_blk hbl3 hs
 have hk3 : KeepsAll S S3 := hk2.trans hK3 fun i hi _ => by simp [Value.blkOf]; omega
 have hf3 : Fresh S v3 := fun i hi => by
  rcases hF3 i hi with h | h
  ·simp [Value.blkOf] at h; omega
  ·have := hk2.1; omega
 have hn3 : Value.blkOf v3 ≠ some S.next := fun e => by
  rcases hF3 _ e with h | h
  ·simp [Value.blkOf] at h
  ·omega
 have l4 := (hsty3.all hs).len 4 (by omega)
 have l5 := (hsty3.all hs).len 5 (by omega)
 have l6 := (hsty3.all hs).len 6 (by omega)
 have l7 := (hsty3.all hs).len 7 (by omega)
 have l8 := (hsty3.all hs).len 8 (by omega)
 have l9 := (hsty3.all hs).len 9 (by omega)
 simp only [Nat.reduceMul, Nat.reduceAdd] at l4 l5 l6 l7 l8 l9
 simp only [go_sem, seval, l4, l5, l6, l7, l8, l9]
 have hmid : lenCells ((s.lens.drop 4).take 6) = [.int .i64 s.lens[4].1, .int .i64 s.lens[4].2, .int .i64 s.lens[5].1, .int .i64 s.lens[5].2, .int .i64 s.lens[6].1, .int .i64 s.lens[6].2,
   .int .i64 s.lens[7].1, .int .i64 s.lens[7].2, .int .i64 s.lens[8].1, .int .i64 s.lens[8].2, .int .i64 s.lens[9].1, .int .i64 s.lens[9].2] := by
  rw [List.drop_eq_getElem_cons (by omega), List.drop_eq_getElem_cons (by omega), List.drop_eq_getElem_cons (by omega), List.drop_eq_getElem_cons (by omega), List.drop_eq_getElem_cons (by omega), List.drop_eq_getElem_cons (by omega)]
  rfl
 rw [← hmid]
 have hO3' : Own (S3.new ⟨false, lenCells ((s.lens.drop 4).take 6)⟩) 2 v3 4 (lenCells (s.lens.take 4)) := by
  have := Own.keeps hL3 hO3 (Keeps.of_new S3 ⟨false, lenCells ((s.lens.drop 4).take 6)⟩ fun _ => True) fun _ _ => trivial
  simpa using this
 refine hK_of (app2 (n := 4) (k := 6) (ds := lenCells ((s.lens.drop 4).take 6)) (hL3.new _) hO3' (.inr ⟨S3.next, 0, 2, rfl, .inr rfl, ?_⟩) (by omega)) ?_
 ·rw [cellsOf_new, if_pos rfl, if_pos (by simp [lenCells_length]; omega), List.drop_zero, List.take_of_length_le (by simp [lenCells_length]; omega)]
 rintro v4 S4 ⟨hL4, hO4, hK4, hF4⟩
 have hK34 : Keeps S3 S4 fun i => Value.blkOf v3 ≠ some i := (Keeps.of_new S3 _ _).trans hK4 fun i _ hp => hp
 have hb3 := hL3 _ _ hbl3
 have hbl4 : S4.blk S.next = some ⟨false, s.cells⟩ := by rw [hK34.2 _ hb3 hn3]; exact hbl3
 have hk4 : KeepsAll S S4 := hk3.trans hK34 fun i hi _ e => by have := hf3 i e; omega
 have hf4 : Fresh S v4 := fun i hi => by
  rcases hF4 i hi with h | h
  ·exact hf3 i h
  ·have := hk3.1; simp [St.next_new] at h; omega
 have hn4 : Value.blkOf v4 ≠ some S.next := fun e => by
  rcases hF4 _ e with h | h
  ·exact hn3 h
  ·simp [St.next_new] at h; omega
 have hsty4 : StyAt S4 S.next s := .of_blk hbl4 hs
 simp only [go_sem, seval]
 refine hK_of (app2 (k := 4) hL4 hO4 (.inr ⟨S.next, 22, 0, rfl, .inl rfl, (hsty4.all hs).span 10 4 (by omega)⟩) (by omega)) ?_
 rintro v5 S5 ⟨hL5, hO5, hK5, hF5⟩
 have hb4 := hL4 _ _ hbl4
 have hbl5 : S5.blk S.next = some ⟨false, s.cells⟩ := by rw [hK5.2 _ hb4 hn4]; exact hbl4
 have hk5 : KeepsAll S S5 := hk4.trans hK5 fun i hi _ e => by have := hf4 i e; omega
 have hf5 : Fresh S v5 := fun i hi => by
  rcases hF5 i hi with h | h
  ·exact hf4 i h
  ·have := hk4.1; omega
 have hn5 : Value.blkOf v5 ≠ some S.next := fun e => by
  rcases hF5 _ e with h | h
  ·exact hn4 h
  ·omega
 have hsty5 : StyAt S5 S.next s := .of_blk hbl5 hs
 simp only [go_sem, seval]
 refine hK_of (app2 (k := 4) hL5 hO5 (.inr ⟨S.next, 30, 0, rfl, .inl rfl, (hsty5.all hs).span 14 4 (by omega)⟩) (by omega)) ?_
 rintro v6 S6 ⟨hL6, hO6, hK6, hF6⟩
 have hk6 : KeepsAll S S6 := hk5.trans hK6 fun i hi _ e => by have := hf5 i e; omega
 have hf6 : Fresh S v6 := fun i hi => by
  rcases hF6 i hi with h | h
  ·exact hf5 i h
  ·have := hk5.1; omega
 simp only [go_sem, seval]
 refine fin_at hQ rfl ?_; simp only [go_sem, seval, aF65]; rw [retQ_some]; simp only [oneOr]
 refine ⟨?_, hk6, hf6⟩
 have e : lenCells s.lens = lenCells (s.lens.take 4) ++ lenCells ((s.lens.drop 4).take 6) ++ lenCells ((s.lens.drop 10).take 4) ++ lenCells ((s.lens.drop 14).take 4) := by
  rw [← lenCells_append, ← lenCells_append, ← lenCells_append]
  congr 1
  have h1 : (s.lens.drop 14).take 4 = s.lens.drop 14 := List.take_of_length_le (by simp; omega)
  have h2 : (s.lens.drop 10).take 4 ++ s.lens.drop 14 = s.lens.drop 10 := by
   have := List.take_append_drop 4 (s.lens.drop 10)
   rwa [List.drop_drop] at this
  have h3 : (s.lens.drop 4).take 6 ++ s.lens.drop 10 = s.lens.drop 4 := by
   have := List.take_append_drop 6 (s.lens.drop 4)
   rwa [List.drop_drop] at this
  rw [h1, List.append_assoc, List.append_assoc, h2, h3, List.take_append_drop]
 rw [e]
 simpa using hO6
end Go.Proofs.YtegaklgjcicnfaaGreat
namespace Go.Proofs.YtegaklgjcicnfaaGreat
open Go Go.Proofs.YtegaklgjcicnfaaGreat.Abs
theorem lens_rd {S : St} {d : Nat} {ls : List (Int × Int)} (h : S.blk d = some ⟨false, lenCells ls⟩) (j : Nat) (hj : j < ls.length) :
  rd S d (j * 2) = some (.int .i64 ls[j].1) ∧ rd S d (j * 2 + 1) = some (.int .i64 ls[j].2) := by
 have hc : cellsOf S d (j * 2) 2 = some [.int .i64 ls[j].1, .int .i64 ls[j].2] := by
  rw [cellsOf_of_blk h, if_pos (by rw [lenCells_length]; omega), lenCells_at ls j hj]
 exact ⟨by simpa using rd_of_cells hc (j := 0) (by omega), by simpa using rd_of_cells hc (j := 1) (by omega)⟩
set_option maxHeartbeats 4000000 in
theorem refFormed (s : Sty) (hs : s.Ok) (S : St) : ACalls Tryz.prog 64 [.agg s.cells.toArray] S (BoolPost (SFormed s) S) := by
 refine run_of hmix Tryz.func64 cF64 rfl fun hL Q hQ => ?_
 have hl18 := hs.lens
 have hb4 := hs.border
 have hc48 := hs.len
 have a := hs.c
 simp only [go_sem, seval, aF64, hc48, a.all]
 refine cK_of (lens66 s hs _) ?_
 rintro r1 S1 hS1 hL1 ⟨hO1, hK1, hF1⟩
 have hK01 := hK1
 obtain ⟨dp, hr1, hbp, _⟩ := hO1.ne (by omega)
 simp only [go_sem, seval, hr1]
 refine lK_of (fun t' S' => S' = S1 ∧ ∃ j : Nat, j ≤ 18 ∧ (∀ i (h : i < s.lens.length), i < j → LenOk i s.lens[i]) ∧ t' 1 = .agg s.cells.toArray ∧ t' 3 = r1 ∧ t' 9 = .int .i64 18 ∧ t' 10 = .int .i64 j) (fun t' _ => (18 - RowKit.intOf (t' 10)).toNat) ?_ ?_
 ·refine ⟨rfl, 0, by omega, by omega, ?_, ?_, ?_, ?_⟩
  ·simp only [go_sem, seval]
  ·simp only [go_sem, seval, hr1]
  ·simp only [go_sem, seval] <;> try rfl
  ·simp only [go_sem, seval] <;> try rfl
 ·rintro t1 S2 Q1 ⟨rfl, j, hj, hg, h1, h3, h9, h10⟩ hL2 hN hE
  by_cases hj18 : j = 18
  ·subst hj18
   simp only [go_sem, seval, h9, h10, show ¬ (((18 : Nat) : Int) < 18) by omega]
   refine hE _ _ _ (by simp) ?_
   simp only [go_sem, seval]
   refine lK_of (fun t' S' => S' = S2 ∧ ∃ k : Nat, k ≤ 4 ∧ (∀ i (h : i < s.border.length), i < k → 0 ≤ s.border[i]) ∧ t' 1 = .agg s.cells.toArray ∧ t' 74 = .int .i64 k) (fun t' _ => (4 - RowKit.intOf (t' 74)).toNat) ?_ ?_
   ·refine ⟨rfl, 0, by omega, by omega, ?_, ?_⟩
    ·simp only [go_sem, seval, h1]
    ·simp only [go_sem, seval] <;> try rfl
   ·rintro t3 S4 Q3 ⟨rfl, m, hm, hg3, f1, f74⟩ hL4 hN3 hE3
    by_cases hm4 : m = 4
    ·subst hm4
     simp only [go_sem, seval, f74, show ¬ (((4 : Nat) : Int) < 4) by omega]
     refine hE3 _ _ _ (by simp) ?_
     have hform : SFormed s ↔ (0 ≤ s.pos ∧ s.pos ≤ 3 ∧ 0 ≤ s.back ∧ 0 ≤ s.line ∧ (s.hasZ = true ∨ s.z = 0)) :=
      ⟨fun h => h.2.2, fun h => ⟨fun j hj => hg j hj (by omega), fun k hk => hg3 k hk (by omega), h⟩⟩
     simp only [go_sem, seval, f1, a.pos, a.back, a.line]
     cases hZ : s.hasZ
     ·have hz := a.hasZ
      rw [hZ] at hz
      repeat' (first | refine gK_splitN (fun hg => ?_) (fun hg => ?_) <;> simp only [go_sem, seval, hg, f1, a.pos, a.back, a.line, hz, a.z] | refine gK_split (fun hg => ?_) (fun hg => ?_) <;> simp only [go_sem, seval, hg, f1, a.pos, a.back, a.line, hz, a.z])
      all_goals
       refine fin_at hQ rfl ?_; simp only [go_sem, seval, aF64]; rw [retQ_some]; simp only [oneOr]
       refine ⟨⟨_, rfl, Iff.trans ?_ hform.symm⟩, hK01⟩
       simp [hZ] at *
       try omega
     ·have hz := a.hasZ
      rw [hZ] at hz
      repeat' (first | refine gK_splitN (fun hg => ?_) (fun hg => ?_) <;> simp only [go_sem, seval, hg, f1, a.pos, a.back, a.line, hz, a.z] | refine gK_split (fun hg => ?_) (fun hg => ?_) <;> simp only [go_sem, seval, hg, f1, a.pos, a.back, a.line, hz, a.z])
      all_goals
       refine fin_at hQ rfl ?_; simp only [go_sem, seval, aF64]; rw [retQ_some]; simp only [oneOr]
       refine ⟨⟨_, rfl, Iff.trans ?_ hform.symm⟩, hK01⟩
       simp [hZ] at *
       try omega
    ·have hlt : ((m : Int) < 4) := by omega
     have hm0 : (0 : Int) ≤ m := by omega
     have hm1 : IntKind.i64.wrap ((m : Int) + 1) = m + 1 := wrap64_id (by omega) (by omega)
     have eb := a.border m (by omega)
     by_cases c3 : (s.border[m]'(by omega)) < 0
     ·simp only [go_sem, seval, f1, f74, hlt, hm0, Int.toNat_natCast, Nat.mul_one, eb, c3, show (((4 : Nat) : Int)) = 4 from rfl]
      refine hE3 _ _ _ (by simp) ?_
      simp only [go_sem, seval]
      refine fin_at hQ rfl ?_; simp only [go_sem, seval, aF64]; rw [retQ_some]; simp only [oneOr]
      refine ⟨⟨false, rfl, ⟨fun e => (by cases e), fun e => ?_⟩⟩, hK01⟩
      have := e.2.1 m (by omega)
      omega
     ·simp only [go_sem, seval, f1, f74, hlt, hm0, Int.toNat_natCast, Nat.mul_one, eb, c3, hm1, show (((4 : Nat) : Int)) = 4 from rfl]
      refine hN3 _ _ ⟨rfl, m + 1, by omega, fun i hi hij => ?_, ?_, ?_⟩ ?_
      ·by_cases e : i = m
       ·subst e; omega
       ·exact hg3 i hi (by omega)
      ·simp only [go_sem, seval, f1]
      ·simp only [go_sem, seval]; congr 1
      ·simp only [go_sem, seval, f74, RowKit.intOf]
       omega
  ·have hlt : ((j : Int) < 18) := by omega
   have hj0 : (0 : Int) ≤ j := by omega
   have hj1 : IntKind.i64.wrap ((j : Int) + 1) = j + 1 := wrap64_id (by omega) (by omega)
   obtain ⟨ek, en⟩ := lens_rd hbp j (by omega)
   obtain ⟨p, hp⟩ : ∃ p, p = s.lens[j]'(by omega) := ⟨_, rfl⟩
   rw [← hp] at ek en
   have next : LenOk j p → ∀ t', t' 1 = .agg s.cells.toArray → t' 3 = r1 → t' 9 = .int .i64 18 → t' 10 = .int .i64 ((j : Int) + 1) → Q1 .normal t' S2 := by
    intro hin t' g1 g3 g9 g10
    refine hN _ _ ⟨rfl, j + 1, by omega, fun i hi hij => ?_, g1, g3, g9, g10⟩ ?_
    ·by_cases e : i = j
     ·subst e; rw [← hp]; exact hin
     ·exact hg i hi (by omega)
    ·rw [g10, h10]
     simp [RowKit.intOf]
     omega
   have stop : ¬ LenOk j p → ∀ t', t' 2 = .bool false → Q1 .ret t' S2 := by
    intro hno t' g2
    refine hE _ _ _ (by simp) ?_
    simp only [go_sem, seval]
    refine hQ _ _ _ ?_
    rw [k_body_ret]
    simp only [aF64, resVals, resVal, g2, Option.bind_some, Option.map_some]
    rw [retQ_some]
    refine ⟨⟨false, rfl, ⟨fun e => (by cases e), fun e => ?_⟩⟩, hK01⟩
    exact absurd (hp ▸ e.1 j (by omega)) hno
   clear hN hE hQ
   simp only [go_sem, seval, h1, h3, h9, h10, hlt, hr1, hj0, Int.toNat_natCast, Nat.mul_one, ek, en, show (((18 : Nat) : Int)) = 18 from rfl]
   repeat' (first | refine gK_splitN (fun hg => ?_) (fun hg => ?_) <;> simp only [go_sem, seval, hg, h1, h3, h9, h10, hlt, hr1, hj0, hj1, Int.toNat_natCast, Nat.mul_one, ek, en, show (((18 : Nat) : Int)) = 18 from rfl] | refine gK_split (fun hg => ?_) (fun hg => ?_) <;> simp only [go_sem, seval, hg, h1, h3, h9, h10, hlt, hr1, hj0, hj1, Int.toNat_natCast, Nat.mul_one, ek, en, show (((18 : Nat) : Int)) = 18 from rfl] | refine iK_split (fun hg => ?_) (fun hg => ?_) <;> simp only [go_sem, seval, hg, h1, h3, h9, h10, hlt, hr1, hj0, hj1, Int.toNat_natCast, Nat.mul_one, ek, en, show (((18 : Nat) : Int)) = 18 from rfl])
   all_goals try simp only [decide_eq_true_eq, decide_eq_false_iff_not, beq_iff_eq, beq_eq_false_iff_ne, bne_iff_ne, bne_eq_false_iff_eq, ne_eq] at *
   all_goals first
    | refine stop ?_ _ ?_
      ·rintro ⟨q1, q2, q3⟩
       omega
      ·simp only [go_sem, seval]
    | refine next ?_ _ ?_ ?_ ?_ ?_
      ·refine ⟨by omega, by omega, by omega⟩
      ·simp only [go_sem, seval, h1]
      ·simp only [go_sem, seval, h3]
       try exact hr1
      ·simp only [go_sem, seval, h9]
      ·simp only [go_sem, seval]
end Go.Proofs.YtegaklgjcicnfaaGreat
namespace Go.Proofs.YtegaklgjcicnfaaGreat
open Go Go.Proofs.YtegaklgjcicnfaaGreat.Abs
set_option maxHeartbeats 4000000 in
theorem refWithin (s : Sty) (hs : s.Ok) (S : St) : ACalls Tryz.prog 37 [.agg s.cells.toArray] S (BoolPost (SWithin s) S) := by
 refine run_of hmix Tryz.func37 cF37 rfl fun hL Q hQ => ?_
 have hl18 := hs.lens
 have hb4 := hs.border
 have hc48 := hs.len
 have a := hs.c
 simp only [go_sem, seval, aF37, hc48, a.all]
 refine cK_of (lens66 s hs _) ?_
 rintro r1 S1 hS1 hL1 ⟨hO1, hK1, hF1⟩
 have hK01 := hK1
 obtain ⟨dp, hr1, hbp, _⟩ := hO1.ne (by omega)
 simp only [go_sem, seval, hr1]
 refine lK_of (fun t' S' => S' = S1 ∧ ∃ j : Nat, j ≤ 18 ∧ (∀ i (h : i < s.lens.length), i < j → LenIn s.lens[i]) ∧ t' 1 = .agg s.cells.toArray ∧ t' 3 = r1 ∧ t' 10 = .int .i64 18 ∧ t' 11 = .int .i64 j) (fun t' _ => (18 - RowKit.intOf (t' 11)).toNat) ?_ ?_
 ·refine ⟨rfl, 0, by omega, by omega, ?_, ?_, ?_, ?_⟩
  ·simp only [go_sem, seval]
  ·simp only [go_sem, seval, hr1]
  ·simp only [go_sem, seval] <;> try rfl
  ·simp only [go_sem, seval] <;> try rfl
 ·rintro t1 S2 Q1 ⟨rfl, j, hj, hg, h1, h3, h10, h11⟩ hL2 hN hE
  by_cases hj18 : j = 18
  ·subst hj18
   simp only [go_sem, seval, h10, h11, show ¬ (((18 : Nat) : Int) < 18) by omega]
   refine hE _ _ _ (by simp) ?_
   simp only [go_sem, seval]
   refine lK_of (fun t' S' => S' = S2 ∧ ∃ k : Nat, k ≤ 4 ∧ (∀ i (h : i < s.border.length), i < k → s.border[i] ≤ 1099511627776) ∧ t' 1 = .agg s.cells.toArray ∧ t' 62 = .int .i64 k) (fun t' _ => (4 - RowKit.intOf (t' 62)).toNat) ?_ ?_
   ·refine ⟨rfl, 0, by omega, by omega, ?_, ?_⟩
    ·simp only [go_sem, seval, h1]
    ·simp only [go_sem, seval] <;> try rfl
   ·rintro t3 S4 Q3 ⟨rfl, m, hm, hg3, f1, f62⟩ hL4 hN3 hE3
    by_cases hm4 : m = 4
    ·subst hm4
     simp only [go_sem, seval, f62, show ¬ (((4 : Nat) : Int) < 4) by omega]
     refine hE3 _ _ _ (by simp) ?_
     have hform : SWithin s ↔ (-1073741824 ≤ s.z ∧ s.z ≤ 1073741824 ∧ s.back ≤ 16777216 ∧ s.line ≤ 16777216) :=
      ⟨fun h => h.2.2, fun h => ⟨fun j hj => hg j hj (by omega), fun k hk => hg3 k hk (by omega), h⟩⟩
     simp only [go_sem, seval, f1, a.z, a.back, a.line]
     repeat' (first | refine gK_splitN (fun hg => ?_) (fun hg => ?_) <;> simp only [go_sem, seval, hg, f1, a.z, a.back, a.line] | refine gK_split (fun hg => ?_) (fun hg => ?_) <;> simp only [go_sem, seval, hg, f1, a.z, a.back, a.line])
     all_goals
      refine fin_at hQ rfl ?_; simp only [go_sem, seval, aF37]; rw [retQ_some]; simp only [oneOr]
      refine ⟨⟨_, rfl, Iff.trans ?_ hform.symm⟩, hK01⟩
      simp at *
      try omega
    ·have hlt : ((m : Int) < 4) := by omega
     have hm0 : (0 : Int) ≤ m := by omega
     have hm1 : IntKind.i64.wrap ((m : Int) + 1) = m + 1 := wrap64_id (by omega) (by omega)
     have eb := a.border m (by omega)
     by_cases c3 : (s.border[m]'(by omega)) > 1099511627776
     ·simp only [go_sem, seval, f1, f62, hlt, hm0, Int.toNat_natCast, Nat.mul_one, eb, c3, show (((4 : Nat) : Int)) = 4 from rfl]
      refine hE3 _ _ _ (by simp) ?_
      simp only [go_sem, seval]
      refine fin_at hQ rfl ?_; simp only [go_sem, seval, aF37]; rw [retQ_some]; simp only [oneOr]
      refine ⟨⟨false, rfl, ⟨fun e => (by cases e), fun e => ?_⟩⟩, hK01⟩
      have := e.2.1 m (by omega)
      omega
     ·simp only [go_sem, seval, f1, f62, hlt, hm0, Int.toNat_natCast, Nat.mul_one, eb, c3, hm1, show (((4 : Nat) : Int)) = 4 from rfl]
      refine hN3 _ _ ⟨rfl, m + 1, by omega, fun i hi hij => ?_, ?_, ?_⟩ ?_
      ·by_cases e : i = m
       ·subst e; omega
       ·exact hg3 i hi (by omega)
      ·simp only [go_sem, seval, f1]
      ·simp only [go_sem, seval]; congr 1
      ·simp only [go_sem, seval, f62, RowKit.intOf]
       omega
  ·have hlt : ((j : Int) < 18) := by omega
   have hj0 : (0 : Int) ≤ j := by omega
   have hj1 : IntKind.i64.wrap ((j : Int) + 1) = j + 1 := wrap64_id (by omega) (by omega)
   obtain ⟨ek, en⟩ := lens_rd hbp j (by omega)
   obtain ⟨p, hp⟩ : ∃ p, p = s.lens[j]'(by omega) := ⟨_, rfl⟩
   rw [← hp] at ek en
   have next : LenIn p → ∀ t', t' 1 = .agg s.cells.toArray → t' 3 = r1 → t' 10 = .int .i64 18 → t' 11 = .int .i64 ((j : Int) + 1) → Q1 .normal t' S2 := by
    intro hin t' g1 g3 g10 g11
    refine hN _ _ ⟨rfl, j + 1, by omega, fun i hi hij => ?_, g1, g3, g10, g11⟩ ?_
    ·by_cases e : i = j
     ·subst e; rw [← hp]; exact hin
     ·exact hg i hi (by omega)
    ·rw [g11, h11]
     simp [RowKit.intOf]
     omega
   have stop : ¬ LenIn p → ∀ t', t' 2 = .bool false → Q1 .ret t' S2 := by
    intro hno t' g2
    refine hE _ _ _ (by simp) ?_
    simp only [go_sem, seval]
    refine hQ _ _ _ ?_
    rw [k_body_ret]
    simp only [aF37, resVals, resVal, g2, Option.bind_some, Option.map_some]
    rw [retQ_some]
    refine ⟨⟨false, rfl, ⟨fun e => (by cases e), fun e => ?_⟩⟩, hK01⟩
    exact absurd (hp ▸ e.1 j (by omega)) hno
   clear hN hE hQ
   have hne : ∀ a b : Int, (a != b) = !(a == b) := fun _ _ => rfl
   have n1 : IntKind.i64.wrap (0 - 1099511627776) = -1099511627776 := by decide
   have n2 : IntKind.i64.wrap (0 - 1000000) = -1000000 := by decide
   have hsp : (p.1 == 2) = true ∨ (p.1 == 2) = false := by cases (p.1 == 2) <;> simp
   rcases hsp with hsp | hsp
   all_goals
    simp only [go_sem, seval, h1, h3, h10, h11, hlt, hr1, hj0, Int.toNat_natCast, Nat.mul_one, ek, en, hsp, hne, Bool.not_not, show (((18 : Nat) : Int)) = 18 from rfl]
    repeat' (first | refine gK_splitN (fun hg => ?_) (fun hg => ?_) <;> simp only [go_sem, seval, hg, h1, h3, h10, h11, hlt, hr1, hj0, hj1, Int.toNat_natCast, Nat.mul_one, ek, en, hsp, n1, n2, hne, Bool.not_not, show (((18 : Nat) : Int)) = 18 from rfl] | refine gK_split (fun hg => ?_) (fun hg => ?_) <;> simp only [go_sem, seval, hg, h1, h3, h10, h11, hlt, hr1, hj0, hj1, Int.toNat_natCast, Nat.mul_one, ek, en, hsp, n1, n2, hne, Bool.not_not, show (((18 : Nat) : Int)) = 18 from rfl] | refine iK_split (fun hg => ?_) (fun hg => ?_) <;> simp only [go_sem, seval, hg, h1, h3, h10, h11, hlt, hr1, hj0, hj1, Int.toNat_natCast, Nat.mul_one, ek, en, hsp, n1, n2, hne, Bool.not_not, show (((18 : Nat) : Int)) = 18 from rfl])
   all_goals try simp only [decide_eq_true_eq, decide_eq_false_iff_not, beq_iff_eq, beq_eq_false_iff_ne, bne_iff_ne, bne_eq_false_iff_eq, ne_eq] at *
   all_goals first
    | refine stop ?_ _ ?_
      ·rintro ⟨q1, q2⟩
       omega
      ·simp only [go_sem, seval]
    | refine next ?_ _ ?_ ?_ ?_ ?_
      ·refine ⟨by omega, by omega⟩
      ·simp only [go_sem, seval, h1]
      ·simp only [go_sem, seval, h3]
       try exact hr1
      ·simp only [go_sem, seval, h10]
      ·simp only [go_sem, seval]
end Go.Proofs.YtegaklgjcicnfaaGreat
namespace Go.Proofs.YtegaklgjcicnfaaGreat
open Go Go.Proofs.YtegaklgjcicnfaaGreat.Abs
def zeroS : Sty := ⟨false, 0, List.replicate 18 (0, 0), List.replicate 4 0, false, false, 0, false, 0, 0⟩
def BoolAt (p : Prop) (S : St) (r : Value) (S' : St) : Prop := S' = S ∧ ∃ c, r = .bool c ∧ (c = true ↔ p)
structure Nd where
 s : Sty
 p : Int
def Nd.cells (x : Nd) : List Value := x.s.cells ++ [.int .i64 x.p]
structure Nd.Ok (x : Nd) : Prop where
 s : x.s.Ok
 p : InI64 x.p
def ndCells (l : List Nd) : List Value := l.flatMap Nd.cells
def par (l : List Nd) (k : Nat) : Int := match l[k]? with | some x => x.p | none => -1
theorem par_get {l : List Nd} {k : Nat} (h : k < l.length) : par l k = l[k].p := by unfold par; rw [List.getElem?_eq_getElem h]
/-- The nodes from one upwards. -/
def chainF (P : Nat → Int) : Nat → Int → List Int
 | 0, _ => []
 | f + 1, a => if a < 0 then [] else a :: chainF P f (P a.toNat)
def chain (P : Nat → Int) (a : Int) : List Int := chainF P (a + 1).toNat a
def Tr (P : Nat → Int) (k : Nat) : Prop := ∀ i, i < k → -1 ≤ P i ∧ P i < i
theorem Tr.mono {P : Nat → Int} {k j : Nat} (h : Tr P k) (hj : j ≤ k) : Tr P j := fun i hi => h i (by omega)
theorem chainF_neg (P : Nat → Int) (f : Nat) {a : Int} (h : a < 0) : chainF P f a = [] := by cases f <;> simp [chainF, h]
theorem chainF_eq {P : Nat → Int} {k : Nat} (ht : Tr P k) : ∀ (f g : Nat) (a : Int), a < k → a + 1 ≤ f → a + 1 ≤ g → chainF P f a = chainF P g a
 | 0, g, a, _, hf, _ => by rw [chainF_neg P 0 (by omega), chainF_neg P g (by omega)]
 | f + 1, 0, a, _, _, hg => by rw [chainF_neg P _ (by omega), chainF_neg P 0 (by omega)]
 | f + 1, g + 1, a, hk, hf, hg => by
  rw [chainF, chainF]
  by_cases ha : a < 0
  ·rw [if_pos ha, if_pos ha]
  ·have := ht a.toNat (by omega)
   rw [if_neg ha, if_neg ha, chainF_eq ht f g _ (by omega) (by omega) (by omega)]
theorem chain_neg (P : Nat → Int) {a : Int} (h : a < 0) : chain P a = [] := chainF_neg P _ h
theorem chain_pos {P : Nat → Int} {k : Nat} (ht : Tr P k) {a : Int} (h0 : 0 ≤ a) (hk : a < k) : chain P a = a :: chain P (P a.toNat) := by
 have hp := ht a.toNat (by omega)
 unfold chain
 obtain ⟨n, hn⟩ : ∃ n, (a + 1).toNat = n + 1 := ⟨a.toNat, by omega⟩
 rw [hn, chainF, if_neg (by omega), chainF_eq ht n (P a.toNat + 1).toNat _ (by omega) (by omega) (by omega)]
theorem chain_in {P : Nat → Int} {k : Nat} (ht : Tr P k) : ∀ (n : Nat) (a : Int), a < n → a < k → ∀ x ∈ chain P a, 0 ≤ x ∧ x ≤ a
 | 0, a, hn, _, x, hx => by rw [chain_neg P (by omega)] at hx; simp at hx
 | n + 1, a, hn, hk, x, hx => by
  by_cases ha : a < 0
  ·rw [chain_neg P ha] at hx; simp at hx
  ·rw [chain_pos ht (by omega) hk] at hx
   have := ht a.toNat (by omega)
   rcases List.mem_cons.1 hx with rfl | hx
   ·omega
   ·have := chain_in ht n (P a.toNat) (by omega) (by omega) x hx
    omega
theorem chain_len {P : Nat → Int} {k : Nat} (ht : Tr P k) : ∀ (n : Nat) (a : Int), a < n → a < k → -1 ≤ a → ((chain P a).length : Int) ≤ a + 1
 | 0, a, hn, _, _ => by rw [chain_neg P (by omega)]; simp; omega
 | n + 1, a, hn, hk, h1 => by
  by_cases ha : a < 0
  ·rw [chain_neg P ha]; simp; omega
  ·rw [chain_pos ht (by omega) hk]
   have := ht a.toNat (by omega)
   have := chain_len ht n (P a.toNat) (by omega) (by omega) (by omega)
   simp only [List.length_cons]
   omega
/-- Where one stands among the nodes above. -/
def posOf (p : Int) : List Int → Option Nat
 | [] => none
 | a :: r => if a = p then some 0 else (posOf p r).map (· + 1)
theorem posOf_some {p : Int} : ∀ {l : List Int}, (∃ n, posOf p l = some n) ↔ p ∈ l
 | [] => by simp [posOf]
 | a :: r => by
  rw [posOf]
  by_cases h : a = p
  ·simp [h]
  ·rw [if_neg h]
   simp only [Option.map_eq_some_iff, List.mem_cons]
   have := posOf_some (p := p) (l := r)
   constructor
   ·rintro ⟨n, m, hm, _⟩; exact .inr (this.1 ⟨m, hm⟩)
   ·rintro (e | e)
    ·exact absurd e.symm h
    ·obtain ⟨m, hm⟩ := this.2 e; exact ⟨_, m, hm, rfl⟩
/-- The first nodes are a tree's. -/
def Sh (P : Nat → Int) (k : Nat) : Prop := ∀ i, i < k → (i = 0 → P 0 = -1) ∧ (0 < i → P i ∈ chain P (i - 1))
theorem Sh.tr {P : Nat → Int} : ∀ {k : Nat}, Sh P k → Tr P k
 | 0, _ => fun i hi => by omega
 | k + 1, h => by
  have ih := Sh.tr (k := k) fun i hi => h i (by omega)
  intro i hi
  by_cases hik : i < k
  ·exact ih i hik
  ·obtain rfl : i = k := by omega
   have := h i hi
   by_cases h0 : i = 0
   ·subst h0; rw [this.1 rfl]; omega
   ·have := chain_in ih i ((i : Int) - 1) (by omega) (by omega) _ (this.2 (by omega))
    omega
def Shaped (l : List Nd) : Prop := 0 < l.length ∧ Sh (par l) l.length
def TForm (l : List Nd) : Prop := Shaped l ∧ ∀ x ∈ l, SFormed x.s
def dep (l : List Nd) (k : Nat) : Nat := (chain (par l) k).length
def TLim (l : List Nd) : Prop := (∃ k, k < l.length ∧ (¬ SWithin (l[k]?.getD ⟨zeroS, 0⟩).s ∨ 256 < dep l k)) ∨ 65535 < l.length
open Classical in
noncomputable def tchk (l : List Nd) : Int := if ¬ TForm l then 2 else if TLim l then 3 else 0
theorem Nd.cells_length {x : Nd} (h : x.Ok) : x.cells.length = 49 := by unfold Nd.cells; rw [List.length_append, h.s.len]; rfl
theorem ndCells_length : ∀ (l : List Nd), (∀ x ∈ l, x.Ok) → (ndCells l).length = l.length * 49
 | [], _ => rfl
 | x :: l, h => by
  have := ndCells_length l fun y hy => h y (by simp [hy])
  unfold ndCells at this ⊢
  rw [List.flatMap_cons, List.length_append, this, List.length_cons, Nd.cells_length (h x (by simp))]
  omega
theorem ndCells_at : ∀ (l : List Nd) (hk : ∀ x ∈ l, x.Ok) (j : Nat) (h : j < l.length), ((ndCells l).drop (j * 49)).take 49 = l[j].cells
 | x :: l, hk, 0, _ => by
  have e : ndCells (x :: l) = x.cells ++ ndCells l := by simp [ndCells]
  rw [e, Nat.zero_mul, List.drop_zero]
  exact List.take_left' (Nd.cells_length (hk x (by simp)))
 | x :: l, hk, j + 1, h => by
  have := ndCells_at l (fun y hy => hk y (by simp [hy])) j (by simpa using h)
  rw [Nat.succ_mul, Nat.add_comm, ← List.drop_drop]
  have e : (ndCells (x :: l)).drop 49 = ndCells l := by unfold ndCells; rw [List.flatMap_cons]; exact List.drop_left' (Nd.cells_length (hk x (by simp)))
  rw [e, this]
  rfl
/-- A slice of nodes. -/
def Ns (S : St) (v : Value) (l : List Nd) : Prop := Sl S 49 v l.length (ndCells l)
theorem nodes_at {S : St} {d o : Nat} {l : List Nd} (hk : ∀ x ∈ l, x.Ok) (h : cellsOf S d o (l.length * 49) = some (ndCells l)) (j : Nat) (hj : j < l.length) : cellsOf S d (o + j * 49) 49 = some l[j].cells := by
 rw [cellsOf_of_cells h (by omega), ndCells_at l hk j hj]
theorem style_at {S : St} {d o : Nat} {l : List Nd} (hk : ∀ x ∈ l, x.Ok) (h : cellsOf S d o (l.length * 49) = some (ndCells l)) (j : Nat) (hj : j < l.length) : cellsOf S d (o + j * 49) 48 = some l[j].s.cells := by
 have h1 := nodes_at hk h j hj
 have := cellsOf_of_cells (j := 0) (n := 48) h1 (by omega)
 rw [Nat.add_zero, List.drop_zero] at this
 rw [this]
 unfold Nd.cells
 rw [List.take_left' (hk _ (List.getElem_mem hj)).s.len]
theorem par_at {S : St} {d o : Nat} {l : List Nd} (hk : ∀ x ∈ l, x.Ok) (h : cellsOf S d o (l.length * 49) = some (ndCells l)) (j : Nat) (hj : j < l.length) : rd S d (o + j * 49 + 48) = some (.int .i64 (par l j)) := by
 rw [rd_of_cells (nodes_at hk h j hj) (by omega), par_get hj]
 unfold Nd.cells
 rw [List.getElem?_append_right (by rw [(hk _ (List.getElem_mem hj)).s.len]; omega), (hk _ (List.getElem_mem hj)).s.len]
 rfl
set_option maxHeartbeats 2000000 in
theorem up83 (x : Value) (l : List Nd) (k : Nat) (S : St) (h : Ns S x l) (hok : ∀ x ∈ l, x.Ok) (hk : k < l.length) (hn : l.length ≤ 1000000) (ht : Tr (par l) k) :
  ACalls Tryz.prog 120 [x, .int .i64 k] S fun r S' => S' = S ∧ r = match posOf (par l k) (chain (par l) ((k : Int) - 1)) with | some n => .tuple #[.int .i64 n, .bool true] | none => .tuple #[.int .i64 0, .bool false] := by
 refine run_of hmix Tryz.func120 cF120 rfl fun hL Q hQ => ?_
 obtain ⟨d, o, e, rfl, he, hc⟩ := h.ne (by omega)
 have hw : IntKind.i64.wrap ((k : Int) - 1) = k - 1 := wrap64_id (by omega) (by omega)
 simp only [go_sem, seval, aF120, hw]
 refine lK_of (fun t' S' => S' = S ∧ ∃ (a : Int) (n : Nat), -1 ≤ a ∧ a + n ≤ (k : Int) - 1 ∧ posOf (par l k) (chain (par l) ((k : Int) - 1)) = (posOf (par l k) (chain (par l) a)).map (· + n) ∧ Slots t' [(0, .slice (some ⟨d, o, none⟩) l.length e), (1, .int .i64 k), (6, .int .i64 n), (7, .int .i64 a)]) (fun t' _ => (RowKit.intOf (t' 7) + 1).toNat) ?_ ?_
 ·refine ⟨rfl, (k : Int) - 1, 0, by omega, by omega, by simp, ?_⟩
  simp only [go_sem, seval, Int.natCast_add, Int.natCast_succ]
 rintro t1 S1 Q1 ⟨rfl, a, n, h1, h2, h3, hs⟩ _ hN hE
 simp only [slots_cons, slots_nil] at hs
 by_cases ha : a < 0
 ·have hg : ¬ (0 ≤ a) := by omega
  simp only [go_sem, seval, hs, hg]
  refine hE _ _ _ (by simp) ?_
  simp only [go_sem, seval, hs]
  refine fin_at hQ rfl ?_; simp only [go_sem, seval, aF120, hs]; rw [retQ_some]; simp only [oneOr]
  rw [h3, chain_neg _ ha]
  simp [posOf]
 have hg : 0 ≤ a := by omega
 obtain ⟨j, rfl⟩ : ∃ j : Nat, a = j := ⟨a.toNat, by omega⟩
 have hjk : j < l.length := by omega
 have hjl : (j : Int) < l.length := by omega
 have hkl : (k : Int) < l.length := by omega
 have hk0 : (0 : Int) ≤ k := by omega
 have hpk := par_at hok hc k hk
 have hpj := par_at hok hc j hjk
 have htj := ht j (by omega)
 have hch := chain_pos ht (a := (j : Int)) (by omega) (by omega)
 rw [Int.toNat_natCast] at hch
 rw [hch, posOf] at h3
 have hw1 : IntKind.i64.wrap ((n : Int) + 1) = n + 1 := wrap64_id (by omega) (by omega)
 by_cases hp : (j : Int) = par l k
 ·have hpe : ((j : Int) == par l k) = true := by simpa using hp
  rw [if_pos hp] at h3
  simp only [go_sem, seval, hs, hg, hkl, hk0, Int.toNat_natCast, hpk, hpe]
  refine hE _ _ _ (by simp) ?_
  simp only [go_sem, seval, hs]
  refine fin_at hQ rfl ?_; simp only [go_sem, seval, aF120, hs]; rw [retQ_some]; simp only [oneOr]
  rw [h3]
  simp
 ·have hpe : ((j : Int) == par l k) = false := by simpa using hp
  rw [if_neg hp] at h3
  simp only [go_sem, seval, hs, hg, hkl, hk0, Int.toNat_natCast, hpk, hpe, hw1, hjl, hpj]
  refine hN _ _ ⟨rfl, par l j, n + 1, by omega, by omega, ?_, ?_⟩ ?_
  ·rw [h3, Option.map_map]
   congr 1
   funext q
   simp
   omega
  ·simp only [go_sem, seval, Int.natCast_add, Int.natCast_succ, hs]
  ·simp only [go_sem, seval, hs]
   simp [RowKit.intOf]
   omega
set_option maxHeartbeats 2000000 in
theorem above94 (x : Value) (l : List Nd) (p a : Int) (k : Nat) (S : St) (h : Ns S x l) (hok : ∀ x ∈ l, x.Ok) (hk : k ≤ l.length) (ht : Tr (par l) k) (h0 : -1 ≤ a) (ha : a < k) :
  ACalls Tryz.prog 98 [x, .int .i64 p, .int .i64 a] S (BoolAt (p ∈ chain (par l) a) S) := by
 refine run_of hmix Tryz.func98 cF98 rfl fun hL Q hQ => ?_
 obtain ⟨b, e, rfl⟩ := Sl.slice h
 simp only [go_sem, seval, aF98]
 refine lK_of (fun t' S' => S' = S ∧ ∃ (c : Int), -1 ≤ c ∧ c < k ∧ (p ∈ chain (par l) a ↔ p ∈ chain (par l) c) ∧ Slots t' [(0, .slice b l.length e), (1, .int .i64 p), (2, .int .i64 c)]) (fun t' _ => (RowKit.intOf (t' 2) + 1).toNat) ?_ ?_
 ·refine ⟨rfl, a, h0, ha, Iff.rfl, ?_⟩
  simp only [go_sem, seval, Int.natCast_add, Int.natCast_succ]
 rintro t1 S1 Q1 ⟨rfl, c, h1, h2, h3, hs⟩ _ hN hE
 simp only [slots_cons, slots_nil] at hs
 by_cases hc : c < 0
 ·have hg : ¬ (0 ≤ c) := by omega
  simp only [go_sem, seval, hs, hg]
  refine hE _ _ _ (by simp) ?_
  simp only [go_sem, seval, hs]
  refine fin_at hQ rfl ?_; simp only [go_sem, seval, aF98, hs]; rw [retQ_some]; simp only [oneOr]
  exact ⟨rfl, false, rfl, by rw [h3, chain_neg _ hc]; simp⟩
 have hg : 0 ≤ c := by omega
 obtain ⟨j, rfl⟩ : ∃ j : Nat, c = j := ⟨c.toNat, by omega⟩
 have hjk : j < l.length := by omega
 have hjl : (j : Int) < l.length := by omega
 obtain ⟨d, o, f, hv, he, hcs⟩ := h.ne (by omega)
 cases hv
 have hpj := par_at hok hcs j hjk
 have htj := ht j (by omega)
 have hch := chain_pos ht (a := (j : Int)) (by omega) (by omega)
 rw [Int.toNat_natCast] at hch
 rw [hch] at h3
 by_cases hp : (j : Int) = p
 ·have hpe : ((j : Int) == p) = true := by simpa using hp
  simp only [go_sem, seval, hs, hg, hpe]
  refine hE _ _ _ (by simp) ?_
  simp only [go_sem, seval, hs]
  refine fin_at hQ rfl ?_; simp only [go_sem, seval, aF98, hs]; rw [retQ_some]; simp only [oneOr]
  exact ⟨rfl, true, rfl, by rw [h3]; simp [hp]⟩
 ·have hpe : ((j : Int) == p) = false := by simpa using hp
  simp only [go_sem, seval, hs, hg, Int.toNat_natCast, hpe, hjl, hpj]
  refine hN _ _ ⟨rfl, par l j, by omega, by omega, ?_, ?_⟩ ?_
  ·rw [h3]
   simp only [List.mem_cons]
   exact ⟨fun h => h.resolve_left fun e => hp e.symm, .inr⟩
  ·simp only [go_sem, seval, Int.natCast_add, Int.natCast_succ, hs]
  ·simp only [go_sem, seval, hs]
   simp [RowKit.intOf]
   omega
set_option maxHeartbeats 2000000 in
theorem deep61 (x : Value) (l : List Nd) (a : Int) (k : Nat) (S : St) (h : Ns S x l) (hok : ∀ x ∈ l, x.Ok) (hk : k ≤ l.length) (hn : l.length ≤ 1000000) (ht : Tr (par l) k) (h0 : -1 ≤ a) (ha : a < k) :
  ACalls Tryz.prog 38 [x, .int .i64 a] S fun r S' => S' = S ∧ r = .int .i64 ((chain (par l) a).length : Nat) := by
 refine run_of hmix Tryz.func38 cF38 rfl fun hL Q hQ => ?_
 obtain ⟨b, e, rfl⟩ := Sl.slice h
 simp only [go_sem, seval, aF38]
 refine lK_of (fun t' S' => S' = S ∧ ∃ (c : Int) (n : Nat), -1 ≤ c ∧ c + n < k ∧ (chain (par l) a).length = n + (chain (par l) c).length ∧ Slots t' [(0, .slice b l.length e), (1, .int .i64 c), (5, .int .i64 n)]) (fun t' _ => (RowKit.intOf (t' 1) + 1).toNat) ?_ ?_
 ·refine ⟨rfl, a, 0, h0, by omega, by omega, ?_⟩
  simp only [go_sem, seval, Int.natCast_add, Int.natCast_succ]
 rintro t1 S1 Q1 ⟨rfl, c, n, h1, h2, h3, hs⟩ _ hN hE
 simp only [slots_cons, slots_nil] at hs
 by_cases hc : c < 0
 ·have hg : ¬ (0 ≤ c) := by omega
  simp only [go_sem, seval, hs, hg]
  refine hE _ _ _ (by simp) ?_
  simp only [go_sem, seval, hs]
  refine fin_at hQ rfl ?_; simp only [go_sem, seval, aF38, hs]; rw [retQ_some]; simp only [oneOr]
  rw [h3, chain_neg _ hc]
  simp
 have hg : 0 ≤ c := by omega
 obtain ⟨j, rfl⟩ : ∃ j : Nat, c = j := ⟨c.toNat, by omega⟩
 have hjk : j < l.length := by omega
 have hjl : (j : Int) < l.length := by omega
 obtain ⟨d, o, f, hv, he, hcs⟩ := h.ne (by omega)
 cases hv
 have hpj := par_at hok hcs j hjk
 have htj := ht j (by omega)
 have hch := chain_pos ht (a := (j : Int)) (by omega) (by omega)
 rw [Int.toNat_natCast] at hch
 rw [hch, List.length_cons] at h3
 have hw1 : IntKind.i64.wrap ((n : Int) + 1) = n + 1 := wrap64_id (by omega) (by omega)
 simp only [go_sem, seval, hs, hg, Int.toNat_natCast, hjl, hpj, hw1]
 refine hN _ _ ⟨rfl, par l j, n + 1, by omega, by omega, by omega, ?_⟩ ?_
 ·simp only [go_sem, seval, Int.natCast_add, Int.natCast_succ, hs]
 ·simp only [go_sem, seval, hs]
  simp [RowKit.intOf]
  omega
end Go.Proofs.YtegaklgjcicnfaaGreat
namespace Go.Proofs.YtegaklgjcicnfaaGreat
open Go Go.Proofs.YtegaklgjcicnfaaGreat.Abs
theorem sh_succ {P : Nat → Int} {k : Nat} (h : Sh P k) (h0 : k = 0 → P 0 = -1) (h1 : 0 < k → P k ∈ chain P (k - 1)) : Sh P (k + 1) := by
 intro i hi
 by_cases hik : i < k
 ·exact h i hik
 ·obtain rfl : i = k := by omega
  exact ⟨h0, h1⟩
theorem sh_in {P : Nat → Int} {k : Nat} (h : Sh P k) (h0 : 0 < k) {p : Int} (hp : p ∈ chain P ((k : Int) - 1)) : 0 ≤ p ∧ p < k := by
 have := chain_in h.tr k _ (by omega) (by omega) _ hp
 omega
set_option maxHeartbeats 2000000 in
theorem formed51 (x : Value) (l : List Nd) (S : St) (h : Ns S x l) (hok : ∀ x ∈ l, x.Ok) (hn : l.length ≤ 1000000) : ACalls Tryz.prog 81 [x] S (BoolPost (TForm l) S) := by
 refine run_of hmix Tryz.func81 cF81 rfl fun hL Q hQ => ?_
 obtain ⟨b, e, rfl⟩ := Sl.slice h
 by_cases h0 : l.length = 0
 ·have hz : ((l.length : Int) == 0) = true := by simp [h0]
  simp only [go_sem, seval, aF81, hz]
  refine fin_at hQ rfl ?_; simp only [go_sem, seval, aF81]; rw [retQ_some]; simp only [oneOr]
  exact ⟨⟨false, rfl, by simp [TForm, Shaped, h0]⟩, Keeps.refl _ _⟩
 have hz : ((l.length : Int) == 0) = false := by simp; intro e; apply h0; simp [e]
 obtain ⟨d, o, f, hv, he, hcs⟩ := h.ne (by omega)
 cases hv
 have hl0 : (0 : Int) < l.length := by omega
 have hp0 := par_at hok hcs 0 (by omega)
 by_cases hm : par l 0 = -1
 rotate_left
 ·have hme : (par l 0 != -1) = true := by simpa using hm
  simp only [go_sem, seval, aF81, hz, hl0, Int.le_refl, Int.toNat_zero, hp0, hme]
  refine fin_at hQ rfl ?_; simp only [go_sem, seval, aF81]; rw [retQ_some]; simp only [oneOr]
  exact ⟨⟨false, rfl, by simp; intro hf; exact hm ((hf.1.2 0 hf.1.1).1 rfl)⟩, Keeps.refl _ _⟩
 have hme : (par l 0 != -1) = false := by simpa using hm
 simp only [go_sem, seval, aF81, hz, hl0, Int.le_refl, Int.toNat_zero, hp0, hme]
 refine lK_of (fun t' S' => KeepsAll S S' ∧ Live S' ∧ ∃ j : Nat, j ≤ l.length ∧ Slots t' [(0, .slice (some ⟨d, o, none⟩) l.length e), (17, .int .i64 l.length), (18, .int .i64 j)] ∧ Sh (par l) j ∧ ∀ (k : Nat) (h1 : k < l.length), k < j → SFormed l[k].s) (fun t' _ => (l.length - RowKit.intOf (t' 18)).toNat) ?_ ?_
 ·refine ⟨Keeps.refl _ _, hL, 0, by omega, ?_, fun i hi => by omega, fun k _ hk => by omega⟩
  simp only [go_sem, seval, Int.natCast_add, Int.natCast_succ, hme]
 rintro t1 S1 Q1 ⟨hK1, hL1, j, hj, hs, hsh, hfm⟩ _ hN hE
 simp only [slots_cons, slots_nil] at hs
 have h1 : Ns S1 (.slice (some ⟨d, o, none⟩) l.length e) l := Sl.keeps hL h hK1 fun _ _ => trivial
 by_cases hjn : j = l.length
 ·subst hjn
  simp only [go_sem, seval, hs, Int.lt_irrefl]
  refine hE _ _ _ (by simp) ?_
  simp only [go_sem, seval, hs]
  refine fin_at hQ rfl ?_; simp only [go_sem, seval, aF81, hs]; rw [retQ_some]; simp only [oneOr]
  refine ⟨⟨true, rfl, iff_of_true rfl ⟨⟨by omega, hsh⟩, fun y hy => ?_⟩⟩, hK1⟩
  obtain ⟨k, g1, rfl⟩ := List.getElem_of_mem hy
  exact hfm k g1 g1
 have hjl : j < l.length := by omega
 have hjl' : (j : Int) < l.length := by omega
 have hj0 : (0 : Int) ≤ j := by omega
 have hj1 : IntKind.i64.wrap ((j : Int) + 1) = j + 1 := wrap64_id (by omega) (by omega)
 obtain ⟨d1, o1, f1, hv1, _, hcs1⟩ := h1.ne (by omega)
 cases hv1
 have hst := style_at hok hcs1 j hjl
 simp only [go_sem, seval, hs, hjl']
 refine iK_cut (fun t' S' => Slots t' [(0, .slice (some ⟨d, o, none⟩) l.length e), (3, .int .i64 j), (17, .int .i64 l.length), (18, .int .i64 j)] ∧ S' = S1 ∧ Sh (par l) (j + 1)) (fun Q6 hN6 hE6 => iK_split (fun hc => ?_) (fun hc => ?_)) ?_
 ·have hj0' : 0 < j := by simpa using hc
  simp only [go_sem, seval, hs, hjl']
  refine cK_of (up83 _ l j S1 h1 hok hjl hn hsh.tr) ?_
  rintro r2 S2 hS2 hL2 ⟨rfl, rfl⟩
  match hpo : posOf (par l j) (chain (par l) ((j : Int) - 1)) with
  | none =>
   simp only [go_sem, seval, hs]
   refine hE6 _ _ _ (by simp) ?_
   simp only [go_sem, seval, hs]
   refine hE _ _ _ (by simp) ?_
   simp only [go_sem, seval, hs]
   refine fin_at hQ rfl ?_; simp only [go_sem, seval, aF81, hs]; rw [retQ_some]; simp only [oneOr]
   refine ⟨⟨false, rfl, by simp; intro hf; obtain ⟨n, hn⟩ := posOf_some.2 ((hf.1.2 j hjl).2 hj0'); rw [hpo] at hn; cases hn⟩, hK1⟩
  | some n =>
   simp only [go_sem, seval, hs]
   refine hN6 _ _ ⟨?_, rfl, sh_succ hsh (fun e => by omega) fun _ => posOf_some.1 ⟨n, hpo⟩⟩
   simp only [go_sem, seval, Int.natCast_add, Int.natCast_succ, hs]
 ·have hj0' : ¬ 0 < j := by simpa using hc
  simp only [go_sem, seval, hs, hjl']
  refine hN6 _ _ ⟨?_, rfl, sh_succ hsh (fun e => hm) fun e => by omega⟩
  simp only [go_sem, seval, Int.natCast_add, Int.natCast_succ, hs]
 rintro t6 S6 ⟨h6, rfl, hsh6⟩
 simp only [slots_cons, slots_nil] at h6
 have hslen := (hok _ (List.getElem_mem hjl)).s.len
 simp only [go_sem, seval, h6, hjl', hj0, Int.toNat_natCast, hst]
 refine cK_of (formed20 l[j].s (hok _ (List.getElem_mem hjl)).s S6) ?_
 rintro r7 S7 hS7 hL7 ⟨⟨c, rfl, hc⟩, hK7⟩
 cases c
 ·simp only [go_sem, seval, h6]
  refine hE _ _ _ (by simp) ?_
  simp only [go_sem, seval, h6]
  refine fin_at hQ rfl ?_; simp only [go_sem, seval, aF81, h6]; rw [retQ_some]; simp only [oneOr]
  exact ⟨⟨false, rfl, by simp; intro hf; have := hc.2 (hf.2 _ (List.getElem_mem hjl)); cases this⟩, hK1.trans hK7 fun _ _ _ => trivial⟩
 ·simp only [go_sem, seval, h6, hj1]
  refine hN _ _ ⟨hK1.trans hK7 fun _ _ _ => trivial, hL7, j + 1, by omega, ?_, hsh6, fun k g1 g2 => ?_⟩ ?_
  ·simp only [go_sem, seval, Int.natCast_add, Int.natCast_succ, h6]
  ·by_cases hkj : k = j
   ·subst hkj; exact hc.1 rfl
   ·exact hfm k g1 (by omega)
  ·simp only [go_sem, seval, h6, hs]
   simp [RowKit.intOf]
   omega
set_option maxHeartbeats 2000000 in
theorem shaped84 (x : Value) (l : List Nd) (S : St) (h : Ns S x l) (hok : ∀ x ∈ l, x.Ok) (hn : l.length ≤ 1000000) : ACalls Tryz.prog 63 [x] S (BoolAt (Shaped l) S) := by
 refine run_of hmix Tryz.func63 cF63 rfl fun hL Q hQ => ?_
 obtain ⟨b, e, rfl⟩ := Sl.slice h
 by_cases h0 : l.length = 0
 ·have hz : ((l.length : Int) == 0) = true := by simp [h0]
  simp only [go_sem, seval, aF63, hz]
  refine fin_at hQ rfl ?_; simp only [go_sem, seval, aF63]; rw [retQ_some]; simp only [oneOr]
  exact ⟨rfl, false, rfl, by simp [Shaped, h0]⟩
 have hz : ((l.length : Int) == 0) = false := by simp; intro e; apply h0; simp [e]
 obtain ⟨d, o, f, hv, he, hcs⟩ := h.ne (by omega)
 cases hv
 have hl0 : (0 : Int) < l.length := by omega
 have hp0 := par_at hok hcs 0 (by omega)
 by_cases hm : par l 0 = -1
 rotate_left
 ·have hme : (par l 0 != -1) = true := by simpa using hm
  simp only [go_sem, seval, aF63, hz, hl0, Int.le_refl, Int.toNat_zero, hp0, hme]
  refine fin_at hQ rfl ?_; simp only [go_sem, seval, aF63]; rw [retQ_some]; simp only [oneOr]
  exact ⟨rfl, false, rfl, by simp; intro hf; exact hm ((hf.2 0 hf.1).1 rfl)⟩
 have hme : (par l 0 != -1) = false := by simpa using hm
 simp only [go_sem, seval, aF63, hz, hl0, Int.le_refl, Int.toNat_zero, hp0, hme]
 refine lK_of (fun t' S' => S' = S ∧ ∃ j : Nat, 1 ≤ j ∧ j ≤ l.length ∧ Slots t' [(0, .slice (some ⟨d, o, none⟩) l.length e), (3, .int .i64 j)] ∧ Sh (par l) j) (fun t' _ => (l.length - RowKit.intOf (t' 3)).toNat) ?_ ?_
 ·refine ⟨rfl, 1, by omega, by omega, ?_, fun i hi => ⟨fun _ => hm, fun h => by omega⟩⟩
  simp only [go_sem, seval, Int.natCast_add, Int.natCast_succ, hme]
 rintro t1 S1 Q1 ⟨rfl, j, hj1, hj, hs, hsh⟩ _ hN hE
 simp only [slots_cons, slots_nil] at hs
 by_cases hjn : j = l.length
 ·subst hjn
  simp only [go_sem, seval, hs, Int.lt_irrefl]
  refine hE _ _ _ (by simp) ?_
  simp only [go_sem, seval, hs]
  refine fin_at hQ rfl ?_; simp only [go_sem, seval, aF63, hs]; rw [retQ_some]; simp only [oneOr]
  exact ⟨rfl, true, rfl, iff_of_true rfl ⟨by omega, hsh⟩⟩
 have hjl : j < l.length := by omega
 have hjl' : (j : Int) < l.length := by omega
 have hj0 : (0 : Int) ≤ j := by omega
 have hw1 : IntKind.i64.wrap ((j : Int) + 1) = j + 1 := wrap64_id (by omega) (by omega)
 have hw2 : IntKind.i64.wrap ((j : Int) - 1) = j - 1 := wrap64_id (by omega) (by omega)
 have hpj := par_at hok hcs j hjl
 have hno : ¬ (par l j ∈ chain (par l) ((j : Int) - 1)) → ¬ Shaped l := fun hh hf => hh ((hf.2 j hjl).2 (by omega))
 by_cases g1 : par l j < 0
 ·simp only [go_sem, seval, hs, hjl', hj0, Int.toNat_natCast, hpj, g1]
  refine hE _ _ _ (by simp) ?_
  simp only [go_sem, seval, hs]
  refine fin_at hQ rfl ?_; simp only [go_sem, seval, aF63, hs]; rw [retQ_some]; simp only [oneOr]
  exact ⟨rfl, false, rfl, iff_of_false (by simp) (hno fun hp => by have := sh_in hsh (by omega) hp; omega)⟩
 by_cases g2 : (j : Int) ≤ par l j
 ·simp only [go_sem, seval, hs, hjl', hj0, Int.toNat_natCast, hpj, g1, g2]
  refine hE _ _ _ (by simp) ?_
  simp only [go_sem, seval, hs]
  refine fin_at hQ rfl ?_; simp only [go_sem, seval, aF63, hs]; rw [retQ_some]; simp only [oneOr]
  exact ⟨rfl, false, rfl, iff_of_false (by simp) (hno fun hp => by have := sh_in hsh (by omega) hp; omega)⟩
 simp only [go_sem, seval, hs, hjl', hj0, Int.toNat_natCast, hpj, g1, g2, hw2]
 refine cK_of (above94 _ l (par l j) ((j : Int) - 1) j S1 h hok (by omega) hsh.tr (by omega) (by omega)) ?_
 rintro r2 S2 hS2 hL2 ⟨rfl, c, rfl, hc⟩
 cases c
 ·simp only [go_sem, seval, hs]
  refine hE _ _ _ (by simp) ?_
  simp only [go_sem, seval, hs]
  refine fin_at hQ rfl ?_; simp only [go_sem, seval, aF63, hs]; rw [retQ_some]; simp only [oneOr]
  exact ⟨rfl, false, rfl, iff_of_false (by simp) (hno fun hp => by have := hc.2 hp; cases this)⟩
 ·simp only [go_sem, seval, hs, hw1]
  refine hN _ _ ⟨rfl, j + 1, by omega, by omega, ?_, sh_succ hsh (fun e => by omega) fun _ => hc.1 rfl⟩ ?_
  ·simp only [go_sem, seval, Int.natCast_add, Int.natCast_succ, hs]
  ·simp only [go_sem, seval, hs]
   simp [RowKit.intOf]
   omega
set_option maxHeartbeats 2000000 in
theorem formed52 (x : Value) (l : List Nd) (S : St) (h : Ns S x l) (hok : ∀ x ∈ l, x.Ok) (hn : l.length ≤ 1000000) : ACalls Tryz.prog 36 [x] S (BoolPost (TForm l) S) := by
 refine run_of hmix Tryz.func36 cF36 rfl fun hL Q hQ => ?_
 simp only [go_sem, seval, aF36]
 refine cK_of (shaped84 x l S h hok hn) ?_
 rintro r0 S hS hL' ⟨rfl, c, rfl, hc⟩
 cases c
 ·simp only [go_sem, seval]
  refine fin_at hQ rfl ?_; simp only [go_sem, seval, aF36]; rw [retQ_some]; simp only [oneOr]
  exact ⟨⟨false, rfl, iff_of_false (by simp) fun hf => by have := hc.2 hf.1; cases this⟩, Keeps.refl _ _⟩
 have hsp := hc.1 rfl
 obtain ⟨d, o, e, rfl, he, hcs⟩ := h.ne hsp.1
 simp only [go_sem, seval]
 refine lK_of (fun t' S' => KeepsAll S S' ∧ Live S' ∧ ∃ j : Nat, j ≤ l.length ∧ Slots t' [(0, .slice (some ⟨d, o, none⟩) l.length e), (8, .int .i64 l.length), (9, .int .i64 j)] ∧ ∀ (k : Nat) (h1 : k < l.length), k < j → SFormed l[k].s) (fun t' _ => (l.length - RowKit.intOf (t' 9)).toNat) ?_ ?_
 ·refine ⟨Keeps.refl _ _, hL, 0, by omega, ?_, fun k _ hk => by omega⟩
  simp only [go_sem, seval, Int.natCast_add, Int.natCast_succ]
 rintro t1 S1 Q1 ⟨hK1, hL1, j, hj, hs, hfm⟩ _ hN hE
 simp only [slots_cons, slots_nil] at hs
 have h1 : Ns S1 (.slice (some ⟨d, o, none⟩) l.length e) l := Sl.keeps hL h hK1 fun _ _ => trivial
 by_cases hjn : j = l.length
 ·subst hjn
  simp only [go_sem, seval, hs, Int.lt_irrefl]
  refine hE _ _ _ (by simp) ?_
  simp only [go_sem, seval, hs]
  refine fin_at hQ rfl ?_; simp only [go_sem, seval, aF36, hs]; rw [retQ_some]; simp only [oneOr]
  refine ⟨⟨true, rfl, iff_of_true rfl ⟨hsp, fun y hy => ?_⟩⟩, hK1⟩
  obtain ⟨k, g1, rfl⟩ := List.getElem_of_mem hy
  exact hfm k g1 g1
 have hjl : j < l.length := by omega
 have hjl' : (j : Int) < l.length := by omega
 have hj0 : (0 : Int) ≤ j := by omega
 have hj1 : IntKind.i64.wrap ((j : Int) + 1) = j + 1 := wrap64_id (by omega) (by omega)
 obtain ⟨d1, o1, f1, hv1, _, hcs1⟩ := h1.ne (by omega)
 cases hv1
 have hst := style_at hok hcs1 j hjl
 simp only [go_sem, seval, hs, hjl', hj0, Int.toNat_natCast, hst]
 refine cK_of (refFormed l[j].s (hok _ (List.getElem_mem hjl)).s S1) ?_
 rintro r7 S7 hS7 hL7 ⟨⟨c, rfl, hc⟩, hK7⟩
 cases c
 ·simp only [go_sem, seval, hs]
  refine hE _ _ _ (by simp) ?_
  simp only [go_sem, seval, hs]
  refine fin_at hQ rfl ?_; simp only [go_sem, seval, aF36, hs]; rw [retQ_some]; simp only [oneOr]
  exact ⟨⟨false, rfl, iff_of_false (by simp) fun hf => by have := hc.2 (hf.2 _ (List.getElem_mem hjl)); cases this⟩, hK1.trans hK7 fun _ _ _ => trivial⟩
 ·simp only [go_sem, seval, hs, hj1]
  refine hN _ _ ⟨hK1.trans hK7 fun _ _ _ => trivial, hL7, j + 1, by omega, ?_, fun k g1 g2 => ?_⟩ ?_
  ·simp only [go_sem, seval, Int.natCast_add, Int.natCast_succ, hs]
  ·by_cases hkj : k = j
   ·subst hkj; exact hc.1 rfl
   ·exact hfm k g1 (by omega)
  ·simp only [go_sem, seval, hs]
   simp [RowKit.intOf]
   omega
end Go.Proofs.YtegaklgjcicnfaaGreat
namespace Go.Proofs.YtegaklgjcicnfaaGreat
open Go Go.Proofs.YtegaklgjcicnfaaGreat.Abs
def intsV (xs : List Int) : List Value := xs.map fun a => .int .i64 a
theorem ints_at {S : St} {d o : Nat} {xs : List Int} (h : cellsOf S d o (xs.length * 1) = some (intsV xs)) (j : Nat) (hj : j < xs.length) : rd S d (o + j * 1) = some (.int .i64 xs[j]) := by
 rw [rd_of_cells h (by omega)]
 simp [intsV, hj]
set_option maxHeartbeats 2000000 in
theorem max95 (x : Value) (xs : List Int) (S : St) (h : Sl S 1 x xs.length (intsV xs)) (h0 : 0 < xs.length) (hn : xs.length ≤ 1000000) :
  ACalls Tryz.prog 122 [x] S fun r S' => S' = S ∧ ∃ m, r = .int .i64 m ∧ m ∈ xs ∧ ∀ y ∈ xs, y ≤ m := by
 refine run_of hmix Tryz.func122 cF122 rfl fun hL Q hQ => ?_
 obtain ⟨d, o, e, rfl, he, hcs⟩ := h.ne h0
 have hl0 : ¬ ((xs.length : Int) < 1) := by omega
 have hl1 : (0 : Int) < xs.length := by omega
 have hr0 : rd S d o = some (.int .i64 xs[0]) := by simpa using ints_at hcs 0 h0
 simp only [go_sem, seval, aF122, hl0, hl1, Int.le_refl, Int.toNat_zero, hr0]
 refine lK_of (fun t' S' => S' = S ∧ ∃ (j : Nat) (m : Int), 1 ≤ j ∧ j ≤ xs.length ∧ Slots t' [(0, .slice (some ⟨d, o, none⟩) xs.length e), (3, .int .i64 m), (4, .int .i64 j)] ∧ m ∈ xs ∧ ∀ (k : Nat) (h1 : k < xs.length), k < j → xs[k] ≤ m) (fun t' _ => (xs.length - RowKit.intOf (t' 4)).toNat) ?_ ?_
 ·refine ⟨rfl, 1, xs[0], by omega, by omega, ?_, List.getElem_mem h0, fun k h1 hk => ?_⟩
  ·simp only [go_sem, seval, Int.natCast_add, Int.natCast_succ, hl0]
  ·obtain rfl : k = 0 := by omega
   omega
 rintro t1 S1 Q1 ⟨rfl, j, m, hj1, hj, hs, hmi, hle⟩ _ hN hE
 simp only [slots_cons, slots_nil] at hs
 by_cases hjn : j = xs.length
 ·subst hjn
  simp only [go_sem, seval, hs, Int.lt_irrefl]
  refine hE _ _ _ (by simp) ?_
  simp only [go_sem, seval, hs]
  refine fin_at hQ rfl ?_; simp only [go_sem, seval, aF122, hs]; rw [retQ_some]; simp only [oneOr]
  refine ⟨trivial, m, rfl, hmi, fun y hy => ?_⟩
  obtain ⟨k, g1, rfl⟩ := List.getElem_of_mem hy
  exact hle k g1 g1
 have hjl : j < xs.length := by omega
 have hjl' : (j : Int) < xs.length := by omega
 have hj0 : (0 : Int) ≤ j := by omega
 have hw1 : IntKind.i64.wrap ((j : Int) + 1) = j + 1 := wrap64_id (by omega) (by omega)
 have hrj := ints_at hcs j hjl
 simp only [go_sem, seval, hs, hjl', hj0, Int.toNat_natCast, hrj, hw1]
 refine hN _ _ ⟨rfl, j + 1, if xs[j] > m then xs[j] else m, by omega, by omega, ?_, ?_, fun k g1 g2 => ?_⟩ ?_
 ·simp only [go_sem, seval, Int.natCast_add, Int.natCast_succ, hs]
 ·split
  ·exact List.getElem_mem hjl
  ·exact hmi
 ·have hm1 : m ≤ (if xs[j] > m then xs[j] else m) := by split <;> omega
  by_cases hkj : k = j
  ·subst hkj; split <;> omega
  ·have := hle k g1 (by omega); omega
 ·simp only [go_sem, seval, hs]
  simp [RowKit.intOf]
  omega
def depV (l : List Nd) (j : Nat) : List Int := (List.range l.length).map fun k => if k < j then (dep l k : Int) else 0
theorem depV_length (l : List Nd) (j : Nat) : (depV l j).length = l.length := by simp [depV]
theorem depV_zero (l : List Nd) : intsV (depV l 0) = List.replicate l.length (.int .i64 0) := by
 apply List.ext_getElem
 ·simp [intsV, depV]
 ·intro k h1 h2
  simp [intsV, depV]
theorem depV_succ (l : List Nd) (j : Nat) (hj : j < l.length) : (intsV (depV l j)).set j (.int .i64 (dep l j)) = intsV (depV l (j + 1)) := by
 apply List.ext_getElem
 ·simp [intsV, depV]
 ·intro k h1 h2
  rw [List.getElem_set]
  simp only [intsV, depV, List.getElem_map, List.getElem_range]
  by_cases h : j = k
  ·subst h; rw [if_pos rfl, if_pos (by omega)]
  ·rw [if_neg h]
   by_cases h' : k < j
   ·rw [if_pos h', if_pos (by omega)]
   ·rw [if_neg h', if_neg (by omega)]
theorem depV_get (l : List Nd) (j k : Nat) (hk : k < j) (hj : j ≤ l.length) : (intsV (depV l j))[k]? = some (.int .i64 (dep l k)) := by
 simp only [intsV, depV, List.getElem?_map]
 rw [List.getElem?_range (by omega)]
 simp [hk]
set_option maxHeartbeats 2000000 in
theorem deepest85 (x : Value) (l : List Nd) (S : St) (h : Ns S x l) (hok : ∀ x ∈ l, x.Ok) (hn : l.length ≤ 1000000) (hf : Shaped l) : ACalls Tryz.prog 82 [x] S fun r S' => KeepsAll S S' ∧ ∃ m, r = .int .i64 m ∧ (256 < m ↔ ∃ k, k < l.length ∧ 256 < dep l k) := by
 refine run_of hmix Tryz.func82 cF82 rfl fun hL Q hQ => ?_
 obtain ⟨d, o, e, rfl, he, hcs⟩ := h.ne hf.1
 have h8 : (l.length : Int) * 8 ≤ 1099511627776 := by omega
 have hl0 : (0 : Int) ≤ l.length := by omega
 simp only [go_sem, seval, aF82, hl0, Int.le_refl, h8, Int.toNat_natCast, toList_madeCells_one, Nat.mul_one]
 refine lK_of (fun t' S' => KeepsAll S S' ∧ Live S' ∧ ∃ j : Nat, j ≤ l.length ∧ Slots t' [(3, .slice (some ⟨S.next, 0, none⟩) l.length 1), (9, .slice (some ⟨d, o, none⟩) l.length e), (10, .int .i64 l.length), (11, .int .i64 j)] ∧ S'.blk S.next = some ⟨false, intsV (depV l j)⟩) (fun t' _ => (l.length - RowKit.intOf (t' 11)).toNat) ?_ ?_
 ·refine ⟨Keeps.of_new S _ _, hL.new _, 0, by omega, ?_, ?_⟩
  ·simp only [go_sem, seval, Int.natCast_add, Int.natCast_succ, hl0]
  ·rw [depV_zero]
   simp [St.blk_new]
 rintro t1 S1 Q1 ⟨hK1, hL1, j, hj, hs, hb⟩ _ hN hE
 simp only [slots_cons, slots_nil] at hs
 by_cases hjn : j = l.length
 ·subst hjn
  simp only [go_sem, seval, hs, Int.lt_irrefl]
  refine hE _ _ _ (by simp) ?_
  simp only [go_sem, seval, hs]
  have hsl : Sl S1 1 (.slice (some ⟨S.next, 0, none⟩) l.length 1) (depV l l.length).length (intsV (depV l l.length)) := by
   rw [depV_length]
   exact .inr ⟨_, 0, 1, rfl, .inr rfl, by rw [cellsOf_of_blk hb, if_pos (by simp [intsV, depV_length])]; simp [intsV, depV_length]; rw [List.take_of_length_le (by simp [depV_length])]⟩
  refine cK_of (max95 _ (depV l l.length) S1 hsl (by rw [depV_length]; exact hf.1) (by rw [depV_length]; exact hn)) ?_
  rintro r2 S2 hS2 hL2 ⟨rfl, m, rfl, hmi, hle⟩
  simp only [go_sem, seval, hs]
  refine fin_at hQ rfl ?_; simp only [go_sem, seval, aF82, hs]; rw [retQ_some]; simp only [oneOr]
  refine ⟨hK1, m, rfl, ?_⟩
  unfold depV at hmi hle
  simp only [List.mem_map, List.mem_range] at hmi hle
  constructor
  ·intro hm
   obtain ⟨k, hk, rfl⟩ := hmi
   rw [if_pos hk] at hm
   exact ⟨k, hk, by omega⟩
  ·rintro ⟨k, hk, hd⟩
   have := hle _ ⟨k, hk, rfl⟩
   rw [if_pos hk] at this
   omega
 have hjl : j < l.length := by omega
 have hjl' : (j : Int) < l.length := by omega
 have hj0 : (0 : Int) ≤ j := by omega
 have hw1 : IntKind.i64.wrap ((j : Int) + 1) = j + 1 := wrap64_id (by omega) (by omega)
 have h1 : Ns S1 (.slice (some ⟨d, o, none⟩) l.length e) l := Sl.keeps hL h hK1 fun _ _ => trivial
 obtain ⟨d1, o1, f1, hv1, _, hcs1⟩ := h1.ne (by omega)
 cases hv1
 have hnd := nodes_at hok hcs1 j hjl
 have hpj := par_at hok hcs1 j hjl
 have hlen : l[j].cells.length = 49 := Nd.cells_length (hok _ (List.getElem_mem hjl))
 have hc48 : l[j].cells[48]? = some (.int .i64 (par l j)) := by
  rw [par_get hjl]
  unfold Nd.cells
  rw [List.getElem?_append_right (by rw [(hok _ (List.getElem_mem hjl)).s.len]; omega), (hok _ (List.getElem_mem hjl)).s.len]
  rfl
 have hdl : (intsV (depV l j)).length = l.length := by simp [intsV, depV_length]
 have hj1' : j + 1 ≤ l.length := by omega
 have hnS1 : S.next < S1.next := hL1 _ _ hb
 by_cases hj1 : 0 < j
 rotate_left
 ·have hgt : ¬ ((0 : Int) < j) := by omega
  have hj1' : j + 1 ≤ l.length := by omega
  simp only [go_sem, seval, hs, hjl', hj0, Int.toNat_natCast, hnd, hlen, hb, hdl, hgt, Nat.mul_one, hj1', hw1]
  have hj00 : j = 0 := by omega
  have hd0 : (dep l j : Int) = 1 := by
   subst hj00
   have := (hf.2 0 hf.1).1 rfl
   unfold dep
   rw [chain_pos hf.2.tr (by omega) (by omega), show par l ((0 : Nat) : Int).toNat = -1 from this, chain_neg _ (by omega)]
   rfl
  refine hN _ _ ⟨hK1.set (fun i hi _ => by omega) _, hL1.set _ _ hnS1, j + 1, by omega, ?_, ?_⟩ ?_
  ·simp only [go_sem, seval, Int.natCast_add, Int.natCast_succ, hs]
  ·rw [St.blk_set, if_pos rfl, ← depV_succ l j hjl, hd0]
  ·simp only [go_sem, seval, hs]
   simp [RowKit.intOf]
   omega
 ·obtain ⟨q, hq⟩ : ∃ q : Nat, par l j = q := ⟨(par l j).toNat, by have := sh_in (P := par l) (k := j) (fun i hi => hf.2 i (by omega)) hj1 ((hf.2 j hjl).2 hj1); omega⟩
  have hqj : q < j := by have := hf.2.tr j hjl; omega
  have hgt : (0 : Int) < j := by omega
  have hq0 : (0 : Int) ≤ q := by omega
  have hql : (q : Int) < l.length := by omega
  rw [hq] at hc48
  have hdq : dep l j = dep l q + 1 := by
   unfold dep
   rw [chain_pos hf.2.tr (by omega) (by omega), Int.toNat_natCast, hq]
   rfl
  have hrd : ((intsV (depV l j)).set j (.int .i64 1))[q]? = some (.int .i64 (dep l q)) := by
   rw [List.getElem?_set_ne (by omega), depV_get l j q hqj (by omega)]
  have hcl := chain_len hf.2.tr l.length (q : Int) (by omega) (by omega) (by omega)
  have hw2 : IntKind.i64.wrap ((dep l q : Int) + 1) = dep l q + 1 := wrap64_id (by unfold dep; omega) (by unfold dep; omega)
  simp only [go_sem, seval, hs, hjl', hj0, Int.toNat_natCast, hnd, hlen, hb, hdl, hgt, Nat.mul_one, hj1', hw1, hc48, hq0, hql, hrd, hw2, List.length_set]
  refine hN _ _ ⟨(hK1.set (fun i hi _ => by omega) _).set (fun i hi _ => by omega) _, (hL1.set _ _ hnS1).set _ _ hnS1, j + 1, by omega, ?_, ?_⟩ ?_
  ·simp only [go_sem, seval, Int.natCast_add, Int.natCast_succ, hs]
  ·rw [St.blk_set, if_pos rfl, ← depV_succ l j hjl, hdq, List.set_set]
   rfl
  ·simp only [go_sem, seval, hs]
   simp [RowKit.intOf]
   omega
end Go.Proofs.YtegaklgjcicnfaaGreat
namespace Go.Proofs.YtegaklgjcicnfaaGreat
open Go Go.Proofs.YtegaklgjcicnfaaGreat.Abs
theorem tlim_iff (l : List Nd) : TLim l ↔ 65535 < l.length ∨ (∃ k, k < l.length ∧ 256 < dep l k) ∨ ¬ ∀ y ∈ l, SWithin y.s := by
 unfold TLim
 constructor
 ·rintro (⟨k, hk, h | h⟩ | h)
  ·refine .inr (.inr fun hh => h ?_)
   rw [List.getElem?_eq_getElem hk]
   exact hh _ (List.getElem_mem hk)
  ·exact .inr (.inl ⟨k, hk, h⟩)
  ·exact .inl h
 ·rintro (h | ⟨k, hk, h⟩ | h)
  ·exact .inr h
  ·exact .inl ⟨k, hk, .inr h⟩
  ·refine .inl (Classical.byContradiction fun hh => h fun y hy => ?_)
   obtain ⟨k, hk, rfl⟩ := List.getElem_of_mem hy
   exact Classical.byContradiction fun hw => hh ⟨k, hk, .inl (by rw [List.getElem?_eq_getElem hk]; exact hw)⟩
theorem enters84 : enters Tryz.prog 84 = true := by kernel_rfl
theorem not87 (x : Nd) (hx : x.Ok) (S : St) : ACalls Tryz.prog 84 [.agg x.cells.toArray] S (BoolPost (¬ SWithin x.s) S) := by
 refine run_of hmix Tryz.func84 cF84 rfl fun hL Q hQ => ?_
 have hl := Nd.cells_length hx
 have ht : x.cells.take 48 = x.s.cells := by unfold Nd.cells; exact List.take_left' hx.s.len
 simp only [go_sem, seval, aF84, hl, ht]
 refine cK_of (within22 x.s hx.s S) ?_
 rintro v S' hS hL' ⟨⟨c, rfl, hc⟩, hK⟩
 simp only [go_sem, seval]
 refine fin_at hQ rfl ?_; simp only [go_sem, seval, aF84]; rw [retQ_some]; simp only [oneOr]
 exact ⟨⟨!c, rfl, by cases c <;> simp_all⟩, hK⟩
def fn87 : Value := .func (.func 84) #[] #[]
set_option maxHeartbeats 1000000 in
theorem index96 (x : Value) (l : List Nd) (S : St) (h : Ns S x l) (hok : ∀ x ∈ l, x.Ok) (hn : l.length ≤ 1000000) :
  ACalls Tryz.prog 123 [x, fn87] S fun r S' => KeepsAll S S' ∧ ∃ k : Int, r = .int .i64 k ∧ (k ≥ 0 ↔ ¬ ∀ y ∈ l, SWithin y.s) := by
 refine run_of hmix Tryz.func123 cF123 rfl fun hL Q hQ => ?_
 unfold fn87
 obtain ⟨a, e, rfl⟩ := Sl.slice h
 simp only [go_sem, seval, aF123]
 refine lK_of (fun t' S' => KeepsAll S S' ∧ Live S' ∧ ∃ j : Nat, j ≤ l.length ∧ Slots t' [(0, .slice a l.length e), (1, .func (.func 84) #[] #[]), (7, .int .i64 l.length), (8, .int .i64 j)] ∧ ∀ y ∈ l.take j, SWithin y.s) (fun t' _ => (l.length - RowKit.intOf (t' 8)).toNat) ?_ ?_
 ·refine ⟨Keeps.refl _ _, hL, 0, by omega, ?_, by simp⟩
  simp only [go_sem, seval, Int.natCast_add, Int.natCast_succ]
 rintro t1 S1 Q1 ⟨hK1, hL1, j, hj, h1, hr⟩ _ hN hE
 simp only [slots_cons, slots_nil] at h1
 have hs1 : Ns S1 (.slice a l.length e) l := Sl.keeps hL h hK1 fun _ _ => trivial
 by_cases hjn : j = l.length
 ·subst hjn
  simp only [go_sem, seval, h1, Int.lt_irrefl]
  refine hE _ _ _ (by simp) ?_
  simp only [go_sem, seval, h1]
  refine fin_at hQ rfl ?_; simp only [go_sem, seval, aF123, h1]; rw [retQ_some]; simp only [oneOr]
  rw [List.take_of_length_le (Nat.le_refl _)] at hr
  exact ⟨hK1, -1, rfl, by simp; exact hr⟩
 ·obtain ⟨d, o, e', hv, he, hc⟩ := hs1.ne (by omega)
  cases hv
  have hlt : (j : Int) < l.length := by omega
  have hj0 : (0 : Int) ≤ j := by omega
  have hj1 : IntKind.i64.wrap ((j : Int) + 1) = j + 1 := wrap64_id (by omega) (by omega)
  have hjl : j < l.length := by omega
  have hcj := nodes_at hok hc j hjl
  simp only [go_sem, seval, h1, hlt, hj0, Int.toNat_natCast, hcj, enters84]
  refine cK_of (not87 l[j] (hok _ (List.getElem_mem hjl)) _) ?_
  rintro v S' hS hL' ⟨⟨c, rfl, hcc⟩, hK'⟩
  cases c
  ·simp only [go_sem, seval, h1, hj1]
   refine hN _ _ ⟨hK1.trans hK' fun _ _ _ => trivial, hL', j + 1, by omega, ?_, ?_⟩ ?_
   ·simp only [go_sem, seval, Int.natCast_add, Int.natCast_succ, h1]
   ·rw [List.take_succ_eq_append_getElem hjl]
    intro y hy
    rcases List.mem_append.1 hy with hy | hy
    ·exact hr y hy
    ·simp at hy
     subst hy
     exact Classical.byContradiction fun hh => by have := hcc.2 hh; cases this
   ·simp only [go_sem, seval, h1]
    simp [RowKit.intOf]
    omega
  ·simp only [go_sem, seval, h1]
   refine hE _ _ _ (by simp) ?_
   simp only [go_sem, seval]
   refine fin_at hQ rfl ?_; simp only [go_sem, seval, aF123, h1]; rw [retQ_some]; simp only [oneOr]
   refine ⟨hK1.trans hK' fun _ _ _ => trivial, j, rfl, ?_⟩
   exact ⟨fun _ hall => (hcc.1 rfl) (hall _ (List.getElem_mem _)), fun _ => by omega⟩
theorem has86 (x : Value) (l : List Nd) (S : St) (h : Ns S x l) (hok : ∀ x ∈ l, x.Ok) (hn : l.length ≤ 1000000) : ACalls Tryz.prog 83 [x, fn87] S (BoolPost (¬ ∀ y ∈ l, SWithin y.s) S) := by
 refine run_of hmix Tryz.func83 cF83 rfl fun hL Q hQ => ?_
 simp only [go_sem, seval, aF83]
 refine cK_of (index96 x l S h hok hn) ?_
 rintro r S' hS hL' ⟨hK, k, rfl, hk⟩
 simp only [go_sem, seval]
 refine fin_at hQ rfl ?_; simp only [go_sem, seval, aF83]; rw [retQ_some]; simp only [oneOr]
 exact ⟨⟨_, rfl, by rw [decide_eq_true_eq]; exact hk⟩, hK⟩
theorem tchk_form {l : List Nd} (h : ¬ TForm l) : tchk l = 2 := by unfold tchk; rw [if_pos h]
theorem tchk_lim {l : List Nd} (h : TForm l) (k : TLim l) : tchk l = 3 := by unfold tchk; rw [if_neg (fun hh => hh h), if_pos k]
theorem tchk_ok {l : List Nd} (h : TForm l) (k : ¬ TLim l) : tchk l = 0 := by unfold tchk; rw [if_neg (fun hh => hh h), if_neg k]
set_option maxHeartbeats 1000000 in
theorem check53 (x : Value) (l : List Nd) (S : St) (h : Ns S x l) (hok : ∀ x ∈ l, x.Ok) (hn : l.length ≤ 1000000) : ACalls Tryz.prog 48 [x] S fun r S' => KeepsAll S S' ∧ r = .int .i64 (tchk l) := by
 refine run_of hmix Tryz.func48 cF48 rfl fun hL Q hQ => ?_
 simp only [go_sem, seval, aF48]
 refine cK_of (formed51 x l S h hok hn) ?_
 rintro r1 S1 hS1 hL1 ⟨⟨c, rfl, hc⟩, hK1⟩
 cases c
 ·simp only [go_sem, seval]
  refine fin_at hQ rfl ?_; simp only [go_sem, seval, aF48]; rw [retQ_some]; simp only [oneOr]
  exact ⟨hK1, by rw [tchk_form fun hf => by have := hc.2 hf; cases this]⟩
 have hf := hc.1 rfl
 have h1 : Ns S1 x l := Sl.keeps hL h hK1 fun _ _ => trivial
 obtain ⟨a, e, rfl⟩ := Sl.slice h1
 by_cases g1 : (65535 : Int) < l.length
 ·simp only [go_sem, seval, g1]
  refine fin_at hQ rfl ?_; simp only [go_sem, seval, aF48]; rw [retQ_some]; simp only [oneOr]
  exact ⟨hK1, by rw [tchk_lim hf ((tlim_iff l).2 (.inl (by omega)))]⟩
 simp only [go_sem, seval, g1]
 refine cK_of (deepest85 _ l S1 h1 hok hn hf.1) ?_
 rintro r2 S2 hS2 hL2 ⟨hK2, m, rfl, hm⟩
 have hK12 := hK1.trans hK2 fun _ _ _ => trivial
 by_cases g2 : 256 < m
 ·simp only [go_sem, seval, g1, g2]
  refine fin_at hQ rfl ?_; simp only [go_sem, seval, aF48]; rw [retQ_some]; simp only [oneOr]
  exact ⟨hK12, by rw [tchk_lim hf ((tlim_iff l).2 (.inr (.inl (hm.1 g2))))]⟩
 have h2 : Ns S2 (.slice a l.length e) l := Sl.keeps hL1 h1 hK2 fun _ _ => trivial
 simp only [go_sem, seval, g1, g2]
 refine cK_of (has86 _ l S2 h2 hok hn) ?_
 rintro r3 S3 hS3 hL3 ⟨⟨c, rfl, hc⟩, hK3⟩
 have hK13 := hK12.trans hK3 fun _ _ _ => trivial
 cases c
 ·simp only [go_sem, seval]
  refine fin_at hQ rfl ?_; simp only [go_sem, seval, aF48]; rw [retQ_some]; simp only [oneOr]
  refine ⟨hK13, ?_⟩
  rw [tchk_ok hf]
  intro hh
  rcases (tlim_iff l).1 hh with hh | hh | hh
  ·omega
  ·exact g2 (hm.2 hh)
  ·have := hc.2 hh; cases this
 ·simp only [go_sem, seval]
  refine fin_at hQ rfl ?_; simp only [go_sem, seval, aF48]; rw [retQ_some]; simp only [oneOr]
  exact ⟨hK13, by rw [tchk_lim hf ((tlim_iff l).2 (.inr (.inr (hc.1 rfl))))]⟩
set_option maxHeartbeats 2000000 in
theorem check54 (x : Value) (l : List Nd) (S : St) (h : Ns S x l) (hok : ∀ x ∈ l, x.Ok) (hn : l.length ≤ 1000000) : ACalls Tryz.prog 22 [x] S fun r S' => KeepsAll S S' ∧ r = .int .i64 (tchk l) := by
 refine run_of hmix Tryz.func22 cF22 rfl fun hL Q hQ => ?_
 simp only [go_sem, seval, aF22]
 refine cK_of (formed52 x l S h hok hn) ?_
 rintro r1 S1 hS1 hL1 ⟨⟨c, rfl, hc⟩, hK1⟩
 cases c
 ·simp only [go_sem, seval]
  refine fin_at hQ rfl ?_; simp only [go_sem, seval, aF22]; rw [retQ_some]; simp only [oneOr]
  exact ⟨hK1, by rw [tchk_form fun hf => by have := hc.2 hf; cases this]⟩
 have hf := hc.1 rfl
 have h1 : Ns S1 x l := Sl.keeps hL h hK1 fun _ _ => trivial
 obtain ⟨a, e, rfl⟩ := Sl.slice h1
 simp only [go_sem, seval]
 refine lK_of (fun t' S' => KeepsAll S S' ∧ Live S' ∧ ∃ j : Nat, j ≤ l.length ∧ Slots t' [(0, .slice a l.length e), (8, .int .i64 l.length), (9, .int .i64 j)] ∧ ∀ (k : Nat) (h1 : k < l.length), k < j → SWithin l[k].s ∧ dep l k ≤ 256) (fun t' _ => (l.length - RowKit.intOf (t' 9)).toNat) ?_ ?_
 ·refine ⟨hK1, hL1, 0, by omega, ?_, fun k _ hk => by omega⟩
  simp only [go_sem, seval, Int.natCast_add, Int.natCast_succ]
 rintro t2 S2 Q2 ⟨hK2, hL2, j, hj, hs, hr⟩ _ hN hE
 simp only [slots_cons, slots_nil] at hs
 have h2 : Ns S2 (.slice a l.length e) l := Sl.keeps hL h hK2 fun _ _ => trivial
 by_cases hjn : j = l.length
 ·subst hjn
  by_cases g1 : (65535 : Int) < l.length
  ·simp only [go_sem, seval, hs, Int.lt_irrefl]
   refine hE _ _ _ (by simp) ?_
   simp only [go_sem, seval, hs, g1]
   refine fin_at hQ rfl ?_; simp only [go_sem, seval, aF22, hs]; rw [retQ_some]; simp only [oneOr]
   exact ⟨hK2, by rw [tchk_lim hf ((tlim_iff l).2 (.inl (by omega)))]⟩
  ·simp only [go_sem, seval, hs, Int.lt_irrefl]
   refine hE _ _ _ (by simp) ?_
   simp only [go_sem, seval, hs, g1]
   refine fin_at hQ rfl ?_; simp only [go_sem, seval, aF22, hs]; rw [retQ_some]; simp only [oneOr]
   refine ⟨hK2, ?_⟩
   rw [tchk_ok hf]
   intro hh
   rcases (tlim_iff l).1 hh with hh | ⟨k, hk, hh⟩ | hh
   ·omega
   ·have := (hr k hk hk).2; omega
   ·refine hh fun y hy => ?_
    obtain ⟨k, hk, rfl⟩ := List.getElem_of_mem hy
    exact (hr k hk hk).1
 have hjl : j < l.length := by omega
 obtain ⟨d, o, e', hv, he, hcs⟩ := h2.ne (by omega)
 cases hv
 have hlt : (j : Int) < l.length := by omega
 have hj0 : (0 : Int) ≤ j := by omega
 have hj1 : IntKind.i64.wrap ((j : Int) + 1) = j + 1 := wrap64_id (by omega) (by omega)
 have hst := style_at hok hcs j hjl
 simp only [go_sem, seval, hs, hlt, hj0, Int.toNat_natCast, hst]
 refine cK_of (refWithin l[j].s (hok _ (List.getElem_mem hjl)).s S2) ?_
 rintro r3 S3 hS3 hL3 ⟨⟨c, rfl, hc3⟩, hK3⟩
 have hK23 := hK2.trans hK3 fun _ _ _ => trivial
 cases c
 ·simp only [go_sem, seval, hs]
  refine hE _ _ _ (by simp) ?_
  simp only [go_sem, seval, hs]
  refine fin_at hQ rfl ?_; simp only [go_sem, seval, aF22, hs]; rw [retQ_some]; simp only [oneOr]
  exact ⟨hK23, by rw [tchk_lim hf ((tlim_iff l).2 (.inr (.inr fun hh => by have := hc3.2 (hh _ (List.getElem_mem hjl)); cases this)))]⟩
 have h3 : Ns S3 (.slice (some ⟨d, o, none⟩) l.length e) l := Sl.keeps hL2 h2 hK3 fun _ _ => trivial
 simp only [go_sem, seval, hs]
 refine cK_of (deep61 _ l j l.length S3 h3 hok (Nat.le_refl _) hn hf.1.2.tr (by omega) hlt) ?_
 rintro r4 S4 hS4 hL4 ⟨rfl, rfl⟩
 by_cases g2 : (256 : Int) < ((chain (par l) (j : Int)).length : Nat)
 ·simp only [go_sem, seval, hs, g2]
  refine hE _ _ _ (by simp) ?_
  simp only [go_sem, seval, hs]
  refine fin_at hQ rfl ?_; simp only [go_sem, seval, aF22, hs]; rw [retQ_some]; simp only [oneOr]
  exact ⟨hK23, by rw [tchk_lim hf ((tlim_iff l).2 (.inr (.inl ⟨j, hjl, by unfold dep; omega⟩)))]⟩
 ·simp only [go_sem, seval, hs, g2, hj1]
  refine hN _ _ ⟨hK23, hL4, j + 1, by omega, ?_, fun k g3 g4 => ?_⟩ ?_
  ·simp only [go_sem, seval, Int.natCast_add, Int.natCast_succ, hs]
  ·by_cases hkj : k = j
   ·subst hkj; exact ⟨hc3.1 rfl, by unfold dep; omega⟩
   ·exact hr k g3 (by omega)
  ·simp only [go_sem, seval, hs]
   simp [RowKit.intOf]
   omega
end Go.Proofs.YtegaklgjcicnfaaGreat
