/- Styles: what their cells are, and when one is formed and within the limits. -/
import Derived.Test.YtbgnaeagdneikaaS7
namespace Go.Proofs.Ytbgnaeagdneikaa
open Go Go.Proofs.Ytbgnaeagdneikaa.Abs
set_option linter.unusedSimpArgs false
set_option linter.unusedVariables false

structure Sty where
  shown : Bool
  pos : Int
  lens : List (Int × Int)
  border : List Int
  rtl : Bool
  hasZ : Bool
  z : Int
  clip : Bool
  back : Int
  line : Int

def lenCells (ls : List (Int × Int)) : List Value := ls.flatMap fun p => [.int .i64 p.1, .int .i64 p.2]
def Sty.cells (s : Sty) : List Value :=
  [.bool s.shown, .int .i64 s.pos] ++ lenCells s.lens ++ s.border.map (Value.int .i64) ++ [.bool s.rtl, .bool s.hasZ, .int .i64 s.z, .bool s.clip, .int .i64 s.back, .int .i64 s.line]
structure Sty.Ok (s : Sty) : Prop where
  lens : s.lens.length = 18
  border : s.border.length = 4
  rl : ∀ p ∈ s.lens, InI64 p.1 ∧ InI64 p.2
  rb : ∀ n ∈ s.border, InI64 n
  rp : InI64 s.pos
  rz : InI64 s.z
  rk : InI64 s.back
  rn : InI64 s.line

def styleSh : List Cel := [.bool, .int .i64] ++ List.replicate 36 (.int .i64) ++ List.replicate 4 (.int .i64) ++ [.bool, .bool, .int .i64, .bool, .int .i64, .int .i64]

theorem flat_cons {c : Cel} {sh : List Cel} {cs : List Value} (h : FlatOk (c :: sh) cs) : ∃ v r, cs = v :: r ∧ CelOk c v ∧ FlatOk sh r := by
  cases cs with
  | nil => exact h.elim
  | cons v r => exact ⟨v, r, rfl, h.1, h.2⟩
theorem flat_nil {cs : List Value} (h : FlatOk [] cs) : cs = [] := by
  cases cs with
  | nil => rfl
  | cons v r => exact h.elim
theorem flat_split : ∀ {sh sh' : List Cel} {cs : List Value}, FlatOk (sh ++ sh') cs → ∃ a b, cs = a ++ b ∧ FlatOk sh a ∧ FlatOk sh' b
  | [], sh', cs, h => ⟨[], cs, rfl, trivial, h⟩
  | c :: sh, sh', v :: cs, ⟨h1, h2⟩ => by
    obtain ⟨a, b, rfl, ha, hb⟩ := flat_split h2
    exact ⟨v :: a, b, rfl, ⟨h1, ha⟩, hb⟩
theorem flat_ints : ∀ {n : Nat} {cs : List Value}, FlatOk (List.replicate n (.int .i64)) cs → ∃ xs : List Int, xs.length = n ∧ cs = xs.map (Value.int .i64) ∧ ∀ x ∈ xs, InI64 x
  | 0, [], _ => ⟨[], rfl, rfl, by simp⟩
  | n + 1, v :: cs, h => by
    rw [List.replicate_succ] at h
    obtain ⟨⟨x, rfl, hw⟩, h2⟩ := h
    obtain ⟨xs, h3, rfl, h4⟩ := flat_ints h2
    refine ⟨x :: xs, by simp [h3], rfl, fun y hy => ?_⟩
    rcases List.mem_cons.1 hy with rfl | hy
    · exact wf64 hw
    · exact h4 y hy
theorem pairs : ∀ (n : Nat) (xs : List Int), xs.length = 2 * n → (∀ x ∈ xs, InI64 x) → ∃ ls : List (Int × Int), ls.length = n ∧ xs.map (Value.int .i64) = lenCells ls ∧ ∀ p ∈ ls, InI64 p.1 ∧ InI64 p.2
  | 0, [], _, _ => ⟨[], rfl, rfl, by simp⟩
  | n + 1, a :: b :: xs, h, hx => by
    obtain ⟨ls, h1, h2, h3⟩ := pairs n xs (by simp at h; omega) fun x hm => hx x (by simp [hm])
    refine ⟨(a, b) :: ls, by simp [h1], by simp [lenCells] at h2 ⊢; exact h2, fun p hp => ?_⟩
    rcases List.mem_cons.1 hp with rfl | hp
    · exact ⟨hx _ (by simp), hx _ (by simp)⟩
    · exact h3 p hp
  | n + 1, [a], h, _ => by simp at h; omega

theorem sty_of {cs : List Value} (h : FlatOk styleSh cs) : ∃ s : Sty, s.Ok ∧ cs = s.cells := by
  obtain ⟨a, b, rfl, h1, h2⟩ := flat_split h
  obtain ⟨a1, a2, rfl, h3, h4⟩ := flat_split h1
  obtain ⟨a3, a4, rfl, h5, h6⟩ := flat_split h3
  obtain ⟨xs, hx1, rfl, hx2⟩ := flat_ints h6
  obtain ⟨ys, hy1, rfl, hy2⟩ := flat_ints h4
  obtain ⟨ls, hl1, hl2, hl3⟩ := pairs 18 xs (by omega) hx2
  obtain ⟨u, a5, rfl, ⟨shown, rfl⟩, h5a⟩ := flat_cons h5
  obtain ⟨v, a6, rfl, ⟨pos, rfl, w2⟩, h5b⟩ := flat_cons h5a
  obtain rfl := flat_nil h5b
  obtain ⟨c1, b1, rfl, ⟨rtl, rfl⟩, h2a⟩ := flat_cons h2
  obtain ⟨c2, b2, rfl, ⟨hasZ, rfl⟩, h2b⟩ := flat_cons h2a
  obtain ⟨c3, b3, rfl, ⟨z, rfl, w3⟩, h2c⟩ := flat_cons h2b
  obtain ⟨c4, b4, rfl, ⟨clip, rfl⟩, h2d⟩ := flat_cons h2c
  obtain ⟨c5, b5, rfl, ⟨back, rfl, w5⟩, h2e⟩ := flat_cons h2d
  obtain ⟨c6, b6, rfl, ⟨line, rfl, w6⟩, h2f⟩ := flat_cons h2e
  obtain rfl := flat_nil h2f
  exact ⟨⟨shown, pos, ls, ys, rtl, hasZ, z, clip, back, line⟩, ⟨hl1, hy1, hl3, hy2, wf64 w2, wf64 w3, wf64 w5, wf64 w6⟩, by rw [hl2]; rfl⟩

theorem lenCells_length (ls : List (Int × Int)) : (lenCells ls).length = ls.length * 2 := by
  induction ls with
  | nil => rfl
  | cons p ps ih => simp [lenCells] at ih ⊢; omega
theorem lenCells_at (ps : List (Int × Int)) (k : Nat) (h : k < ps.length) : ((lenCells ps).drop (k * 2)).take 2 = [.int .i64 ps[k].1, .int .i64 ps[k].2] := by
  induction ps generalizing k with
  | nil => simp at h
  | cons p ps ih =>
    cases k with
    | zero => simp [lenCells]
    | succ k =>
      have := ih k (by simpa using h)
      rw [Nat.succ_mul]
      simpa [lenCells] using this

theorem Sty.Ok.len {s : Sty} (h : s.Ok) : s.cells.length = 48 := by
  simp [Sty.cells, lenCells_length, h.lens, h.border]

/-- A style in memory. -/
def StyAt (S : St) (b : Nat) (s : Sty) : Prop := cellsOf S b 0 48 = some s.cells

theorem StyAt.of_blk {S : St} {b : Nat} {s : Sty} {ro : Bool} (h : S.blk b = some ⟨ro, s.cells⟩) (hs : s.Ok) : StyAt S b s := by
  unfold StyAt
  rw [cellsOf_of_blk h, if_pos (by rw [hs.len]; omega), List.drop_zero, List.take_of_length_le (by rw [hs.len]; omega)]

theorem StyAt.rd {S : St} {b : Nat} {s : Sty} (h : StyAt S b s) (hs : s.Ok) (j : Nat) (hj : j < 48) : rd S b j = s.cells[j]? := by
  have := rd_of_cells h hj
  rwa [Nat.zero_add] at this

theorem Sty.head {s : Sty} : s.cells[0]? = some (.bool s.shown) ∧ s.cells[1]? = some (.int .i64 s.pos) := by simp [Sty.cells]
theorem Sty.tail {s : Sty} (hs : s.Ok) : s.cells.drop 42 = [.bool s.rtl, .bool s.hasZ, .int .i64 s.z, .bool s.clip, .int .i64 s.back, .int .i64 s.line] := by
  unfold Sty.cells
  rw [List.drop_left' (by simp [lenCells_length, hs.lens, hs.border])]
theorem Sty.mid {s : Sty} (hs : s.Ok) : (s.cells.drop 38).take 4 = s.border.map (Value.int .i64) := by
  unfold Sty.cells
  rw [List.append_assoc, List.append_assoc, ← List.append_assoc [Value.bool s.shown, Value.int .i64 s.pos], List.drop_left' (by simp [lenCells_length, hs.lens]), List.take_left' (by simp [hs.border])]
theorem Sty.lensAt {s : Sty} (hs : s.Ok) : (s.cells.drop 2).take 36 = lenCells s.lens := by
  unfold Sty.cells
  rw [List.append_assoc, List.append_assoc, List.drop_left' (by simp), List.take_left' (by simp [lenCells_length, hs.lens])]

structure StyRd (S : St) (b : Nat) (s : Sty) : Prop where
  shown : rd S b 0 = some (.bool s.shown)
  pos : rd S b 1 = some (.int .i64 s.pos)
  rtl : rd S b 42 = some (.bool s.rtl)
  hasZ : rd S b 43 = some (.bool s.hasZ)
  z : rd S b 44 = some (.int .i64 s.z)
  clip : rd S b 45 = some (.bool s.clip)
  back : rd S b 46 = some (.int .i64 s.back)
  line : rd S b 47 = some (.int .i64 s.line)
  border : ∀ k (h : k < s.border.length), rd S b (38 + k) = some (.int .i64 s.border[k])
  kind : ∀ k (h : k < s.lens.length), rd S b (2 + k * 2) = some (.int .i64 s.lens[k].1)
  num : ∀ k (h : k < s.lens.length), rd S b (2 + k * 2 + 1) = some (.int .i64 s.lens[k].2)
  len : ∀ k (h : k < s.lens.length), cellsOf S b (2 + k * 2) 2 = some [.int .i64 s.lens[k].1, .int .i64 s.lens[k].2]
  span : ∀ k n, k + n ≤ 18 → cellsOf S b (2 + k * 2) (n * 2) = some (lenCells ((s.lens.drop k).take n))
  borders : cellsOf S b 38 4 = some (s.border.map (Value.int .i64))

theorem lenCells_append (a b : List (Int × Int)) : lenCells (a ++ b) = lenCells a ++ lenCells b := by simp [lenCells]
theorem lenCells_span (ps : List (Int × Int)) (k n : Nat) : ((lenCells ps).drop (k * 2)).take (n * 2) = lenCells ((ps.drop k).take n) := by
  have hd : (lenCells ps).drop (k * 2) = lenCells (ps.drop k) := by
    induction ps generalizing k with
    | nil => simp [lenCells]
    | cons p ps ih =>
      cases k with
      | zero => rfl
      | succ k => rw [Nat.succ_mul]; simpa [lenCells] using ih k
  rw [hd]
  generalize ps.drop k = qs
  induction qs generalizing n with
  | nil => simp [lenCells]
  | cons p ps ih =>
    cases n with
    | zero => simp [lenCells]
    | succ n => rw [Nat.succ_mul]; simpa [lenCells] using ih n

theorem StyAt.all {S : St} {b : Nat} {s : Sty} (h : StyAt S b s) (hs : s.Ok) : StyRd S b s := by
  have hr := h.rd hs
  have ht : ∀ j, j < 6 → Go.Proofs.Ytbgnaeagdneikaa.Abs.rd S b (42 + j) = ([.bool s.rtl, .bool s.hasZ, .int .i64 s.z, .bool s.clip, .int .i64 s.back, .int .i64 s.line] : List Value)[j]? := fun j hj => by
    rw [hr _ (by omega), ← Sty.tail hs, List.getElem?_drop]
  have hl : ∀ k, k < s.lens.length → cellsOf S b (2 + k * 2) 2 = some ((lenCells s.lens).drop (k * 2) |>.take 2) := fun k hk => by
    have := hs.lens
    have h1 := cellsOf_of_cells h (j := 2 + k * 2) (n := 2) (by omega)
    rw [Nat.zero_add] at h1
    rw [h1, ← Sty.lensAt hs, List.drop_take, List.take_take, List.drop_drop, Nat.min_eq_left (by omega)]
  have hl' : ∀ k (hk : k < s.lens.length), cellsOf S b (2 + k * 2) 2 = some [.int .i64 s.lens[k].1, .int .i64 s.lens[k].2] := fun k hk => by
    rw [hl k hk, lenCells_at s.lens k hk]
  refine ⟨by rw [hr 0 (by omega), Sty.head.1], by rw [hr 1 (by omega), Sty.head.2], by simpa using ht 0 (by omega), by simpa using ht 1 (by omega), by simpa using ht 2 (by omega), by simpa using ht 3 (by omega), by simpa using ht 4 (by omega), by simpa using ht 5 (by omega), fun k hk => ?_, fun k hk => ?_, fun k hk => ?_, hl', fun k n hkn => ?_, ?_⟩
  · have hb := hs.border
    have h4 : ((s.cells.drop 38).take 4)[k]? = (s.border.map (Value.int .i64))[k]? := by rw [Sty.mid hs]
    rw [List.getElem?_take, if_pos (by omega), List.getElem?_drop] at h4
    rw [hr _ (by omega), h4]
    simp [hk]
  · simpa using rd_of_cells (hl' k hk) (j := 0) (by omega)
  · simpa using rd_of_cells (hl' k hk) (j := 1) (by omega)
  · have h1 := cellsOf_of_cells h (j := 2 + k * 2) (n := n * 2) (by omega)
    rw [Nat.zero_add] at h1
    rw [h1, ← lenCells_span, ← Sty.lensAt hs, List.drop_take, List.take_take, List.drop_drop, Nat.min_eq_left (by omega)]
  · have h1 := cellsOf_of_cells h (j := 38) (n := 4) (by omega)
    rw [Nat.zero_add, Sty.mid hs] at h1
    exact h1

theorem StyAt.keeps {S S' : St} {b : Nat} {s : Sty} (h : StyAt S b s) (hk : S'.blk b = S.blk b) : StyAt S' b s := by
  unfold StyAt
  rw [cellsOf_congr hk]
  exact h

/-- Is a length as it may be, at its place? -/
def LenOk (j : Nat) (p : Int × Int) : Prop := (p.1 = 0 ∧ p.2 = 0 ∨ p.1 = 1 ∨ p.1 = 2) ∧ (p.2 < 0 → ¬ (4 ≤ j ∧ j < 10 ∨ 14 ≤ j)) ∧ (14 ≤ j → p.1 ≠ 0)
def SFormed (s : Sty) : Prop :=
  (∀ j (h : j < s.lens.length), LenOk j s.lens[j]) ∧ (∀ k (h : k < s.border.length), 0 ≤ s.border[k]) ∧ (0 ≤ s.pos ∧ s.pos ≤ 3 ∧ 0 ≤ s.back ∧ 0 ≤ s.line ∧ (s.hasZ = true ∨ s.z = 0))
def LenIn (p : Int × Int) : Prop := (p.1 = 1 → -1099511627776 ≤ p.2 ∧ p.2 ≤ 1099511627776) ∧ (p.1 = 2 → -1000000 ≤ p.2 ∧ p.2 ≤ 1000000)
def SWithin (s : Sty) : Prop :=
  (∀ j (h : j < s.lens.length), LenIn s.lens[j]) ∧ (∀ k (h : k < s.border.length), s.border[k] ≤ 1099511627776) ∧ (-1073741824 ≤ s.z ∧ s.z ≤ 1073741824 ∧ s.back ≤ 16777216 ∧ s.line ≤ 16777216)

end Go.Proofs.Ytbgnaeagdneikaa
