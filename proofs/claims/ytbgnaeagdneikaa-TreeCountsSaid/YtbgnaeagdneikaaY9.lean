/- How a style is taken. -/
import Derived.Test.YtbgnaeagdneikaaY8
namespace Go.Proofs.Ytbgnaeagdneikaa
open Go Go.Proofs.Ytbgnaeagdneikaa.Abs
set_option linter.unusedSimpArgs false
set_option linter.unusedVariables false

theorem lenCells_set (ls : List (Int × Int)) (j : Nat) (h : j < ls.length) (a b : Int) : lenCells (ls.set j (a, b)) = ((lenCells ls).set (j * 2) (.int .i64 a)).set (j * 2 + 1) (.int .i64 b) := by
  induction ls generalizing j with
  | nil => simp at h
  | cons p ps ih =>
    cases j with
    | zero => simp [lenCells]
    | succ j =>
      have := ih j (by simpa using h)
      rw [Nat.succ_mul]
      simpa [lenCells] using this

theorem cells_eq (s : Sty) : s.cells = (.bool s.shown :: .int .i64 s.pos :: (lenCells s.lens ++ (s.border.map (Value.int .i64) ++ [.bool s.rtl, .bool s.hasZ, .int .i64 s.z, .bool s.clip, .int .i64 s.back, .int .i64 s.line]))) := by
  simp [Sty.cells]

theorem cells_set_len (s : Sty) (j : Nat) (h : j < s.lens.length) (a b : Int) : (s.cells.set (2 + j * 2) (.int .i64 a)).set (2 + j * 2 + 1) (.int .i64 b) = { s with lens := s.lens.set j (a, b) }.cells := by
  rw [cells_eq, cells_eq, show 2 + j * 2 = (j * 2) + 1 + 1 by omega, List.set_cons_succ, List.set_cons_succ, List.set_cons_succ, List.set_cons_succ]
  have hl := lenCells_length s.lens
  simp only
  rw [List.set_append, if_pos (by omega), List.set_append, if_pos (by simp; omega), lenCells_set _ _ h]
theorem cells_set_kind (s : Sty) (j : Nat) (h : j < s.lens.length) (a : Int) : s.cells.set (2 + j * 2) (.int .i64 a) = { s with lens := s.lens.set j (a, (s.lens[j]).2) }.cells := by
  rw [← cells_set_len s j h]
  have hl := lenCells_length s.lens
  have e : s.cells[2 + j * 2 + 1]? = some (.int .i64 (s.lens[j]).2) := by
    rw [cells_eq, show 2 + j * 2 + 1 = (j * 2 + 1) + 1 + 1 by omega, List.getElem?_cons_succ, List.getElem?_cons_succ, List.getElem?_append_left (by omega)]
    have := congrArg (fun l => l[1]?) (lenCells_at s.lens j h)
    simpa [List.getElem?_take, List.getElem?_drop] using this
  apply List.ext_getElem?
  intro k
  rw [List.getElem?_set (i := 2 + j * 2 + 1)]
  split
  · rename_i hk
    subst hk
    rw [List.getElem?_set, if_neg (by omega), e, if_pos]
    have := (List.getElem?_eq_some_iff.1 e).1
    simpa using this
  · rfl
theorem cells_set_border (s : Sty) (hl : s.lens.length = 18) (k : Nat) (h : k < s.border.length) (v : Int) : s.cells.set (38 + k) (.int .i64 v) = { s with border := s.border.set k v }.cells := by
  have hl2 := lenCells_length s.lens
  rw [cells_eq, cells_eq, show 38 + k = (36 + k) + 1 + 1 by omega, List.set_cons_succ, List.set_cons_succ, List.set_append, if_neg (by omega), List.set_append, if_pos (by simp; omega)]
  rw [show 36 + k - (lenCells s.lens).length = k by omega, List.map_set]
theorem cells_set_tail (s : Sty) (hl : s.lens.length = 18) (hb : s.border.length = 4) (k : Nat) (v : Value) : s.cells.set (42 + k) v = (.bool s.shown :: .int .i64 s.pos :: (lenCells s.lens ++ (s.border.map (Value.int .i64) ++ ([.bool s.rtl, .bool s.hasZ, .int .i64 s.z, .bool s.clip, .int .i64 s.back, .int .i64 s.line].set k v)))) := by
  have hl2 := lenCells_length s.lens
  rw [cells_eq, show 42 + k = (40 + k) + 1 + 1 by omega, List.set_cons_succ, List.set_cons_succ, List.set_append, if_neg (by omega), List.set_append, if_neg (by simp; omega)]
  congr 5
  simp
  omega
theorem cells_set_z (s : Sty) (hl : s.lens.length = 18) (hb : s.border.length = 4) (v : Int) : s.cells.set 44 (.int .i64 v) = { s with z := v }.cells := by
  rw [cells_set_tail s hl hb 2, cells_eq]; rfl
theorem cells_set_back (s : Sty) (hl : s.lens.length = 18) (hb : s.border.length = 4) (v : Int) : s.cells.set 46 (.int .i64 v) = { s with back := v }.cells := by
  rw [cells_set_tail s hl hb 4, cells_eq]; rfl
theorem cells_set_line (s : Sty) (hl : s.lens.length = 18) (hb : s.border.length = 4) (v : Int) : s.cells.set 47 (.int .i64 v) = { s with line := v }.cells := by
  rw [cells_set_tail s hl hb 5, cells_eq]; rfl

def bitAnd (n m : Int) : Int := IntKind.i64.wrap ((BitVec.ofInt 64 n &&& BitVec.ofInt 64 m).toNat : Int)
theorem and_facts (n : Int) (h : InU8 n) : (bitAnd n 1 != 0) = (n % 2 == 1) ∧ (bitAnd n 8 != 0) = (n / 8 % 2 == 1) ∧ (bitAnd n 16 != 0) = hasZOf n ∧ (bitAnd n 32 != 0) = (n / 32 % 2 == 1) := by
  have key : ∀ m : Fin 256, (bitAnd (m.1 : Int) 1 != 0) = ((m.1 : Int) % 2 == 1) ∧ (bitAnd (m.1 : Int) 8 != 0) = ((m.1 : Int) / 8 % 2 == 1) ∧ (bitAnd (m.1 : Int) 16 != 0) = hasZOf (m.1 : Int) ∧ (bitAnd (m.1 : Int) 32 != 0) = ((m.1 : Int) / 32 % 2 == 1) := by decide +kernel
  have := key ⟨n.toNat, by unfold InU8 at h; omega⟩
  rw [show ((n.toNat : Nat) : Int) = n by unfold InU8 at h; omega] at this
  exact this
end Go.Proofs.Ytbgnaeagdneikaa
