/- The arguments of a law, in the abstract memory. -/
import Derived.Test.YtbgnaeagdneikaaCoreAj
import Derived.OpenShut
import Derived.ChangeSame
import Derived.ChangeAt
import Derived.ChangeOld
import Derived.Below
namespace Go.Proofs.Ytbgnaeagdneikaa.Abs
open Go Go.RowKit Go.WideShapes Go.ChangeShapes
set_option linter.unusedVariables false
set_option linter.unusedSimpArgs false

/-- What a cell of plain data is. -/
inductive Cel where
  | int (k : IntKind)
  | bool

def CelOk : Cel → Value → Prop
  | .int k, v => ∃ n, v = .int k n ∧ (Lit.int k n).wf = true
  | .bool, v => ∃ b, v = .bool b

def FlatOk : List Cel → List Value → Prop
  | [], [] => True
  | c :: sh, v :: cs => CelOk c v ∧ FlatOk sh cs
  | _, _ => False

theorem FlatOk.append : ∀ {sh sh' : List Cel} {cs cs' : List Value}, FlatOk sh cs → FlatOk sh' cs' → FlatOk (sh ++ sh') (cs ++ cs')
  | [], sh', [], cs', _, h' => h'
  | c :: sh, sh', v :: cs, cs', ⟨h1, h2⟩, h' => ⟨h1, FlatOk.append h2 h'⟩

theorem FlatOk.length : ∀ {sh : List Cel} {cs : List Value}, FlatOk sh cs → cs.length = sh.length
  | [], [], _ => rfl
  | c :: sh, v :: cs, ⟨_, h⟩ => by simp [FlatOk.length h]

theorem CelOk.rel {c : Cel} {v : Value} (h : CelOk c v) (m : LMap) : VRel m v v ∧ v.oneCell' = true := by
  cases c with
  | int k => obtain ⟨n, rfl, _⟩ := h; exact ⟨.int k n, rfl⟩
  | bool => obtain ⟨b, rfl⟩ := h; exact ⟨.bool b, rfl⟩

theorem FlatOk.mem : ∀ {sh : List Cel} {cs : List Value}, FlatOk sh cs → ∀ (i : Nat) v, cs[i]? = some v → ∃ c, CelOk c v
  | [], [], _, i, v, hv => by simp at hv
  | c :: sh, u :: cs, ⟨h1, h2⟩, 0, v, hv => by simp at hv; exact ⟨c, hv ▸ h1⟩
  | c :: sh, u :: cs, ⟨h1, h2⟩, i + 1, v, hv => FlatOk.mem h2 i v (by simpa using hv)

def fieldsShape (P : Program) (f : TypeId → Option (List Cel)) : List Field → Nat → Option (List Cel)
  | [], _ => some []
  | x :: xs, off => if x.offset = off then
      match f x.type with
      | some s => if s.length = P.cellsOf x.type then (fieldsShape P f xs (off + s.length)).map (s ++ ·) else none
      | none => none
    else none

def shapeOf (P : Program) : Nat → TypeId → Option (List Cel)
  | 0, _ => none
  | n + 1, t => match P.underlying t with
    | some (.int k) => some [.int k]
    | some .bool => some [.bool]
    | some (.struct fs) => match fieldsShape P (shapeOf P n) fs.toList 0 with
      | some s => if s.length = P.cellsOf t then some s else none
      | none => none
    | some (.array k e) => match shapeOf P n e with
      | some s => if s.length = P.cellsOf e ∧ k * s.length = P.cellsOf t then some (List.replicate k s).flatten else none
      | none => none
    | _ => none

section
variable {H : Type} {enc : TypeId × Value → H} {P : Program} {w : World} {base : Nat} {spare : Nat → Bool} {held : Bool}

theorem fields_flat {m : Nat} {cs : List Value} {f : TypeId → Option (List Cel)}
    (ih : ∀ t cs' sh x, f t = some sh → DataW.trod enc P w base spare held m t cs' = some x → FlatOk sh cs') :
    ∀ (l : List Field) (off : Nat) (sh : List Cel), fieldsShape P f l off = some sh → (∀ x ∈ l, ∃ y, DataW.trod enc P w base spare held m x.type ((cs.drop x.offset).take (P.cellsOf x.type)) = some y) →
      FlatOk sh ((cs.drop off).take sh.length) := by
  intro l
  induction l with
  | nil =>
    intro off sh h _
    simp [fieldsShape] at h
    subst h
    simp [FlatOk]
  | cons x l ihl =>
    intro off sh h hx
    simp only [fieldsShape] at h
    split at h
    case isFalse => cases h
    rename_i ho
    split at h
    case h_2 => cases h
    rename_i s hs
    split at h
    case isFalse => cases h
    rename_i hl
    obtain ⟨sh', hsh', rfl⟩ := Option.map_eq_some_iff.1 h
    obtain ⟨y, hy⟩ := hx x (by simp)
    have h1 := ih _ _ _ _ hs hy
    have h2 := ihl _ _ hsh' (fun z hz => hx z (by simp [hz]))
    rw [ho, ← hl] at h1
    rw [List.length_append, List.take_add, List.drop_drop]
    exact h1.append h2

theorem flat_of_trod : ∀ (n : Nat) (t : TypeId) (cs : List Value) (sh : List Cel) (fuel : Nat) (x : DataW H × List MemPlace), shapeOf P n t = some sh → DataW.trod enc P w base spare held fuel t cs = some x → FlatOk sh cs := by
  intro n
  induction n with
  | zero => intro t cs sh fuel x h; simp [shapeOf] at h
  | succ n ih =>
    intro t cs sh fuel x h hd
    simp only [shapeOf] at h
    split at h
    · rename_i k hk
      cases h
      obtain ⟨z, rfl, _, hw⟩ := DataW.trod_int hk hd
      exact ⟨⟨z, rfl, hw⟩, trivial⟩
    · rename_i hk
      cases h
      obtain ⟨b, rfl, _⟩ := DataW.trod_bool hk hd
      exact ⟨⟨b, rfl⟩, trivial⟩
    · rename_i fs hk
      split at h
      case h_2 => cases h
      rename_i s hs
      split at h
      case isFalse => cases h
      rename_i hl
      cases h
      obtain ⟨xs, m, _, _, hcl, hxl, hf⟩ := DataW.trod_struct hk hd
      have := fields_flat (enc := enc) (w := w) (base := base) (spare := spare) (held := held) (m := m) (cs := cs) (fun t cs' sh x h hx => ih t cs' sh m x h hx) fs.toList 0 _ hs (fun z hz => by
        obtain ⟨i, hi⟩ := List.getElem?_of_mem hz
        have hi' : fs[i]? = some z := by simpa using hi
        rw [hf i z hi']
        have : i < xs.length := by rw [hxl]; exact (Array.getElem?_eq_some_iff.1 hi').1
        exact ⟨_, List.getElem?_eq_getElem this⟩)
      rw [List.drop_zero, List.take_of_length_le (by omega)] at this
      exact this
    · rename_i k e hk
      split at h
      case h_2 => cases h
      rename_i s hs
      split at h
      case isFalse => cases h
      rename_i hl
      cases h
      obtain ⟨xs, m, _, _, hcl, hxl, hf⟩ := DataW.trod_array hk hd
      have key : ∀ j, j ≤ k → FlatOk (List.replicate j s).flatten (cs.take (j * s.length)) := by
        intro j
        induction j with
        | zero => intro _; simp [FlatOk]
        | succ j ihj =>
          intro hj
          have h1 := ihj (by omega)
          have h2 : FlatOk s ((cs.drop (j * s.length)).take s.length) := by
            have := hf j (by omega)
            rw [List.getElem?_eq_getElem (by omega)] at this
            rw [hl.1]
            exact ih _ _ _ _ _ hs this
          rw [List.replicate_succ', List.flatten_append, Nat.succ_mul, List.take_add]
          exact h1.append (by simpa using h2)
      have := key k (Nat.le_refl _)
      rwa [List.take_of_length_le (by omega)] at this
    · cases h

end

theorem Rel.init (W : World) : Rel W (fun _ => none) ⟨fun _ => none, 0⟩ W :=
  ⟨Below.refl _ _, fun id r h => by simp at h, fun id b h => by simp at h, fun i j b c r s h => by simp at h⟩

/-- A block of the caller's comes into sight. -/
theorem Rel.see {w0 : World} {m : LMap} {S : St} {w : World} (h : Rel w0 m S w) {cs : List Value} {r : Loc} (hb : BlkAt w0.heap.size (m.ext S.next r) w ⟨true, cs⟩ r) : Rel w0 (m.ext S.next r) (S.new ⟨true, cs⟩) w := by
  have hle := LMap.le_ext h.fresh r
  refine ⟨h.below, fun id s hs => ?_, fun id b hb' => ?_, fun i j b c s u hi hj hbr hcr hmi hmj => ?_⟩
  · unfold LMap.ext at hs
    split at hs
    · rename_i e; simp [St.next_new, e]
    · have := h.dom _ _ hs; simp [St.next_new]; omega
  · rw [St.blk_new] at hb'
    split at hb'
    · rename_i e
      cases hb'
      exact ⟨r, by simp [LMap.ext, e], hb⟩
    · obtain ⟨s, hs, hk⟩ := h.blk _ _ hb'
      exact ⟨s, hle _ _ hs, hk.mono hle⟩
  · rw [St.blk_new] at hi hj
    split at hi
    · cases hi; cases hbr
    · split at hj
      · cases hj; cases hcr
      · rename_i e1 e2
        simp only [LMap.ext, if_neg e1] at hmi
        simp only [LMap.ext, if_neg e2] at hmj
        exact h.inj i j b c s u hi hj hbr hcr hmi hmj

/-- The rows of a slice of plain elements. -/
def RowsOk (sh : List Cel) (n : Nat) (cs : List Value) : Prop := cs.length = n * sh.length ∧ ∀ i, i < n → FlatOk sh ((cs.drop (i * sh.length)).take sh.length)

section
variable {H : Type} {enc : TypeId × Value → H} {P : Program}

theorem Rel.arg_slice {w0 : World} {m : LMap} {S : St} (hR : Rel w0 m S w0) {t e : TypeId} {v : Value} {d : DataW H} {ps : List MemPlace} {base : Nat} {held : Bool} {n : Nat} {sh : List Cel}
    (ht : P.underlying t = some (.slice e)) (hval : Value.okWide P w0 .any base t v) (hd : DataW.Trod enc P w0 0 (fun _ => true) held t v d ps) (hsh : shapeOf P n e = some sh) (hsz : P.cellsOf e = sh.length) (h0 : 0 < sh.length) :
    ∃ m' S' x len cs, m.le m' ∧ Rel w0 m' S' w0 ∧ KeepsAll S S' ∧ VRel m' x v ∧ Sl S' sh.length x len cs ∧ RowsOk sh len cs ∧ len ≤ maxLen := by
  obtain ⟨a, len, cap, rfl⟩ := okWide_slice ht hval
  obtain ⟨fuel, hf⟩ := hd
  rcases DataW.trod_slice ht hf with ⟨hcs, _⟩ | ⟨a', len', cap', elems, rest, k, _, hcs, _, hb, hl, hm, hel, hlow, hsp, _⟩
  · simp [Value.cells] at hcs
    obtain ⟨rfl, rfl, rfl⟩ := hcs
    exact ⟨m, S, .slice none 0 0, 0, [], LMap.le_refl m, hR, Keeps.refl _ _, .snil, .inl ⟨rfl, rfl, rfl⟩, ⟨by simp, fun i hi => by omega⟩, Nat.zero_le _⟩
  · simp [Value.cells] at hcs
    obtain ⟨rfl, rfl, rfl⟩ := hcs
    simp only [Value.okWide, ht, Cell.okWide, Cell.ok, World.has] at hval
    obtain ⟨_, _, _, hspot, row, cells, hshape, _⟩ := hval
    obtain ⟨b, off, spot⟩ := a'
    simp only at hspot hshape hb
    subst hspot
    unfold World.shape? at hshape
    split at hshape
    case h_2 => cases hshape
    rename_i c e' fr hc
    have hblt : b < w0.heap.size := (Array.getElem?_eq_some_iff.1 hc).1
    by_cases hcap : cap = 0
    · subst hcap
      obtain rfl : len = 0 := by omega
      refine ⟨m.ext S.next ⟨b, 0, c.size⟩, S.new ⟨true, []⟩, .slice (some ⟨S.next, 0, none⟩) 0 0, 0, [], LMap.le_ext hR.fresh _, hR.see ⟨by simp, c, e', fr, hc, rfl, by simp, by simp, fun _ => hblt, by simp⟩, Keeps.of_new _ _ _,
        .sempty (r := ⟨b, 0, c.size⟩) (by simp [LMap.ext]) 0 _, .inr ⟨S.next, 0, 0, rfl, .inl rfl, by simp [cellsOf, St.blk_new]⟩, ⟨by simp, fun i hi => by omega⟩, Nat.zero_le _⟩
    · have hcell : ∀ i, i < cap → ∃ cs', w0.cells? 0 (Addr.add ⟨b, off, none⟩ (i * sh.length)) sh.length = some cs' ∧ FlatOk sh cs' := by
        intro i hi
        rw [hsz] at hlow hsp
        by_cases hil : i < len
        · have := hlow i hil
          rw [List.getElem?_eq_getElem (by omega)] at this
          obtain ⟨cs', h1, h2⟩ := Option.bind_eq_some_iff.1 this
          exact ⟨cs', h1, flat_of_trod n e cs' sh _ _ hsh h2⟩
        · obtain ⟨h1, h2⟩ := hsp rfl
          have := h2 (i - len) (by omega)
          rw [show len + (i - len) = i by omega, List.getElem?_eq_getElem (by omega)] at this
          obtain ⟨cs', h1, h2⟩ := Option.bind_eq_some_iff.1 this
          exact ⟨cs', h1, flat_of_trod n e cs' sh _ _ hsh h2⟩
      have hget : ∀ i, i < cap → ∀ j, j < sh.length → ∃ v, c[off + (i * sh.length + j)]? = some v := by
        intro i hi j hj
        obtain ⟨cs', h1, h2⟩ := hcell i hi
        obtain ⟨_, h3, h4⟩ := World.cells?_some h1
        have := h4 j hj
        rw [List.getElem?_eq_getElem (by omega)] at this
        have hw : w0.cell? ⟨b, off + (i * sh.length + j), none⟩ = some cs'[j] := by
          rw [← this]
          congr 1
          unfold Addr.add
          by_cases hz : i * sh.length = 0 <;> by_cases hj0 : j = 0 <;> simp [hz, hj0, Nat.add_assoc]
        unfold World.cell? at hw
        simp only [hc] at hw
        exact ⟨_, by simpa using hw⟩
      have hlast := hget (cap - 1) (by omega) (sh.length - 1) (by omega)
      have hsize : off + cap * sh.length ≤ c.size := by
        obtain ⟨v, hv⟩ := hlast
        have := (Array.getElem?_eq_some_iff.1 hv).1
        have e1 : (cap - 1) * sh.length + sh.length = cap * sh.length := by
          rw [← Nat.succ_mul]; congr 1; omega
        omega
      have hlc : len * sh.length ≤ cap * sh.length := Nat.mul_le_mul_right _ hl
      have hrows : RowsOk sh len ((c.toList.drop off).take (len * sh.length)) := by
        refine ⟨by simp; omega, fun i hi => ?_⟩
        obtain ⟨cs', h1, h2⟩ := hcell i (by omega)
        obtain ⟨_, h3, h4⟩ := World.cells?_some h1
        have e1 : ((((c.toList.drop off).take (len * sh.length)).drop (i * sh.length)).take sh.length) = cs' := by
          apply List.ext_getElem?
          intro j
          rw [List.getElem?_take]
          split
          · rename_i hj
            rw [← h4 j hj, List.getElem?_drop, List.getElem?_take]
            have hle : i * sh.length + sh.length ≤ len * sh.length := by rw [← Nat.succ_mul]; exact Nat.mul_le_mul_right _ hi
            rw [if_pos (by omega), List.getElem?_drop]
            have e2 : (Addr.add (Addr.add ⟨b, off, none⟩ (i * sh.length)) j) = ⟨b, off + (i * sh.length + j), none⟩ := by
              unfold Addr.add
              by_cases hz : i * sh.length = 0 <;> by_cases hj0 : j = 0 <;> simp [hz, hj0, Nat.add_assoc]
            rw [e2]
            unfold World.cell?
            simp [hc]
          · rename_i hj
            rw [List.getElem?_eq_none (by omega)]
        rw [e1]
        exact h2
      have hmem : ∀ (i : Nat) (v : Value), ((c.toList.drop off).take (len * sh.length))[i]? = some v → ∃ k, CelOk k v := by
        intro i v hv
        have hi : i < len * sh.length := by
          have := (List.getElem?_eq_some_iff.1 hv).1
          simp at this
          omega
        have hq := Nat.div_add_mod i sh.length
        have hr := Nat.mod_lt i h0
        have hd : i / sh.length < len := Nat.div_lt_of_lt_mul (by rw [Nat.mul_comm]; exact hi)
        refine (hrows.2 _ hd).mem (i % sh.length) v ?_
        rw [List.getElem?_take, if_pos hr, List.getElem?_drop, show i / sh.length * sh.length + i % sh.length = i by rw [Nat.mul_comm]; exact hq]
        exact hv
      refine ⟨m.ext S.next ⟨b, off, c.size⟩, S.new ⟨true, (c.toList.drop off).take (len * sh.length)⟩, .slice (some ⟨S.next, 0, none⟩) len 0, len, (c.toList.drop off).take (len * sh.length), LMap.le_ext hR.fresh _, hR.see ⟨?_, c, e', fr, hc, rfl, ?_, by simp, fun _ => hblt, ?_⟩, Keeps.of_new _ _ _, ?_, .inr ⟨S.next, 0, 0, rfl, .inl rfl, ?_⟩, hrows, Nat.le_trans hl hm⟩
      · intro v hv
        obtain ⟨i, hi⟩ := List.getElem?_of_mem hv
        obtain ⟨k, hk⟩ := hmem i v hi
        exact (hk.rel m).2
      · simp; omega
      · intro i v hv
        obtain ⟨k, hk⟩ := hmem i v hv
        refine ⟨v, ?_, (hk.rel _).1⟩
        rw [List.getElem?_take] at hv
        split at hv
        · rw [List.getElem?_drop] at hv
          simpa using hv
        · cases hv
      · exact .slice (r := ⟨b, off, c.size⟩) (by simp [LMap.ext]) hl (.inl rfl)
      · rw [cellsOf_new, if_pos rfl, if_pos (by rw [hrows.1]; omega), List.drop_zero, List.take_of_length_le (by rw [hrows.1]; omega)]

/-- A struct that is passed whole. -/
theorem arg_agg {w0 : World} {t : TypeId} {v : Value} {d : DataW H} {ps : List MemPlace} {base : Nat} {held : Bool} {n : Nat} {sh : List Cel} {fs : Array Field}
    (ht : P.underlying t = some (.struct fs)) (hval : Value.okWide P w0 .any base t v) (hd : DataW.Trod enc P w0 0 (fun _ => true) held t v d ps) (hsh : shapeOf P n t = some sh) :
    ∃ cs, v = .agg cs.toArray ∧ FlatOk sh cs ∧ ∀ m, VRel m v v := by
  simp only [Value.okWide, ht] at hval
  obtain ⟨cs, rfl, _, _⟩ := hval
  obtain ⟨fuel, hf⟩ := hd
  have h := flat_of_trod n t _ sh _ _ hsh hf
  have hc : (Value.agg cs).cells.toList = cs.toList := rfl
  rw [hc] at h
  refine ⟨cs.toList, rfl, h, fun m => .agg rfl (fun x hx => ?_) (fun i x y hx hy => ?_)⟩
  · obtain ⟨i, hi⟩ := Array.getElem?_of_mem hx
    obtain ⟨k, hk⟩ := h.mem i x (by simpa using hi)
    exact (hk.rel m).2
  · rw [hx] at hy
    cases hy
    obtain ⟨k, hk⟩ := h.mem i x (by simpa using hx)
    exact (hk.rel m).1
end

/-- A law's call, from its abstract one. -/
theorem calls_of {P : Program} {f : FuncId} {args cargs : List Value} {S : St} {w0 : World} {m : LMap} (h : ACalls P f args S fun r _ => r = .bool true) (hR : Rel w0 m S w0) (ha : LRel m args cargs) :
    Calls P f cargs.toArray w0 fun e w' => e = .returned (.bool true) ∧ Below w0.heap.size w0 w' :=
  (h w0 m w0 cargs hR ha).mono fun e w' ⟨m', v, u, S', _, h2, _, _, h4, h5, h6⟩ => by
    subst h6
    cases h4
    exact ⟨h5, h2.below⟩

end Go.Proofs.Ytbgnaeagdneikaa.Abs
