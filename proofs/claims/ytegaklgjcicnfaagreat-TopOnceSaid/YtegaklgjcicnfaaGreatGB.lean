/- Rows of numbers and bools of which only the kinds are told; the small functions of numbers. -/
import Derived.Test.YtegaklgjcicnfaaGreatGA
set_option linter.unusedSimpArgs false
set_option linter.unusedVariables false
namespace Go.Proofs.YtegaklgjcicnfaaGreat
open Go Go.Proofs.YtegaklgjcicnfaaGreat.Abs
/-- Cells that are numbers (true) and bools (false). -/
def Fl : List Bool → List Value → Prop
 | [], [] => True
 | true :: s, .int .i64 _ :: r => Fl s r
 | false :: s, .bool _ :: r => Fl s r
 | _, _ => False
def ig (cs : List Value) (k : Nat) : Int := match cs[k]? with | some (.int _ n) => n | _ => 0
def bg (cs : List Value) (k : Nat) : Bool := match cs[k]? with | some (.bool b) => b | _ => false
theorem Fl.inv {c : Bool} {s : List Bool} {cs : List Value} (h : Fl (c :: s) cs) : ∃ v r, cs = v :: r ∧ Fl s r ∧ ((c = true ∧ ∃ n, v = .int .i64 n) ∨ (c = false ∧ ∃ b, v = .bool b)) := by
 cases c
 ·cases cs with
  | nil => exact h.elim
  | cons v r => cases v <;> first | exact h.elim | exact ⟨_, _, rfl, h, .inr ⟨rfl, _, rfl⟩⟩
 ·cases cs with
  | nil => exact h.elim
  | cons v r =>
   cases v <;> first | exact h.elim | skip
   rename_i k n
   cases k <;> first | exact h.elim | exact ⟨_, _, rfl, h, .inl ⟨rfl, _, rfl⟩⟩
theorem Fl.nil {cs : List Value} (h : Fl [] cs) : cs = [] := by cases cs <;> first | rfl | exact h.elim
theorem Fl.len : ∀ {sg : List Bool} {cs : List Value}, Fl sg cs → cs.length = sg.length
 | [], cs, h => by rw [h.nil]; rfl
 | c :: s, cs, h => by obtain ⟨v, r, rfl, hr, _⟩ := h.inv; simp [hr.len]
theorem Fl.i : ∀ {sg : List Bool} {cs : List Value}, Fl sg cs → ∀ k, sg[k]? = some true → cs[k]? = some (Value.int .i64 (ig cs k))
 | [], cs, h, k, hk => by simp at hk
 | c :: s, cs, h, k, hk => by
  obtain ⟨v, r, rfl, hr, hv⟩ := h.inv
  cases k with
  | zero =>
   simp at hk
   subst hk
   rcases hv with ⟨_, n, rfl⟩ | ⟨h, _⟩
   ·rfl
   ·cases h
  | succ k => have := hr.i k (by simpa using hk); simpa [ig] using this
theorem Fl.b : ∀ {sg : List Bool} {cs : List Value}, Fl sg cs → ∀ k, sg[k]? = some false → cs[k]? = some (Value.bool (bg cs k))
 | [], cs, h, k, hk => by simp at hk
 | c :: s, cs, h, k, hk => by
  obtain ⟨v, r, rfl, hr, hv⟩ := h.inv
  cases k with
  | zero =>
   simp at hk
   subst hk
   rcases hv with ⟨h, _⟩ | ⟨_, b, rfl⟩
   ·cases h
   ·rfl
  | succ k => have := hr.b k (by simpa using hk); simpa [bg] using this
theorem Fl.drop : ∀ {sg : List Bool} {cs : List Value}, Fl sg cs → ∀ n, Fl (sg.drop n) (cs.drop n)
 | sg, cs, h, 0 => h
 | [], cs, h, n + 1 => by rw [h.nil]; simp [Fl]
 | c :: s, cs, h, n + 1 => by obtain ⟨v, r, rfl, hr, _⟩ := h.inv; exact hr.drop n
theorem Fl.cons {c : Bool} {s : List Bool} {v : Value} {r : List Value} (h : Fl [c] [v]) (hr : Fl s r) : Fl (c :: s) (v :: r) := by
 cases c
 ·cases v <;> first | exact h.elim | exact hr
 ·cases v <;> first | exact h.elim | skip
  rename_i k n
  cases k <;> first | exact h.elim | exact hr
theorem Fl.head {c : Bool} {s : List Bool} {v : Value} {r : List Value} (h : Fl (c :: s) (v :: r)) : Fl [c] [v] := by
 cases c
 ·cases v <;> first | exact h.elim | trivial
 ·cases v <;> first | exact h.elim | skip
  rename_i k n
  cases k <;> first | exact h.elim | trivial
theorem Fl.take : ∀ {sg : List Bool} {cs : List Value}, Fl sg cs → ∀ n, Fl (sg.take n) (cs.take n)
 | sg, cs, h, 0 => by simp; trivial
 | [], cs, h, n + 1 => by rw [h.nil]; simp [Fl]
 | c :: s, cs, h, n + 1 => by obtain ⟨v, r, rfl, hr, _⟩ := h.inv; exact (Fl.head h).cons (hr.take n)
theorem Fl.sub {sg : List Bool} {cs : List Value} (h : Fl sg cs) (o n : Nat) : Fl ((sg.drop o).take n) ((cs.drop o).take n) := (h.drop o).take n
theorem Fl.app : ∀ {sg sh : List Bool} {cs ds : List Value}, Fl sg cs → Fl sh ds → Fl (sg ++ sh) (cs ++ ds)
 | [], sh, cs, ds, h, k => by rw [h.nil]; exact k
 | c :: s, sh, cs, ds, h, k => by obtain ⟨v, r, rfl, hr, _⟩ := h.inv; exact (Fl.head h).cons (hr.app k)
theorem Fl.set : ∀ {sg : List Bool} {cs : List Value}, Fl sg cs → ∀ {k c v}, sg[k]? = some c → Fl [c] [v] → Fl sg (cs.set k v)
 | [], cs, h, k, c, v, hk, hv => by simp at hk
 | c :: s, cs, h, k, c', v', hk, hv => by
  obtain ⟨v, r, rfl, hr, _⟩ := h.inv
  cases k with
  | zero => simp at hk; subst hk; exact hv.cons hr
  | succ k => exact (Fl.head h).cons (hr.set (by simpa using hk) hv)
theorem Fl.ow : ∀ {s : List Bool} {vs : List Value}, Fl s vs → ∀ {sg : List Bool} {cs : List Value} {o : Nat}, Fl sg cs → (sg.drop o).take s.length = s → Fl sg (Go.Proofs.YtegaklgjcicnfaaGreat.Abs.ow cs o vs)
 | [], vs, h, sg, cs, o, hc, _ => by rw [h.nil]; exact hc
 | c :: s, vs, h, sg, cs, o, hc, he => by
  obtain ⟨v, r, rfl, hr, _⟩ := h.inv
  have hd : sg[o]? = some c := by
   have := congrArg (fun l : List Bool => l[0]?) he
   simpa [List.getElem?_take] using this
  have hlt : o < sg.length := (List.getElem?_eq_some_iff.1 hd).1
  refine hr.ow (hc.set hd (Fl.head h)) ?_
  rw [List.drop_eq_getElem_cons hlt, List.length_cons, List.take_succ_cons] at he
  exact (List.cons.inj he).2
abbrev Is (n : Nat) : List Bool := List.replicate n true
/-- Numbers as cells. -/
def iV (xs : List Int) : List Value := xs.map (Value.int .i64)
theorem iV_length (xs : List Int) : (iV xs).length = xs.length := by simp [iV]
theorem fl_iV : ∀ (xs : List Int), Fl (Is xs.length) (iV xs)
 | [] => trivial
 | x :: xs => fl_iV xs
def fitB (n : Int) : Bool := decide (-1125899906842624 ≤ n) && decide (n ≤ 1125899906842624)
def fitI (n : Int) : Prop := -1125899906842624 ≤ n ∧ n ≤ 1125899906842624
theorem fitB_iff (n : Int) : fitB n = true ↔ fitI n := by simp [fitB, fitI]
theorem fits107 (n : Int) (S : St) : ACalls Tryz.prog 107 [.int .i64 n] S fun r S' => r = .bool (fitB n) ∧ S' = S := by
 refine run_of hmix Tryz.func107 cF107 rfl fun hL Q hQ => ?_
 unfold fitB at hQ
 by_cases h : -1125899906842624 ≤ n
 ·simp only [go_sem, seval, aF107, ge_iff_le, h]
  refine fin_at hQ rfl ?_; simp only [go_sem, seval, aF107]; rw [retQ_some]; simp only [oneOr]
  simp [h]
 ·simp only [go_sem, seval, aF107, ge_iff_le, h]
  refine fin_at hQ rfl ?_; simp only [go_sem, seval, aF107]; rw [retQ_some]; simp only [oneOr]
  simp [h]
theorem half170 (n : Int) (S : St) : ACalls Tryz.prog 170 [.int .i64 n] S fun r S' => (∃ m, r = .int .i64 m) ∧ S' = S := by
 refine run_of hmix Tryz.func170 cF170 rfl fun hL Q hQ => ?_
 simp only [go_sem, seval, aF170]
 refine fin_at hQ rfl ?_; simp only [go_sem, seval, aF170]; rw [retQ_some]; simp only [oneOr]
 exact ⟨⟨_, rfl⟩, trivial⟩
theorem clamp131 (n a b : Int) (S : St) : ACalls Tryz.prog 131 [.int .i64 n, .int .i64 a, .int .i64 b] S fun r S' => (∃ m, r = .int .i64 m) ∧ S' = S := by
 refine run_of hmix Tryz.func131 cF131 rfl fun hL Q hQ => ?_
 simp only [go_sem, seval, aF131]
 refine fin_at hQ rfl ?_; simp only [go_sem, seval, aF131]; rw [retQ_some]; simp only [oneOr]
 exact ⟨⟨_, rfl⟩, trivial⟩
theorem down149 (n : Int) (S : St) : ACalls Tryz.prog 149 [.int .i64 n, .int .i64 10000] S fun r S' => (∃ m, r = .int .i64 m) ∧ S' = S := by
 refine run_of hmix Tryz.func149 cF149 rfl fun hL Q hQ => ?_
 simp only [go_sem, seval, aF149]
 repeat' (first | refine gK_splitN (fun hg => ?_) (fun hg => ?_) <;> simp only [go_sem, seval, hg] | refine gK_split (fun hg => ?_) (fun hg => ?_) <;> simp only [go_sem, seval, hg] | refine iK_split (fun hg => ?_) (fun hg => ?_) <;> simp only [go_sem, seval, hg])
 all_goals
  refine fin_at hQ rfl ?_; simp only [go_sem, seval, aF149]; rw [retQ_some]; simp only [oneOr]
  exact ⟨⟨_, rfl⟩, trivial⟩
/-- A number, and whether it is one. -/
def NB (S : St) (r : Value) (S' : St) : Prop := (∃ m b, r = .tuple #[.int .i64 m, .bool b]) ∧ S' = S
theorem part127 (n p : Int) (S : St) : ACalls Tryz.prog 127 [.int .i64 n, .int .i64 p] S (NB S) := by
 refine run_of hmix Tryz.func127 cF127 rfl fun hL Q hQ => ?_
 simp only [go_sem, seval, aF127]
 repeat' (first | refine gK_splitN (fun hg => ?_) (fun hg => ?_) <;> simp only [go_sem, seval, hg] | refine gK_split (fun hg => ?_) (fun hg => ?_) <;> simp only [go_sem, seval, hg] | refine iK_split (fun hg => ?_) (fun hg => ?_) <;> simp only [go_sem, seval, hg])
 all_goals first
  | (refine fin_at hQ rfl ?_; simp only [go_sem, seval, aF127]; rw [retQ_some]; simp only [oneOr]
     exact ⟨⟨_, _, rfl⟩, rfl⟩)
  | (refine cK_of (down149 _ _) ?_
     rintro v S1 _ hL1 ⟨⟨m, rfl⟩, rfl⟩
     simp only [go_sem, seval]
     refine cK_of (fits107 _ _) ?_
     rintro v S2 _ hL2 ⟨rfl, rfl⟩
     simp only [go_sem, seval]
     repeat' (first | refine gK_splitN (fun hg => ?_) (fun hg => ?_) <;> simp only [go_sem, seval, hg] | refine gK_split (fun hg => ?_) (fun hg => ?_) <;> simp only [go_sem, seval, hg] | refine iK_split (fun hg => ?_) (fun hg => ?_) <;> simp only [go_sem, seval, hg])
     all_goals
      refine fin_at hQ rfl ?_; simp only [go_sem, seval, aF127]; rw [retQ_some]; simp only [oneOr]
      exact ⟨⟨_, _, rfl⟩, rfl⟩)
theorem or128 (a : Bool) (m n : Int) (S : St) : ACalls Tryz.prog 128 [.agg #[.bool a, .int .i64 m], .int .i64 n] S fun r S' => r = .int .i64 (if a = true then n else m) ∧ S' = S := by
 refine run_of hmix Tryz.func128 cF128 rfl fun hL Q hQ => ?_
 cases a
 ·simp only [go_sem, seval, aF128]
  refine fin_at hQ rfl ?_; simp only [go_sem, seval, aF128]; rw [retQ_some]; simp only [oneOr]
  exact ⟨trivial, trivial⟩
 ·simp only [go_sem, seval, aF128]
  refine fin_at hQ rfl ?_; simp only [go_sem, seval, aF128]; rw [retQ_some]; simp only [oneOr]
  exact ⟨trivial, trivial⟩
/-- A size, and whether it is one; what is told of lengths that are auto, and of units. -/
def SB (k n : Int) (S : St) (r : Value) (S' : St) : Prop := (∃ a m b, r = .tuple #[.agg #[.bool a, .int .i64 m], .bool b] ∧ (k = 0 → a = true ∧ b = true) ∧ (k = 1 → b = true → a = false ∧ m = n)) ∧ S' = S
theorem of101 (k n base : Int) (has : Bool) (S : St) : ACalls Tryz.prog 101 [.agg #[.int .i64 k, .int .i64 n], .int .i64 base, .bool has] S (SB k n S) := by
 refine run_of hmix Tryz.func101 cF101 rfl fun hL Q hQ => ?_
 simp only [go_sem, seval, aF101]
 by_cases h0 : k = 0
 ·subst h0
  simp only [go_sem, seval]
  refine fin_at hQ rfl ?_; simp only [go_sem, seval, aF101]; rw [retQ_some]; simp only [oneOr]
  exact ⟨⟨_, _, _, rfl, by simp, by simp⟩, rfl⟩
 have h0' : (k == 0) = false := by simpa using h0
 simp only [go_sem, seval, h0']
 by_cases h2 : k = 2
 ·subst h2
  cases has
  ·simp only [go_sem, seval]
   refine fin_at hQ rfl ?_; simp only [go_sem, seval, aF101]; rw [retQ_some]; simp only [oneOr]
   exact ⟨⟨_, _, _, rfl, by simp, by simp⟩, rfl⟩
  ·simp only [go_sem, seval]
   refine cK_of (part127 _ _ _) ?_
   rintro v S1 _ hL1 ⟨⟨m, b, rfl⟩, rfl⟩
   simp only [go_sem, seval]
   refine fin_at hQ rfl ?_; simp only [go_sem, seval, aF101]; rw [retQ_some]; simp only [oneOr]
   exact ⟨⟨_, _, _, rfl, by simp, by simp⟩, rfl⟩
 have h2' : (k == 2) = false := by simpa using h2
 simp only [go_sem, seval, h2']
 by_cases h1 : k = 1
 ·subst h1
  simp only [go_sem, seval]
  refine cK_of (fits107 _ _) ?_
  rintro v S1 _ hL1 ⟨rfl, rfl⟩
  cases hf : fitB n
  ·simp only [go_sem, seval]
   refine fin_at hQ rfl ?_; simp only [go_sem, seval, aF101]; rw [retQ_some]; simp only [oneOr]
   exact ⟨⟨_, _, _, rfl, by simp, by simp⟩, rfl⟩
  ·simp only [go_sem, seval]
   refine fin_at hQ rfl ?_; simp only [go_sem, seval, aF101]; rw [retQ_some]; simp only [oneOr]
   exact ⟨⟨_, _, _, rfl, by simp, by simp⟩, rfl⟩
 have h1' : (k == 1) = false := by simpa using h1
 simp only [go_sem, seval, h1', h2']
 refine fin_at hQ rfl ?_; simp only [go_sem, seval, aF101]; rw [retQ_some]; simp only [oneOr]
 exact ⟨⟨_, _, _, rfl, by simp [h0], by simp [h1]⟩, rfl⟩
theorem least102 (k n base : Int) (has : Bool) (S : St) : ACalls Tryz.prog 102 [.agg #[.int .i64 k, .int .i64 n], .int .i64 base, .bool has] S fun r S' => (∃ m b, r = .tuple #[.int .i64 m, .bool b] ∧ (k = 0 → m = 0)) ∧ S' = S := by
 refine run_of hmix Tryz.func102 cF102 rfl fun hL Q hQ => ?_
 simp only [go_sem, seval, aF102]
 refine cK_of (of101 _ _ _ _ _) ?_
 rintro v S1 _ hL1 ⟨⟨a, m, b, rfl, h, _⟩, rfl⟩
 simp only [go_sem, seval]
 refine cK_of (or128 _ _ _ _) ?_
 rintro v S2 _ hL2 ⟨rfl, rfl⟩
 simp only [go_sem, seval]
 refine fin_at hQ rfl ?_; simp only [go_sem, seval, aF102]; rw [retQ_some]; simp only [oneOr]
 exact ⟨⟨_, _, rfl, fun hk => by rw [(h hk).1]; rfl⟩, trivial⟩
theorem most103 (k n base : Int) (has : Bool) (S : St) : ACalls Tryz.prog 103 [.agg #[.int .i64 k, .int .i64 n], .int .i64 base, .bool has] S fun r S' => (∃ m b, r = .tuple #[.int .i64 m, .bool b] ∧ (k = 0 → m = 1125899906842624)) ∧ S' = S := by
 refine run_of hmix Tryz.func103 cF103 rfl fun hL Q hQ => ?_
 simp only [go_sem, seval, aF103]
 refine cK_of (of101 _ _ _ _ _) ?_
 rintro v S1 _ hL1 ⟨⟨a, m, b, rfl, h, _⟩, rfl⟩
 simp only [go_sem, seval]
 refine cK_of (or128 _ _ _ _) ?_
 rintro v S2 _ hL2 ⟨rfl, rfl⟩
 simp only [go_sem, seval]
 refine fin_at hQ rfl ?_; simp only [go_sem, seval, aF103]; rw [retQ_some]; simp only [oneOr]
 exact ⟨⟨_, _, rfl, fun hk => by rw [(h hk).1]; rfl⟩, trivial⟩
end Go.Proofs.YtegaklgjcicnfaaGreat
namespace Go.Proofs.YtegaklgjcicnfaaGreat
open Go Go.Proofs.YtegaklgjcicnfaaGreat.Abs
theorem and_low (a : Int) : IntKind.i64.wrap ((BitVec.ofInt 64 a &&& BitVec.ofInt 64 33554431).toNat : Int) = a % 33554432 := by
 have h1 : (BitVec.ofInt 64 33554431) = (33554431#64) := by decide
 have h2 : (BitVec.ofInt 64 a &&& 33554431#64).toNat = (BitVec.ofInt 64 a).toNat % 33554432 := by
  rw [BitVec.toNat_and]
  exact Nat.and_two_pow_sub_one_eq_mod _ 25
 rw [h1, h2, BitVec.toNat_ofInt]
 rw [wrap64_id (by omega) (by omega)]
 omega
theorem iV_at {xs : List Int} {j : Nat} (h : j < xs.length) : (iV xs)[j]? = some (.int .i64 xs[j]) := by simp [iV, h]
theorem Sl.i {S : St} {x : Value} {xs : List Int} (h : Sl S 1 x xs.length (iV xs)) {d o e : Nat} (hx : x = .slice (some ⟨d, o, none⟩) xs.length e) (h0 : 0 < xs.length) {j : Nat} (hj : j < xs.length) : rd S d (o + j) = some (.int .i64 xs[j]) := by
 obtain ⟨d', o', e', rfl, _, hc⟩ := h.ne h0
 cases hx
 rw [rd_of_cells hc (by omega), iV_at hj]
def sumI (xs : List Int) : Int := xs.foldl (· + ·) 0
theorem sumI_take {xs : List Int} {j : Nat} (h : j < xs.length) : sumI (xs.take (j + 1)) = sumI (xs.take j) + xs[j] := by
 unfold sumI
 rw [List.take_succ_eq_append_getElem h, List.foldl_append]
 rfl
/-- What a sum answers: where it fits, it is the sum. -/
def SumP (xs : List Int) (S : St) (r : Value) (S' : St) : Prop := (∃ m b, r = .tuple #[.int .i64 m, .bool b] ∧ (b = true → m = sumI xs ∧ fitI m)) ∧ S' = S
set_option maxHeartbeats 1000000 in
theorem sum109 (x : Value) (xs : List Int) (S : St) (h : Sl S 1 x xs.length (iV xs)) (hn : xs.length ≤ 1000) : ACalls Tryz.prog 109 [x] S (SumP xs S) := by
 refine run_of hmix Tryz.func109 cF109 rfl fun hL Q hQ => ?_
 obtain ⟨a, e, rfl⟩ := h.slice
 simp only [go_sem, seval, aF109]
 refine lK_of (fun t' S' => S' = S ∧ ∃ (j : Nat) (p q : Int), j ≤ xs.length ∧ (-33554433 * (j : Int) ≤ p ∧ p ≤ 33554433 * (j : Int)) ∧ (0 ≤ q ∧ q ≤ 33554432 * (j : Int)) ∧ p * 33554432 + q = sumI (xs.take j) ∧ Slots t' [(2, .int .i64 0), (3, .bool false), (4, .int .i64 p), (5, .int .i64 q), (9, .slice a xs.length e), (10, .int .i64 xs.length), (11, .int .i64 j)]) (fun t' _ => xs.length - (RowKit.intOf (t' 11)).toNat) ?_ ?_
 ·refine ⟨rfl, 0, 0, 0, by omega, by omega, by omega, by simp [sumI], ?_⟩
  simp only [go_sem, seval, Int.natCast_add, Int.natCast_succ]
 rintro t1 S1 Q1 ⟨rfl, j, p, q, hj, hp, hq, hsum, hs⟩ hL1 hN hE
 simp only [slots_cons, slots_nil] at hs
 by_cases hjn : j = xs.length
 ·subst hjn
  rw [List.take_length] at hsum
  have e1 : q.fdiv (2 ^ min (25 : Int).toNat IntKind.i64.bits) = q / 33554432 := by
   rw [Int.fdiv_eq_ediv_of_nonneg _ (by decide)]; rfl
  have e2 : IntKind.i64.wrap (p + q / 33554432) = p + q / 33554432 := wrap64_id (by omega) (by omega)
  have e3 : ∀ z : Int, IntKind.i64.wrap (z * 2 ^ min (25 : Int).toNat IntKind.i64.bits) = IntKind.i64.wrap (z * 33554432) := fun z => rfl
  have e4 : IntKind.i64.wrap ((BitVec.ofInt IntKind.i64.bits q &&& BitVec.ofInt IntKind.i64.bits 33554431).toNat : Int) = q % 33554432 := and_low q
  simp only [Int.toNat, IntKind.bits, seval] at e1 e3 e4
  simp only [go_sem, seval, hs, Int.lt_irrefl]
  refine hE _ _ _ (by simp) ?_
  simp only [go_sem, seval, hs, e1, e2, e4]
  have fin : ∀ (P : Prop) (m : Int) (b : Bool), (b = true → m = sumI xs ∧ fitI m) → SumP xs S1 (.tuple #[.int .i64 m, .bool b]) S1 := fun P m b hb => ⟨⟨m, b, rfl, hb⟩, rfl⟩
  by_cases c1 : p + q / 33554432 < -33554432
  ·simp only [go_sem, seval, hs, c1]
   refine fin_at hQ rfl ?_; simp only [go_sem, seval, aF109, hs]; rw [retQ_some]; simp only [oneOr]
   exact fin True _ _ (by simp)
  by_cases c2 : p + q / 33554432 > 33554432
  ·simp only [go_sem, seval, hs, c1, c2]
   refine fin_at hQ rfl ?_; simp only [go_sem, seval, aF109, hs]; rw [retQ_some]; simp only [oneOr]
   exact fin True _ _ (by simp)
  ·have e5 : IntKind.i64.wrap ((p + q / 33554432) * 33554432) = (p + q / 33554432) * 33554432 := wrap64_id (by omega) (by omega)
   have e6 : IntKind.i64.wrap ((p + q / 33554432) * 33554432 + q % 33554432) = (p + q / 33554432) * 33554432 + q % 33554432 := wrap64_id (by omega) (by omega)
   simp only [go_sem, seval, hs, c1, c2, e3, e5, e6]
   refine cK_of (fits107 _ _) ?_
   rintro v S2 _ hL2 ⟨rfl, rfl⟩
   cases hf : fitB ((p + q / 33554432) * 33554432 + q % 33554432)
   ·simp only [go_sem, seval, hs]
    refine fin_at hQ rfl ?_; simp only [go_sem, seval, aF109, hs]; rw [retQ_some]; simp only [oneOr]
    exact fin True _ _ (by simp)
   ·simp only [go_sem, seval, hs]
    refine fin_at hQ rfl ?_; simp only [go_sem, seval, aF109, hs]; rw [retQ_some]; simp only [oneOr]
    exact fin True _ _ fun _ => ⟨by rw [← hsum]; omega, (fitB_iff _).1 hf⟩
 ·have hjl : j < xs.length := by omega
  have hjl' : (j : Int) < xs.length := by omega
  have hj0 : (0 : Int) ≤ j := by omega
  obtain ⟨d, o, f, hv, _, hc⟩ := h.ne (by omega)
  cases hv
  have hr := Sl.i h rfl (by omega) hjl
  have hw1 : IntKind.i64.wrap ((j : Int) + 1) = j + 1 := wrap64_id (by omega) (by omega)
  simp only [go_sem, seval, hs, hjl', hj0, Int.toNat_natCast, Nat.mul_one, hr]
  refine cK_of (fits107 _ _) ?_
  rintro v S2 _ hL2 ⟨rfl, rfl⟩
  cases hf : fitB xs[j]
  ·simp only [go_sem, seval, hs]
   refine hE _ _ _ (by simp) ?_
   simp only [go_sem, seval, hs]
   refine fin_at hQ rfl ?_; simp only [go_sem, seval, aF109, hs]; rw [retQ_some]; simp only [oneOr]
   exact ⟨⟨_, _, rfl, by simp⟩, rfl⟩
  ·have hfi := (fitB_iff _).1 hf
   unfold fitI at hfi
   have e1 : (xs[j]).fdiv (2 ^ min (25 : Int).toNat IntKind.i64.bits) = xs[j] / 33554432 := by
    rw [Int.fdiv_eq_ediv_of_nonneg _ (by decide)]; rfl
   have e4 : IntKind.i64.wrap ((BitVec.ofInt IntKind.i64.bits xs[j] &&& BitVec.ofInt IntKind.i64.bits 33554431).toNat : Int) = xs[j] % 33554432 := and_low _
   simp only [Int.toNat, IntKind.bits, seval] at e1 e4
   have e2 : IntKind.i64.wrap (p + xs[j] / 33554432) = p + xs[j] / 33554432 := wrap64_id (by omega) (by omega)
   have e5 : IntKind.i64.wrap (q + xs[j] % 33554432) = q + xs[j] % 33554432 := wrap64_id (by omega) (by omega)
   simp only [go_sem, seval, hs, e1, e2, e4, e5, hw1]
   refine hN _ _ ⟨rfl, j + 1, p + xs[j] / 33554432, q + xs[j] % 33554432, by omega, by omega, by omega, ?_, ?_⟩ ?_
   ·rw [sumI_take hjl, ← hsum]; omega
   ·simp only [go_sem, seval, Int.natCast_add, Int.natCast_succ, hs]
   ·simp only [go_sem, seval, hs]
    simp [RowKit.intOf]
    omega
theorem Fl.I {sg : List Bool} {cs : List Value} (h : Fl sg cs) (k : Nat) (hk : sg[k]? = some true := by rfl) : cs[k]? = some (Value.int .i64 (ig cs k)) := h.i k hk
theorem Fl.B {sg : List Bool} {cs : List Value} (h : Fl sg cs) (k : Nat) (hk : sg[k]? = some false := by rfl) : cs[k]? = some (Value.bool (bg cs k)) := h.b k hk
theorem Fl.N {sg : List Bool} {cs : List Value} (h : Fl sg cs) (k : Nat) (hk : sg.length = k := by rfl) : cs.length = k := h.len.trans hk
theorem Fl.F {sg : List Bool} {cs : List Value} (h : Fl sg cs) (k : Nat) (hk : sg.length = k := by rfl) : cs.take k = cs := List.take_of_length_le (Nat.le_of_eq (h.len.trans hk))
theorem two_of {cs : List Value} {k : Nat} {a b : Value} (h1 : cs[k]? = some a) (h2 : cs[k + 1]? = some b) : (cs.drop k).take 2 = [a, b] := by
 obtain ⟨l1, e1⟩ := List.getElem?_eq_some_iff.1 h1
 obtain ⟨l2, e2⟩ := List.getElem?_eq_some_iff.1 h2
 rw [List.drop_eq_getElem_cons l1, List.drop_eq_getElem_cons l2, e1, e2]
 rfl
theorem Fl.Z {sg : List Bool} {cs : List Value} (h : Fl sg cs) (k : Nat) (h1 : sg[k]? = some false := by rfl) (h2 : sg[k + 1]? = some true := by rfl) : (cs.drop k).take 2 = [Value.bool (bg cs k), Value.int .i64 (ig cs (k + 1))] := two_of (h.b k h1) (h.i (k + 1) h2)
theorem Fl.Z0 {sg : List Bool} {cs : List Value} (h : Fl sg cs) (h1 : sg[0]? = some false := by rfl) (h2 : sg[1]? = some true := by rfl) : cs.take 2 = [Value.bool (bg cs 0), Value.int .i64 (ig cs 1)] := h.Z 0 h1 h2
theorem Fl.L {sg : List Bool} {cs : List Value} (h : Fl sg cs) (k : Nat) (h1 : sg[k]? = some true := by rfl) (h2 : sg[k + 1]? = some true := by rfl) : (cs.drop k).take 2 = [Value.int .i64 (ig cs k), Value.int .i64 (ig cs (k + 1))] := two_of (h.i k h1) (h.i (k + 1) h2)
theorem Fl.L0 {sg : List Bool} {cs : List Value} (h : Fl sg cs) (h1 : sg[0]? = some true := by rfl) (h2 : sg[1]? = some true := by rfl) : cs.take 2 = [Value.int .i64 (ig cs 0), Value.int .i64 (ig cs 1)] := h.L 0 h1 h2
/-- Numbers just laid down. -/
theorem sl_new (S : St) (xs : List Int) : Sl (S.new ⟨false, iV xs⟩) 1 (.slice (some ⟨S.next, 0, none⟩) xs.length 1) xs.length (iV xs) :=
 .inr ⟨S.next, 0, 1, rfl, .inr rfl, by rw [cellsOf_new, if_pos rfl]; simp [iV_length, List.take_of_length_le]⟩
theorem strut157 (m : Int) (S : St) : ACalls Tryz.prog 157 [.int .i64 m] S fun r S' => (∃ p n, r = .agg #[.int .i64 p, .int .i64 n]) ∧ S' = S := by
 refine run_of hmix Tryz.func157 cF157 rfl fun hL Q hQ => ?_
 simp only [go_sem, seval, aF157]
 refine fin_at hQ rfl ?_; simp only [go_sem, seval, aF157]; rw [retQ_some]; simp only [oneOr]
 exact ⟨⟨_, _, rfl⟩, trivial⟩
theorem join158 (a b c d : Int) (S : St) : ACalls Tryz.prog 158 [.agg #[.int .i64 a, .int .i64 b], .agg #[.int .i64 c, .int .i64 d]] S fun r S' => (∃ p n, r = .agg #[.int .i64 p, .int .i64 n]) ∧ S' = S := by
 refine run_of hmix Tryz.func158 cF158 rfl fun hL Q hQ => ?_
 simp only [go_sem, seval, aF158]
 refine fin_at hQ rfl ?_; simp only [go_sem, seval, aF158]; rw [retQ_some]; simp only [oneOr]
 exact ⟨⟨_, _, rfl⟩, trivial⟩
/-- A number, whether it is one, and the memory goes on. -/
def NK (S : St) (r : Value) (S' : St) : Prop := (∃ m b, r = .tuple #[.int .i64 m, .bool b]) ∧ KeepsAll S S'
theorem value156 (a b : Int) (S : St) : ACalls Tryz.prog 156 [.agg #[.int .i64 a, .int .i64 b]] S (NK S) := by
 refine run_of hmix Tryz.func156 cF156 rfl fun hL Q hQ => ?_
 simp only [go_sem, seval, aF156]
 refine cK_of (sum109 _ [a, b] _ (sl_new _ [a, b]) (by simp)) ?_
 rintro v S1 _ hL1 ⟨⟨m, c, rfl, _⟩, rfl⟩
 simp only [go_sem, seval]
 refine fin_at hQ rfl ?_; simp only [go_sem, seval, aF156]; rw [retQ_some]; simp only [oneOr]
 exact ⟨⟨_, _, rfl⟩, Keeps.of_new _ _ _⟩
theorem fl_b (b : Bool) : Fl [false] [.bool b] := trivial
theorem fl_i (n : Int) : Fl [true] [.int .i64 n] := trivial
/-- Four lengths, four sizes. -/
def lens4 : List Bool := [true, true, true, true, true, true, true, true]
def sizes4 : List Bool := [false, true, false, true, false, true, false, true]
/-- What is told of sides: those that are auto are, those of units are. -/
def SidesP (cs ds : List Value) : Prop := ∀ k, k < 4 → (ig cs (k * 2) = 0 → bg ds (k * 2) = true) ∧ (ig cs (k * 2) = 1 → bg ds (k * 2) = false ∧ ig ds (k * 2 + 1) = ig cs (k * 2 + 1))
theorem ig_set {cs : List Value} {k j : Nat} {n : Int} (h : k < cs.length) : ig (cs.set k (.int .i64 n)) j = if k = j then n else ig cs j := by
 unfold ig
 rw [List.getElem?_set]
 by_cases e : k = j
 ·subst e; simp [h]
 ·simp [e]
theorem ig_setb {cs : List Value} {k j : Nat} {b : Bool} (h : k ≠ j) : ig (cs.set k (.bool b)) j = ig cs j := by
 unfold ig
 rw [List.getElem?_set, if_neg h]
theorem bg_setb {cs : List Value} {k j : Nat} {b : Bool} (h : k < cs.length) : bg (cs.set k (.bool b)) j = if k = j then b else bg cs j := by
 unfold bg
 rw [List.getElem?_set]
 by_cases e : k = j
 ·subst e; simp [h]
 ·simp [e]
theorem bg_set {cs : List Value} {k j : Nat} {n : Int} (h : k ≠ j) : bg (cs.set k (.int .i64 n)) j = bg cs j := by
 unfold bg
 rw [List.getElem?_set, if_neg h]
set_option maxHeartbeats 1000000 in
theorem sides113 (cs : List Value) (base : Int) (S : St) (h : Fl lens4 cs) : ACalls Tryz.prog 113 [.agg cs.toArray, .int .i64 base] S fun r S' => (∃ ds b, r = .tuple #[.agg ds.toArray, .bool b] ∧ Fl sizes4 ds ∧ (b = true → SidesP cs ds)) ∧ S' = S := by
 refine run_of hmix Tryz.func113 cF113 rfl fun hL Q hQ => ?_
 simp only [go_sem, seval, aF113, h.N 8, h.F 8]
 refine lK_of (fun t' S' => S' = S ∧ ∃ (j : Nat) (ds : List Value), j ≤ 4 ∧ Fl sizes4 ds ∧ (∀ k, k < j → (ig cs (k * 2) = 0 → bg ds (k * 2) = true) ∧ (ig cs (k * 2) = 1 → bg ds (k * 2) = false ∧ ig ds (k * 2 + 1) = ig cs (k * 2 + 1))) ∧
  Slots t' [(1, .int .i64 base), (4, .agg #[.bool false, .int .i64 0, .bool false, .int .i64 0, .bool false, .int .i64 0, .bool false, .int .i64 0]), (5, .bool false), (6, .agg ds.toArray), (11, .agg cs.toArray), (12, .int .i64 j)]) (fun t' _ => 4 - (RowKit.intOf (t' 12)).toNat) ?_ ?_
 ·refine ⟨rfl, 0, [.bool false, .int .i64 0, .bool false, .int .i64 0, .bool false, .int .i64 0, .bool false, .int .i64 0], by omega, trivial, by omega, ?_⟩
  simp only [go_sem, seval, Int.natCast_add, Int.natCast_succ]
 rintro t1 S1 Q1 ⟨rfl, j, ds, hj, hds, hp, hs⟩ hL1 hN hE
 simp only [slots_cons, slots_nil] at hs
 by_cases hj4 : j = 4
 ·subst hj4
  simp only [go_sem, seval, hs, show ¬ (((4 : Nat) : Int) < 4) by omega]
  refine hE _ _ _ (by simp) ?_
  simp only [go_sem, seval, hs, hds.N 8, hds.F 8]
  refine fin_at hQ rfl ?_; simp only [go_sem, seval, aF113, hs, hds.N 8, hds.F 8]; rw [retQ_some]; simp only [oneOr]
  exact ⟨⟨ds, true, rfl, hds, fun _ k hk => hp k hk⟩, trivial⟩
 ·have hlt : ((j : Int) < 4) := by omega
  have hj0 : (0 : Int) ≤ j := by omega
  have hw1 : IntKind.i64.wrap ((j : Int) + 1) = j + 1 := wrap64_id (by omega) (by omega)
  have ha : lens4[j * 2]? = some true ∧ lens4[j * 2 + 1]? = some true ∧ sizes4[j * 2]? = some false ∧ sizes4[j * 2 + 1]? = some true := by
   match j, hj, hj4 with
   | 0, _, _ | 1, _, _ | 2, _, _ | 3, _, _ => exact ⟨rfl, rfl, rfl, rfl⟩
  have hl := h.L (j * 2) ha.1 ha.2.1
  have hl8 : j * 2 + 2 ≤ 8 := by omega
  simp only [go_sem, seval, hs, hlt, hj0, Int.toNat_natCast, h.N 8, hl, hl8]
  refine cK_of (of101 _ _ _ _ _) ?_
  rintro v S2 _ hL2 ⟨⟨a, m, b, rfl, k0, k1⟩, rfl⟩
  cases b
  ·simp only [go_sem, seval, hs]
   refine hE _ _ _ (by simp) ?_
   simp only [go_sem, seval, hs]
   refine fin_at hQ rfl ?_; simp only [go_sem, seval, aF113, hs]; rw [retQ_some]; simp only [oneOr]
   exact ⟨⟨_, _, rfl, trivial, by simp⟩, trivial⟩
  ·simp only [go_sem, seval, hs, hlt, hj0, Int.toNat_natCast, hds.N 8, hl8, hw1]
   refine hN _ _ ⟨rfl, j + 1, (ds.set (j * 2) (.bool a)).set (j * 2 + 1) (.int .i64 m), by omega, (hds.set ha.2.2.1 (fl_b _)).set ha.2.2.2 (fl_i _), fun k hk => ?_, ?_⟩ ?_
   ·have hlen := hds.N 8
    rw [bg_set (by omega), bg_setb (by omega), ig_set (by rw [List.length_set]; omega), ig_setb (by omega)]
    by_cases hkj : j = k
    ·subst hkj
     rw [if_pos rfl, if_pos rfl]
     exact ⟨fun q => (k0 q).1, fun q => k1 q rfl⟩
    ·rw [if_neg (by omega), if_neg (by omega)]
     exact hp k (by omega)
   ·simp only [go_sem, seval, Int.natCast_add, Int.natCast_succ, hs]
   ·simp only [go_sem, seval, hs]
    simp [RowKit.intOf]
    omega
end Go.Proofs.YtegaklgjcicnfaaGreat
namespace Go.Proofs.YtegaklgjcicnfaaGreat
open Go Go.Proofs.YtegaklgjcicnfaaGreat.Abs
def inA : List Bool := [true, false, true, false, true, false, true, true, false, true, true]
theorem left151 (cs : List Value) (x : Value) (xs : List Int) (S : St) (h : Fl inA cs) (hx : Sl S 1 x xs.length (iV xs)) (hn : xs.length ≤ 1000) : ACalls Tryz.prog 151 [.agg cs.toArray, x] S fun r S' => (∃ m, r = .int .i64 m) ∧ S' = S := by
 refine run_of hmix Tryz.func151 cF151 rfl fun hL Q hQ => ?_
 obtain ⟨a, e, rfl⟩ := hx.slice
 simp only [go_sem, seval, aF151, h.I 0, h.I 7]
 refine lK_of (fun t' S' => S' = S ∧ ∃ (j : Nat) (p : Int), j ≤ xs.length ∧ Slots t' [(5, .int .i64 p), (13, .slice a xs.length e), (14, .int .i64 xs.length), (15, .int .i64 j)]) (fun t' _ => xs.length - (RowKit.intOf (t' 15)).toNat) ?_ ?_
 ·refine ⟨rfl, 0, IntKind.i64.wrap (ig cs 0 - ig cs 7), by omega, ?_⟩
  simp only [go_sem, seval, Int.natCast_add, Int.natCast_succ, h.I 0, h.I 7]
 rintro t1 S1 Q1 ⟨rfl, j, p, hj, hs⟩ hL1 hN hE
 simp only [slots_cons, slots_nil] at hs
 by_cases hjn : j = xs.length
 ·subst hjn
  simp only [go_sem, seval, hs, Int.lt_irrefl]
  refine hE _ _ _ (by simp) ?_
  simp only [go_sem, seval, hs]
  refine fin_at hQ rfl ?_; simp only [go_sem, seval, aF151, hs]; rw [retQ_some]; simp only [oneOr]
  exact ⟨⟨_, rfl⟩, trivial⟩
 ·have hjl : j < xs.length := by omega
  have hjl' : (j : Int) < xs.length := by omega
  have hj0 : (0 : Int) ≤ j := by omega
  obtain ⟨d, o, f, hv, _, hc⟩ := hx.ne (by omega)
  cases hv
  have hr := Sl.i hx rfl (by omega) hjl
  have hw1 : IntKind.i64.wrap ((j : Int) + 1) = j + 1 := wrap64_id (by omega) (by omega)
  simp only [go_sem, seval, hs, hjl', hj0, Int.toNat_natCast, Nat.mul_one, hr, hw1]
  refine hN _ _ ⟨rfl, j + 1, IntKind.i64.wrap (p - xs[j]), by omega, ?_⟩ ?_
  ·simp only [go_sem, seval, Int.natCast_add, Int.natCast_succ, hs]
  ·simp only [go_sem, seval, hs]
   simp [RowKit.intOf]
   omega
theorem margins152 (cs : List Value) (w : Int) (S : St) (h : Fl inA cs) : ACalls Tryz.prog 152 [.agg cs.toArray, .int .i64 w] S fun r S' => (∃ a b, r = .tuple #[.int .i64 a, .int .i64 b]) ∧ KeepsAll S S' := by
 refine run_of hmix Tryz.func152 cF152 rfl fun hL Q hQ => ?_
 simp only [go_sem, seval, aF152, h.N 11, h.F 11, h.Z 1, h.Z 5]
 refine cK_of (or128 _ _ _ _) ?_
 rintro v S1 _ hL1 ⟨rfl, rfl⟩
 simp only [go_sem, seval]
 refine cK_of (or128 _ _ _ _) ?_
 rintro v S2 _ hL2 ⟨rfl, rfl⟩
 generalize (if bg cs 1 = true then (0 : Int) else ig cs (1 + 1)) = a
 generalize (if bg cs 5 = true then (0 : Int) else ig cs (5 + 1)) = b
 simp only [go_sem, seval, h.N 11, h.F 11]
 refine cK_of (left151 cs _ [w] _ h (sl_new _ [w]) (by simp)) ?_
 rintro v S3 _ hL3 ⟨⟨m, rfl⟩, rfl⟩
 simp only [go_sem, seval, h.N 11, h.F 11]
 refine cK_of (left151 cs _ [w, a, b] _ h (sl_new _ [w, a, b]) (by simp)) ?_
 rintro v S4 _ hL4 ⟨⟨n, rfl⟩, rfl⟩
 have hk : KeepsAll S2 ((S2.new ⟨false, iV [w]⟩).new ⟨false, iV [w, a, b]⟩) := (Keeps.of_new _ _ _).new _
 simp only [go_sem, seval, h.N 11, h.F 11, h.B 1, h.B 5, h.B 8]
 repeat' (first | refine gK_splitN (fun hg => ?_) (fun hg => ?_) <;> simp only [go_sem, seval, hg, h.N 11, h.F 11, h.B 1, h.B 5, h.B 8] | refine gK_split (fun hg => ?_) (fun hg => ?_) <;> simp only [go_sem, seval, hg, h.N 11, h.F 11, h.B 1, h.B 5, h.B 8] | refine iK_split (fun hg => ?_) (fun hg => ?_) <;> simp only [go_sem, seval, hg, h.N 11, h.F 11, h.B 1, h.B 5, h.B 8])
 all_goals first
  | (refine fin_at hQ rfl ?_; simp only [go_sem, seval, aF152]; rw [retQ_some]; simp only [oneOr]
     exact ⟨⟨_, _, rfl⟩, hk⟩)
  | (refine cK_of (half170 _ _) ?_
     rintro v S5 _ hL5 ⟨⟨m, rfl⟩, rfl⟩
     simp only [go_sem, seval]
     refine fin_at hQ rfl ?_; simp only [go_sem, seval, aF152]; rw [retQ_some]; simp only [oneOr]
     exact ⟨⟨_, _, rfl⟩, hk⟩)
/-- What a solver answers: a result of such cells, a number, whether it is one. -/
def SolP (n : Nat) (S : St) (r : Value) (S' : St) : Prop := (∃ xs m b, r = .tuple #[.agg (iV xs).toArray, .int .i64 m, .bool b] ∧ xs.length = n) ∧ KeepsAll S S'
theorem solve130 (cs : List Value) (a : Bool) (n : Int) (S : St) (h : Fl inA cs) : ACalls Tryz.prog 130 [.agg cs.toArray, .agg #[.bool a, .int .i64 n]] S (SolP 3 S) := by
 refine run_of hmix Tryz.func130 cF130 rfl fun hL Q hQ => ?_
 simp only [go_sem, seval, aF130, h.N 11, h.F 11, h.Z 1, h.Z 5]
 refine cK_of (or128 _ _ _ _) ?_
 rintro v S1 _ hL1 ⟨rfl, rfl⟩
 simp only [go_sem, seval]
 refine cK_of (or128 _ _ _ _) ?_
 rintro v S2 _ hL2 ⟨rfl, rfl⟩
 generalize (if bg cs 1 = true then (0 : Int) else ig cs (1 + 1)) = x
 generalize (if bg cs 5 = true then (0 : Int) else ig cs (5 + 1)) = y
 have fin : ∀ (x y z m : Int) (b : Bool) (S' : St), KeepsAll S2 S' → SolP 3 S2 (.tuple #[.agg #[.int .i64 x, .int .i64 y, .int .i64 z], .int .i64 m, .bool b]) S' := fun x y z m b S' hk => ⟨⟨[x, y, z], m, b, rfl, rfl⟩, hk⟩
 have fits : ∀ (x y z : Int) (t : Env) (S' : St) (Q2 : Exit → Env → St → Prop), True := fun _ _ _ _ _ _ => trivial
 cases a
 ·simp only [go_sem, seval, h.N 11, h.F 11]
  refine cK_of (margins152 cs _ _ h) ?_
  rintro v S3 _ hL3 ⟨⟨p, q, rfl⟩, hk3⟩
  simp only [go_sem, seval]
  refine cK_of (fits107 _ _) ?_
  rintro v S4 _ hL4 ⟨rfl, rfl⟩
  generalize fitB _ = c
  cases c
  ·simp only [go_sem, seval]
   refine fin_at hQ rfl ?_; simp only [go_sem, seval, aF130]; rw [retQ_some]; simp only [oneOr]
   exact fin _ _ _ _ _ _ hk3
  ·simp only [go_sem, seval]
   refine cK_of (fits107 _ _) ?_
   rintro v S5 _ hL5 ⟨rfl, rfl⟩
   generalize fitB _ = c
   cases c
   ·simp only [go_sem, seval]
    refine fin_at hQ rfl ?_; simp only [go_sem, seval, aF130]; rw [retQ_some]; simp only [oneOr]
    exact fin _ _ _ _ _ _ hk3
   ·simp only [go_sem, seval]
    refine cK_of (fits107 _ _) ?_
    rintro v S6 _ hL6 ⟨rfl, rfl⟩
    simp only [go_sem, seval]
    refine fin_at hQ rfl ?_; simp only [go_sem, seval, aF130]; rw [retQ_some]; simp only [oneOr]
    exact fin _ _ _ _ _ _ hk3
 ·simp only [go_sem, seval, h.N 11, h.F 11]
  refine cK_of (left151 cs _ [x, y] _ h (sl_new _ [x, y]) (by simp)) ?_
  rintro v S3 _ hL3 ⟨⟨m, rfl⟩, rfl⟩
  have hk3 : KeepsAll S2 (S2.new ⟨false, iV [x, y]⟩) := Keeps.of_new _ _ _
  simp only [go_sem, seval]
  refine cK_of (fits107 _ _) ?_
  rintro v S4 _ hL4 ⟨rfl, rfl⟩
  generalize fitB _ = c
  cases c
  ·simp only [go_sem, seval]
   refine fin_at hQ rfl ?_; simp only [go_sem, seval, aF130]; rw [retQ_some]; simp only [oneOr]
   exact fin _ _ _ _ _ _ hk3
  ·simp only [go_sem, seval]
   refine cK_of (fits107 _ _) ?_
   rintro v S5 _ hL5 ⟨rfl, rfl⟩
   generalize fitB _ = c
   cases c
   ·simp only [go_sem, seval]
    refine fin_at hQ rfl ?_; simp only [go_sem, seval, aF130]; rw [retQ_some]; simp only [oneOr]
    exact fin _ _ _ _ _ _ hk3
   ·simp only [go_sem, seval]
    refine cK_of (fits107 _ _) ?_
    rintro v S6 _ hL6 ⟨rfl, rfl⟩
    simp only [go_sem, seval]
    refine fin_at hQ rfl ?_; simp only [go_sem, seval, aF130]; rw [retQ_some]; simp only [oneOr]
    exact fin _ _ _ _ _ _ hk3
end Go.Proofs.YtegaklgjcicnfaaGreat
namespace Go.Proofs.YtegaklgjcicnfaaGreat
open Go Go.Proofs.YtegaklgjcicnfaaGreat.Abs
theorem len3 {xs : List Int} (h : xs.length = 3) : ∃ a b c, xs = [a, b, c] := by
 match xs, h with
 | [a, b, c], _ => exact ⟨a, b, c, rfl⟩
theorem len5 {xs : List Int} (h : xs.length = 5) : ∃ a b c d e, xs = [a, b, c, d, e] := by
 match xs, h with
 | [a, b, c, d, e], _ => exact ⟨a, b, c, d, e, rfl⟩
/-- What a solver is: a function bound to a row, that answers so. -/
def IsSol (f : Nat) (cs : List Value) (n : Nat) (R : Bool → Int → List Int → Int → Bool → Prop) : Prop :=
 enters Tryz.prog f = true ∧ ∀ (a : Bool) (k : Int) (S : St), ACalls Tryz.prog f [.agg cs.toArray, .agg #[.bool a, .int .i64 k]] S fun r S' => (∃ xs m b, r = .tuple #[.agg (iV xs).toArray, .int .i64 m, .bool b] ∧ xs.length = n ∧ R a k xs m b) ∧ KeepsAll S S'
def fnOf (f : Nat) (cs : List Value) : Value := .func (.func f) #[.agg cs.toArray] #[]
theorem ask150 (f : Nat) (cs : List Value) (R : Bool → Int → List Int → Int → Bool → Prop) (hf : IsSol f cs 3 R) (p : Nat) (y1 y2 y3 k n : Int) (a : Bool) (S : St) (hb : S.blk p = some ⟨false, [fnOf f cs, .int .i64 y1, .int .i64 y2, .int .i64 y3, .int .i64 k]⟩) :
  ACalls Tryz.prog 150 [ptr p, .agg #[.bool a, .int .i64 n]] S fun r S' => ∃ x1 x2 x3 m b, r = .bool b ∧ R a n [x1, x2, x3] m b ∧ S'.blk p = some ⟨false, [fnOf f cs, .int .i64 x1, .int .i64 x2, .int .i64 x3, .int .i64 m]⟩ ∧ Keeps S S' (· ≠ p) := by
 refine run_of hmix Tryz.func150 cF150 rfl fun hL Q hQ => ?_
 have hp := hL _ _ hb
 have hr : rd S p 0 = some (fnOf f cs) := by rw [rd_of_blk hb]; rfl
 simp only [go_sem, seval, aF150, hr, fnOf]
 refine ⟨hf.1, cK_of (hf.2 a n S) ?_⟩
 rintro v S1 _ hL1 ⟨⟨xs, m, b, rfl, hx, hR⟩, hk⟩
 obtain ⟨x1, x2, x3, rfl⟩ := len3 hx
 have hb1 : S1.blk p = some ⟨false, [fnOf f cs, .int .i64 y1, .int .i64 y2, .int .i64 y3, .int .i64 k]⟩ := by rw [hk.2 p hp trivial]; exact hb
 simp only [go_sem, seval, hb1, iV]
 refine fin_at hQ rfl ?_; simp only [go_sem, seval, aF150]; rw [retQ_some]; simp only [oneOr]
 refine ⟨x1, x2, x3, m, b, rfl, hR, by simp [St.blk_set], ?_⟩
 exact (hk.all.set (fun i _ h => h) _).set (fun i _ h => h) _
set_option maxHeartbeats 2000000 in
theorem bound129 (f : Nat) (cs : List Value) (R : Bool → Int → List Int → Int → Bool → Prop) (hf : IsSol f cs 3 R) (a : Bool) (n least most : Int) (S : St) :
  ACalls Tryz.prog 129 [fnOf f cs, .agg #[.bool a, .int .i64 n], .int .i64 least, .int .i64 most] S fun r S' => (∃ xs b, r = .tuple #[.agg (iV xs).toArray, .bool b] ∧ xs.length = 3 ∧ (b = true → ∃ ys m, R a n ys m true ∧ (least ≤ m → m ≤ most → xs = ys))) ∧ KeepsAll S S' := by
 refine run_of hmix Tryz.func129 cF129 rfl fun hL Q hQ => ?_
 have e150 : enters Tryz.prog 150 = true := by kernel_rfl
 simp only [go_sem, seval, aF129, fnOf]
 obtain ⟨p, hp⟩ : ∃ p, p = S.next := ⟨_, rfl⟩
 obtain ⟨S0, hS0⟩ : ∃ S0, S0 = S.new ⟨false, [fnOf f cs, .int .i64 0, .int .i64 0, .int .i64 0, .int .i64 0]⟩ := ⟨_, rfl⟩
 have hb0 : S0.blk p = some ⟨false, [fnOf f cs, .int .i64 0, .int .i64 0, .int .i64 0, .int .i64 0]⟩ := by rw [hS0, hp]; simp [St.blk_new]
 have k0 : Keeps S S0 (· ≠ p) := by rw [hS0]; exact Keeps.of_new _ _ _
 have done : ∀ {S' : St}, Keeps S S' (· ≠ p) → KeepsAll S S' := fun h => h.mono fun i hi _ => by omega
 unfold fnOf at hS0
 rw [← hS0, ← hp]
 have fail : ∀ (S' : St), Keeps S S' (· ≠ p) → (∃ xs b, Value.tuple #[.agg #[.int .i64 0, .int .i64 0, .int .i64 0], .bool false] = .tuple #[.agg (iV xs).toArray, .bool b] ∧ xs.length = 3 ∧ (b = true → ∃ ys m, R a n ys m true ∧ (least ≤ m → m ≤ most → xs = ys))) ∧ KeepsAll S S' := fun S' h => ⟨⟨[0, 0, 0], false, rfl, rfl, by simp⟩, done h⟩
 refine ⟨e150, cK_of (ask150 f cs R hf p 0 0 0 0 n a S0 hb0) ?_⟩
 rintro v S1 _ hL1 ⟨x1, x2, x3, m, b, rfl, hR, hb1, k1⟩
 have K1 := k0.trans k1 fun _ _ h => h
 cases b
 ·simp only [go_sem, seval]
  refine fin_at hQ rfl ?_; simp only [go_sem, seval, aF129]; rw [retQ_some]; simp only [oneOr]
  exact fail _ K1
 have r1 : rd S1 p 4 = some (.int .i64 m) := by rw [rd_of_blk hb1]; rfl
 by_cases hm : m > most
 ·simp only [go_sem, seval, r1, hm]
  refine ⟨e150, cK_of (ask150 f cs R hf p x1 x2 x3 m most false S1 hb1) ?_⟩
  rintro v S2 _ hL2 ⟨y1, y2, y3, m2, b2, rfl, hR2, hb2, k2⟩
  have K2 := K1.trans k2 fun _ _ h => h
  cases b2
  ·simp only [go_sem, seval]
   refine fin_at hQ rfl ?_; simp only [go_sem, seval, aF129]; rw [retQ_some]; simp only [oneOr]
   exact fail _ K2
  have r2 : rd S2 p 4 = some (.int .i64 m2) := by rw [rd_of_blk hb2]; rfl
  by_cases hm2 : m2 < least
  ·simp only [go_sem, seval, r2, hm2]
   refine ⟨e150, cK_of (ask150 f cs R hf p y1 y2 y3 m2 least false S2 hb2) ?_⟩
   rintro v S3 _ hL3 ⟨z1, z2, z3, m3, b3, rfl, hR3, hb3, k3⟩
   have K3 := K2.trans k3 fun _ _ h => h
   cases b3
   ·simp only [go_sem, seval]
    refine fin_at hQ rfl ?_; simp only [go_sem, seval, aF129]; rw [retQ_some]; simp only [oneOr]
    exact fail _ K3
   have c3 : cellsOf S3 p 1 3 = some [.int .i64 z1, .int .i64 z2, .int .i64 z3] := by rw [cellsOf_of_blk hb3]; rfl
   simp only [go_sem, seval, c3]
   refine fin_at hQ rfl ?_; simp only [go_sem, seval, aF129]; rw [retQ_some]; simp only [oneOr]
   exact ⟨⟨[z1, z2, z3], true, rfl, rfl, fun _ => ⟨_, _, hR, fun _ h => by omega⟩⟩, done K3⟩
  ·have c2 : cellsOf S2 p 1 3 = some [.int .i64 y1, .int .i64 y2, .int .i64 y3] := by rw [cellsOf_of_blk hb2]; rfl
   simp only [go_sem, seval, r2, hm2, c2]
   refine fin_at hQ rfl ?_; simp only [go_sem, seval, aF129]; rw [retQ_some]; simp only [oneOr]
   exact ⟨⟨[y1, y2, y3], true, rfl, rfl, fun _ => ⟨_, _, hR, fun _ h => by omega⟩⟩, done K2⟩
 ·by_cases hm2 : m < least
  ·simp only [go_sem, seval, r1, hm, hm2]
   refine ⟨e150, cK_of (ask150 f cs R hf p x1 x2 x3 m least false S1 hb1) ?_⟩
   rintro v S3 _ hL3 ⟨z1, z2, z3, m3, b3, rfl, hR3, hb3, k3⟩
   have K3 := K1.trans k3 fun _ _ h => h
   cases b3
   ·simp only [go_sem, seval]
    refine fin_at hQ rfl ?_; simp only [go_sem, seval, aF129]; rw [retQ_some]; simp only [oneOr]
    exact fail _ K3
   have c3 : cellsOf S3 p 1 3 = some [.int .i64 z1, .int .i64 z2, .int .i64 z3] := by rw [cellsOf_of_blk hb3]; rfl
   simp only [go_sem, seval, c3]
   refine fin_at hQ rfl ?_; simp only [go_sem, seval, aF129]; rw [retQ_some]; simp only [oneOr]
   exact ⟨⟨[z1, z2, z3], true, rfl, rfl, fun _ => ⟨_, _, hR, fun h _ => by omega⟩⟩, done K3⟩
  ·have c2 : cellsOf S1 p 1 3 = some [.int .i64 x1, .int .i64 x2, .int .i64 x3] := by rw [cellsOf_of_blk hb1]; rfl
   simp only [go_sem, seval, r1, hm, hm2, c2]
   refine fin_at hQ rfl ?_; simp only [go_sem, seval, aF129]; rw [retQ_some]; simp only [oneOr]
   exact ⟨⟨[x1, x2, x3], true, rfl, rfl, fun _ => ⟨_, _, hR, fun _ _ => rfl⟩⟩, done K1⟩
theorem ask163 (f : Nat) (cs : List Value) (R : Bool → Int → List Int → Int → Bool → Prop) (hf : IsSol f cs 5 R) (p : Nat) (y1 y2 y3 y4 y5 k n : Int) (a : Bool) (S : St) (hb : S.blk p = some ⟨false, [fnOf f cs, .int .i64 y1, .int .i64 y2, .int .i64 y3, .int .i64 y4, .int .i64 y5, .int .i64 k]⟩) :
  ACalls Tryz.prog 163 [ptr p, .agg #[.bool a, .int .i64 n]] S fun r S' => ∃ x1 x2 x3 x4 x5 m b, r = .bool b ∧ R a n [x1, x2, x3, x4, x5] m b ∧ S'.blk p = some ⟨false, [fnOf f cs, .int .i64 x1, .int .i64 x2, .int .i64 x3, .int .i64 x4, .int .i64 x5, .int .i64 m]⟩ ∧ Keeps S S' (· ≠ p) := by
 refine run_of hmix Tryz.func163 cF163 rfl fun hL Q hQ => ?_
 have hp := hL _ _ hb
 have hr : rd S p 0 = some (fnOf f cs) := by rw [rd_of_blk hb]; rfl
 simp only [go_sem, seval, aF163, hr, fnOf]
 refine ⟨hf.1, cK_of (hf.2 a n S) ?_⟩
 rintro v S1 _ hL1 ⟨⟨xs, m, b, rfl, hx, hR⟩, hk⟩
 obtain ⟨x1, x2, x3, x4, x5, rfl⟩ := len5 hx
 have hb1 : S1.blk p = some ⟨false, [fnOf f cs, .int .i64 y1, .int .i64 y2, .int .i64 y3, .int .i64 y4, .int .i64 y5, .int .i64 k]⟩ := by rw [hk.2 p hp trivial]; exact hb
 simp only [go_sem, seval, hb1, iV]
 refine fin_at hQ rfl ?_; simp only [go_sem, seval, aF163]; rw [retQ_some]; simp only [oneOr]
 refine ⟨x1, x2, x3, x4, x5, m, b, rfl, hR, by simp [St.blk_set], ?_⟩
 exact (hk.all.set (fun i _ h => h) _).set (fun i _ h => h) _
set_option maxHeartbeats 2000000 in
theorem bound138 (f : Nat) (cs : List Value) (R : Bool → Int → List Int → Int → Bool → Prop) (hf : IsSol f cs 5 R) (a : Bool) (n least most : Int) (S : St) :
  ACalls Tryz.prog 138 [fnOf f cs, .agg #[.bool a, .int .i64 n], .int .i64 least, .int .i64 most] S fun r S' => (∃ xs b, r = .tuple #[.agg (iV xs).toArray, .bool b] ∧ xs.length = 5 ∧ (b = true → ∃ ys m, R a n ys m true ∧ (least ≤ m → m ≤ most → xs = ys))) ∧ KeepsAll S S' := by
 refine run_of hmix Tryz.func138 cF138 rfl fun hL Q hQ => ?_
 have e163 : enters Tryz.prog 163 = true := by kernel_rfl
 simp only [go_sem, seval, aF138, fnOf]
 obtain ⟨p, hp⟩ : ∃ p, p = S.next := ⟨_, rfl⟩
 obtain ⟨S0, hS0⟩ : ∃ S0, S0 = S.new ⟨false, [fnOf f cs, .int .i64 0, .int .i64 0, .int .i64 0, .int .i64 0, .int .i64 0, .int .i64 0]⟩ := ⟨_, rfl⟩
 have hb0 : S0.blk p = some ⟨false, [fnOf f cs, .int .i64 0, .int .i64 0, .int .i64 0, .int .i64 0, .int .i64 0, .int .i64 0]⟩ := by rw [hS0, hp]; simp [St.blk_new]
 have k0 : Keeps S S0 (· ≠ p) := by rw [hS0]; exact Keeps.of_new _ _ _
 have done : ∀ {S' : St}, Keeps S S' (· ≠ p) → KeepsAll S S' := fun h => h.mono fun i hi _ => by omega
 unfold fnOf at hS0
 rw [← hS0, ← hp]
 have fail : ∀ (S' : St), Keeps S S' (· ≠ p) → (∃ xs b, Value.tuple #[.agg #[.int .i64 0, .int .i64 0, .int .i64 0, .int .i64 0, .int .i64 0], .bool false] = .tuple #[.agg (iV xs).toArray, .bool b] ∧ xs.length = 5 ∧ (b = true → ∃ ys m, R a n ys m true ∧ (least ≤ m → m ≤ most → xs = ys))) ∧ KeepsAll S S' := fun S' h => ⟨⟨[0, 0, 0, 0, 0], false, rfl, rfl, by simp⟩, done h⟩
 refine ⟨e163, cK_of (ask163 f cs R hf p 0 0 0 0 0 0 n a S0 hb0) ?_⟩
 rintro v S1 _ hL1 ⟨x1, x2, x3, x4, x5, m, b, rfl, hR, hb1, k1⟩
 have K1 := k0.trans k1 fun _ _ h => h
 cases b
 ·simp only [go_sem, seval]
  refine fin_at hQ rfl ?_; simp only [go_sem, seval, aF138]; rw [retQ_some]; simp only [oneOr]
  exact fail _ K1
 have r1 : rd S1 p 6 = some (.int .i64 m) := by rw [rd_of_blk hb1]; rfl
 by_cases hm : m > most
 ·simp only [go_sem, seval, r1, hm]
  refine ⟨e163, cK_of (ask163 f cs R hf p x1 x2 x3 x4 x5 m most false S1 hb1) ?_⟩
  rintro v S2 _ hL2 ⟨y1, y2, y3, y4, y5, m2, b2, rfl, hR2, hb2, k2⟩
  have K2 := K1.trans k2 fun _ _ h => h
  cases b2
  ·simp only [go_sem, seval]
   refine fin_at hQ rfl ?_; simp only [go_sem, seval, aF138]; rw [retQ_some]; simp only [oneOr]
   exact fail _ K2
  have r2 : rd S2 p 6 = some (.int .i64 m2) := by rw [rd_of_blk hb2]; rfl
  by_cases hm2 : m2 < least
  ·simp only [go_sem, seval, r2, hm2]
   refine ⟨e163, cK_of (ask163 f cs R hf p y1 y2 y3 y4 y5 m2 least false S2 hb2) ?_⟩
   rintro v S3 _ hL3 ⟨z1, z2, z3, z4, z5, m3, b3, rfl, hR3, hb3, k3⟩
   have K3 := K2.trans k3 fun _ _ h => h
   cases b3
   ·simp only [go_sem, seval]
    refine fin_at hQ rfl ?_; simp only [go_sem, seval, aF138]; rw [retQ_some]; simp only [oneOr]
    exact fail _ K3
   have c3 : cellsOf S3 p 1 5 = some [.int .i64 z1, .int .i64 z2, .int .i64 z3, .int .i64 z4, .int .i64 z5] := by rw [cellsOf_of_blk hb3]; rfl
   simp only [go_sem, seval, c3]
   refine fin_at hQ rfl ?_; simp only [go_sem, seval, aF138]; rw [retQ_some]; simp only [oneOr]
   exact ⟨⟨[z1, z2, z3, z4, z5], true, rfl, rfl, fun _ => ⟨_, _, hR, fun _ h => by omega⟩⟩, done K3⟩
  ·have c2 : cellsOf S2 p 1 5 = some [.int .i64 y1, .int .i64 y2, .int .i64 y3, .int .i64 y4, .int .i64 y5] := by rw [cellsOf_of_blk hb2]; rfl
   simp only [go_sem, seval, r2, hm2, c2]
   refine fin_at hQ rfl ?_; simp only [go_sem, seval, aF138]; rw [retQ_some]; simp only [oneOr]
   exact ⟨⟨[y1, y2, y3, y4, y5], true, rfl, rfl, fun _ => ⟨_, _, hR, fun _ h => by omega⟩⟩, done K2⟩
 ·by_cases hm2 : m < least
  ·simp only [go_sem, seval, r1, hm, hm2]
   refine ⟨e163, cK_of (ask163 f cs R hf p x1 x2 x3 x4 x5 m least false S1 hb1) ?_⟩
   rintro v S3 _ hL3 ⟨z1, z2, z3, z4, z5, m3, b3, rfl, hR3, hb3, k3⟩
   have K3 := K1.trans k3 fun _ _ h => h
   cases b3
   ·simp only [go_sem, seval]
    refine fin_at hQ rfl ?_; simp only [go_sem, seval, aF138]; rw [retQ_some]; simp only [oneOr]
    exact fail _ K3
   have c3 : cellsOf S3 p 1 5 = some [.int .i64 z1, .int .i64 z2, .int .i64 z3, .int .i64 z4, .int .i64 z5] := by rw [cellsOf_of_blk hb3]; rfl
   simp only [go_sem, seval, c3]
   refine fin_at hQ rfl ?_; simp only [go_sem, seval, aF138]; rw [retQ_some]; simp only [oneOr]
   exact ⟨⟨[z1, z2, z3, z4, z5], true, rfl, rfl, fun _ => ⟨_, _, hR, fun h _ => by omega⟩⟩, done K3⟩
  ·have c2 : cellsOf S1 p 1 5 = some [.int .i64 x1, .int .i64 x2, .int .i64 x3, .int .i64 x4, .int .i64 x5] := by rw [cellsOf_of_blk hb1]; rfl
   simp only [go_sem, seval, r1, hm, hm2, c2]
   refine fin_at hQ rfl ?_; simp only [go_sem, seval, aF138]; rw [retQ_some]; simp only [oneOr]
   exact ⟨⟨[x1, x2, x3, x4, x5], true, rfl, rfl, fun _ => ⟨_, _, hR, fun _ _ => rfl⟩⟩, done K1⟩
theorem ask167 (f : Nat) (cs : List Value) (R : Bool → Int → List Int → Int → Bool → Prop) (hf : IsSol f cs 5 R) (p : Nat) (y1 y2 y3 y4 y5 k n : Int) (a : Bool) (S : St) (hb : S.blk p = some ⟨false, [fnOf f cs, .int .i64 y1, .int .i64 y2, .int .i64 y3, .int .i64 y4, .int .i64 y5, .int .i64 k]⟩) :
  ACalls Tryz.prog 167 [ptr p, .agg #[.bool a, .int .i64 n]] S fun r S' => ∃ x1 x2 x3 x4 x5 m b, r = .bool b ∧ R a n [x1, x2, x3, x4, x5] m b ∧ S'.blk p = some ⟨false, [fnOf f cs, .int .i64 x1, .int .i64 x2, .int .i64 x3, .int .i64 x4, .int .i64 x5, .int .i64 m]⟩ ∧ Keeps S S' (· ≠ p) := by
 refine run_of hmix Tryz.func167 cF167 rfl fun hL Q hQ => ?_
 have hp := hL _ _ hb
 have hr : rd S p 0 = some (fnOf f cs) := by rw [rd_of_blk hb]; rfl
 simp only [go_sem, seval, aF167, hr, fnOf]
 refine ⟨hf.1, cK_of (hf.2 a n S) ?_⟩
 rintro v S1 _ hL1 ⟨⟨xs, m, b, rfl, hx, hR⟩, hk⟩
 obtain ⟨x1, x2, x3, x4, x5, rfl⟩ := len5 hx
 have hb1 : S1.blk p = some ⟨false, [fnOf f cs, .int .i64 y1, .int .i64 y2, .int .i64 y3, .int .i64 y4, .int .i64 y5, .int .i64 k]⟩ := by rw [hk.2 p hp trivial]; exact hb
 simp only [go_sem, seval, hb1, iV]
 refine fin_at hQ rfl ?_; simp only [go_sem, seval, aF167]; rw [retQ_some]; simp only [oneOr]
 refine ⟨x1, x2, x3, x4, x5, m, b, rfl, hR, by simp [St.blk_set], ?_⟩
 exact (hk.all.set (fun i _ h => h) _).set (fun i _ h => h) _
set_option maxHeartbeats 2000000 in
theorem bound144 (f : Nat) (cs : List Value) (R : Bool → Int → List Int → Int → Bool → Prop) (hf : IsSol f cs 5 R) (a : Bool) (n least most : Int) (S : St) :
  ACalls Tryz.prog 144 [fnOf f cs, .agg #[.bool a, .int .i64 n], .int .i64 least, .int .i64 most] S fun r S' => (∃ xs b, r = .tuple #[.agg (iV xs).toArray, .bool b] ∧ xs.length = 5 ∧ (b = true → ∃ ys m, R a n ys m true ∧ (least ≤ m → m ≤ most → xs = ys))) ∧ KeepsAll S S' := by
 refine run_of hmix Tryz.func144 cF144 rfl fun hL Q hQ => ?_
 have e167 : enters Tryz.prog 167 = true := by kernel_rfl
 simp only [go_sem, seval, aF144, fnOf]
 obtain ⟨p, hp⟩ : ∃ p, p = S.next := ⟨_, rfl⟩
 obtain ⟨S0, hS0⟩ : ∃ S0, S0 = S.new ⟨false, [fnOf f cs, .int .i64 0, .int .i64 0, .int .i64 0, .int .i64 0, .int .i64 0, .int .i64 0]⟩ := ⟨_, rfl⟩
 have hb0 : S0.blk p = some ⟨false, [fnOf f cs, .int .i64 0, .int .i64 0, .int .i64 0, .int .i64 0, .int .i64 0, .int .i64 0]⟩ := by rw [hS0, hp]; simp [St.blk_new]
 have k0 : Keeps S S0 (· ≠ p) := by rw [hS0]; exact Keeps.of_new _ _ _
 have done : ∀ {S' : St}, Keeps S S' (· ≠ p) → KeepsAll S S' := fun h => h.mono fun i hi _ => by omega
 unfold fnOf at hS0
 rw [← hS0, ← hp]
 have fail : ∀ (S' : St), Keeps S S' (· ≠ p) → (∃ xs b, Value.tuple #[.agg #[.int .i64 0, .int .i64 0, .int .i64 0, .int .i64 0, .int .i64 0], .bool false] = .tuple #[.agg (iV xs).toArray, .bool b] ∧ xs.length = 5 ∧ (b = true → ∃ ys m, R a n ys m true ∧ (least ≤ m → m ≤ most → xs = ys))) ∧ KeepsAll S S' := fun S' h => ⟨⟨[0, 0, 0, 0, 0], false, rfl, rfl, by simp⟩, done h⟩
 refine ⟨e167, cK_of (ask167 f cs R hf p 0 0 0 0 0 0 n a S0 hb0) ?_⟩
 rintro v S1 _ hL1 ⟨x1, x2, x3, x4, x5, m, b, rfl, hR, hb1, k1⟩
 have K1 := k0.trans k1 fun _ _ h => h
 cases b
 ·simp only [go_sem, seval]
  refine fin_at hQ rfl ?_; simp only [go_sem, seval, aF144]; rw [retQ_some]; simp only [oneOr]
  exact fail _ K1
 have r1 : rd S1 p 6 = some (.int .i64 m) := by rw [rd_of_blk hb1]; rfl
 by_cases hm : m > most
 ·simp only [go_sem, seval, r1, hm]
  refine ⟨e167, cK_of (ask167 f cs R hf p x1 x2 x3 x4 x5 m most false S1 hb1) ?_⟩
  rintro v S2 _ hL2 ⟨y1, y2, y3, y4, y5, m2, b2, rfl, hR2, hb2, k2⟩
  have K2 := K1.trans k2 fun _ _ h => h
  cases b2
  ·simp only [go_sem, seval]
   refine fin_at hQ rfl ?_; simp only [go_sem, seval, aF144]; rw [retQ_some]; simp only [oneOr]
   exact fail _ K2
  have r2 : rd S2 p 6 = some (.int .i64 m2) := by rw [rd_of_blk hb2]; rfl
  by_cases hm2 : m2 < least
  ·simp only [go_sem, seval, r2, hm2]
   refine ⟨e167, cK_of (ask167 f cs R hf p y1 y2 y3 y4 y5 m2 least false S2 hb2) ?_⟩
   rintro v S3 _ hL3 ⟨z1, z2, z3, z4, z5, m3, b3, rfl, hR3, hb3, k3⟩
   have K3 := K2.trans k3 fun _ _ h => h
   cases b3
   ·simp only [go_sem, seval]
    refine fin_at hQ rfl ?_; simp only [go_sem, seval, aF144]; rw [retQ_some]; simp only [oneOr]
    exact fail _ K3
   have c3 : cellsOf S3 p 1 5 = some [.int .i64 z1, .int .i64 z2, .int .i64 z3, .int .i64 z4, .int .i64 z5] := by rw [cellsOf_of_blk hb3]; rfl
   simp only [go_sem, seval, c3]
   refine fin_at hQ rfl ?_; simp only [go_sem, seval, aF144]; rw [retQ_some]; simp only [oneOr]
   exact ⟨⟨[z1, z2, z3, z4, z5], true, rfl, rfl, fun _ => ⟨_, _, hR, fun _ h => by omega⟩⟩, done K3⟩
  ·have c2 : cellsOf S2 p 1 5 = some [.int .i64 y1, .int .i64 y2, .int .i64 y3, .int .i64 y4, .int .i64 y5] := by rw [cellsOf_of_blk hb2]; rfl
   simp only [go_sem, seval, r2, hm2, c2]
   refine fin_at hQ rfl ?_; simp only [go_sem, seval, aF144]; rw [retQ_some]; simp only [oneOr]
   exact ⟨⟨[y1, y2, y3, y4, y5], true, rfl, rfl, fun _ => ⟨_, _, hR, fun _ h => by omega⟩⟩, done K2⟩
 ·by_cases hm2 : m < least
  ·simp only [go_sem, seval, r1, hm, hm2]
   refine ⟨e167, cK_of (ask167 f cs R hf p x1 x2 x3 x4 x5 m least false S1 hb1) ?_⟩
   rintro v S3 _ hL3 ⟨z1, z2, z3, z4, z5, m3, b3, rfl, hR3, hb3, k3⟩
   have K3 := K1.trans k3 fun _ _ h => h
   cases b3
   ·simp only [go_sem, seval]
    refine fin_at hQ rfl ?_; simp only [go_sem, seval, aF144]; rw [retQ_some]; simp only [oneOr]
    exact fail _ K3
   have c3 : cellsOf S3 p 1 5 = some [.int .i64 z1, .int .i64 z2, .int .i64 z3, .int .i64 z4, .int .i64 z5] := by rw [cellsOf_of_blk hb3]; rfl
   simp only [go_sem, seval, c3]
   refine fin_at hQ rfl ?_; simp only [go_sem, seval, aF144]; rw [retQ_some]; simp only [oneOr]
   exact ⟨⟨[z1, z2, z3, z4, z5], true, rfl, rfl, fun _ => ⟨_, _, hR, fun h _ => by omega⟩⟩, done K3⟩
  ·have c2 : cellsOf S1 p 1 5 = some [.int .i64 x1, .int .i64 x2, .int .i64 x3, .int .i64 x4, .int .i64 x5] := by rw [cellsOf_of_blk hb1]; rfl
   simp only [go_sem, seval, r1, hm, hm2, c2]
   refine fin_at hQ rfl ?_; simp only [go_sem, seval, aF144]; rw [retQ_some]; simp only [oneOr]
   exact ⟨⟨[x1, x2, x3, x4, x5], true, rfl, rfl, fun _ => ⟨_, _, hR, fun _ _ => rfl⟩⟩, done K1⟩
end Go.Proofs.YtegaklgjcicnfaaGreat
namespace Go.Proofs.YtegaklgjcicnfaaGreat
open Go Go.Proofs.YtegaklgjcicnfaaGreat.Abs
def or0 (a : Bool) (n : Int) : Int := if a = true then 0 else n
theorem or128' (a : Bool) (m : Int) (S : St) : ACalls Tryz.prog 128 [.agg #[.bool a, .int .i64 m], .int .i64 0] S fun r S' => r = .int .i64 (or0 a m) ∧ S' = S := or128 a m 0 S
/-- Both sides said, 0; nothing else; nothing around. -/
structure Hz (cs : List Value) : Prop where
 a : bg cs 1 = false
 an : ig cs 2 = 0
 ma : bg cs 3 = true
 w : bg cs 5 = true
 mb : bg cs 7 = true
 b : bg cs 9 = false
 bn : ig cs 10 = 0
 ar : ig cs 11 = 0
 lo : 0 ≤ ig cs 0
 hi : ig cs 0 ≤ 1099511627776
abbrev w64 (n : Int) : Int := IntKind.i64.wrap n
def restI (cs : List Value) (a b c d e : Int) : Int := w64 (w64 (w64 (w64 (w64 (w64 (ig cs 0 - ig cs 11) - a) - b) - c) - d) - e)
theorem Hz.rest {cs : List Value} (h : Hz cs) : restI cs 0 0 0 0 0 = ig cs 0 := by
 have e : w64 (ig cs 0) = ig cs 0 := wrap64_id (by have := h.lo; omega) (by have := h.hi; omega)
 unfold restI
 simp only [h.ar, Int.sub_zero, e]
def hangIn : List Bool := [true, false, true, false, true, false, true, false, true, false, true, true, true, true, true, false, false, true, true]
theorem start137 (cs : List Value) (a : Bool) (n : Int) (S : St) (h : Fl hangIn cs) : ACalls Tryz.prog 137 [.agg cs.toArray, .agg #[.bool a, .int .i64 n]] S fun r S' =>
  r = .agg #[.int .i64 (or0 (bg cs 1) (ig cs 2)), .int .i64 (or0 (bg cs 3) (ig cs 4)), .int .i64 (or0 a n), .int .i64 (or0 (bg cs 7) (ig cs 8)), .int .i64 (or0 (bg cs 9) (ig cs 10))] ∧ S' = S := by
 refine run_of hmix Tryz.func137 cF137 rfl fun hL Q hQ => ?_
 simp only [go_sem, seval, aF137, h.N 19, h.F 19, h.Z 1, h.Z 3, h.Z 7, h.Z 9]
 refine cK_of (or128' _ _ _) ?_
 rintro v S1 _ hL1 ⟨rfl, rfl⟩
 simp only [go_sem, seval]
 refine cK_of (or128' _ _ _) ?_
 rintro v S2 _ hL2 ⟨rfl, rfl⟩
 simp only [go_sem, seval]
 refine cK_of (or128' _ _ _) ?_
 rintro v S3 _ hL3 ⟨rfl, rfl⟩
 simp only [go_sem, seval]
 refine cK_of (or128' _ _ _) ?_
 rintro v S4 _ hL4 ⟨rfl, rfl⟩
 simp only [go_sem, seval]
 refine cK_of (or128' _ _ _) ?_
 rintro v S5 _ hL5 ⟨rfl, rfl⟩
 simp only [go_sem, seval]
 refine fin_at hQ rfl ?_; simp only [go_sem, seval, aF137]; rw [retQ_some]; simp only [oneOr]
 exact ⟨trivial, trivial⟩
theorem rest178 (cs : List Value) (a b c d e : Int) (S : St) (h : Fl hangIn cs) : ACalls Tryz.prog 178 [.agg cs.toArray, .agg #[.int .i64 a, .int .i64 b, .int .i64 c, .int .i64 d, .int .i64 e]] S fun r S' => r = .int .i64 (restI cs a b c d e) ∧ S' = S := by
 refine run_of hmix Tryz.func178 cF178 rfl fun hL Q hQ => ?_
 simp only [go_sem, seval, aF178, h.I 0, h.I 11]
 refine fin_at hQ rfl ?_; simp only [go_sem, seval, aF178]; rw [retQ_some]; simp only [oneOr]
 exact ⟨rfl, trivial⟩
/-- Five numbers. -/
def F5 (r : Value) : Prop := ∃ a b c d e : Int, r = .agg #[.int .i64 a, .int .i64 b, .int .i64 c, .int .i64 d, .int .i64 e]
theorem said165 (cs : List Value) (a b c d e : Int) (S : St) (h : Fl hangIn cs) : ACalls Tryz.prog 165 [.agg cs.toArray, .agg #[.int .i64 a, .int .i64 b, .int .i64 c, .int .i64 d, .int .i64 e]] S fun r S' => F5 r ∧ S' = S := by
 refine run_of hmix Tryz.func165 cF165 rfl fun hL Q hQ => ?_
 simp only [go_sem, seval, aF165, h.N 19, h.F 19]
 refine cK_of (rest178 cs a b c d e _ h) ?_
 rintro v S1 _ hL1 ⟨rfl, rfl⟩
 generalize restI cs a b c d e = r
 cases h1 : bg cs 3
 ·simp only [go_sem, seval, h.B 3, h1]
  cases h2 : bg cs 7
  ·simp only [go_sem, seval, h.B 3, h1, h.B 7, h2]
   cases h3 : bg cs 15
   ·simp only [go_sem, seval, h.B 3, h1, h.B 7, h2, h.B 15, h3]
    refine fin_at hQ rfl ?_; simp only [go_sem, seval, aF165]; rw [retQ_some]; simp only [oneOr]
    exact ⟨⟨_, _, _, _, _, rfl⟩, trivial⟩
   ·simp only [go_sem, seval, h.B 3, h1, h.B 7, h2, h.B 15, h3]
    refine fin_at hQ rfl ?_; simp only [go_sem, seval, aF165]; rw [retQ_some]; simp only [oneOr]
    exact ⟨⟨_, _, _, _, _, rfl⟩, trivial⟩
  ·simp only [go_sem, seval, h.B 3, h1, h.B 7, h2]
   refine fin_at hQ rfl ?_; simp only [go_sem, seval, aF165]; rw [retQ_some]; simp only [oneOr]
   exact ⟨⟨_, _, _, _, _, rfl⟩, trivial⟩
 ·simp only [go_sem, seval, h.B 3, h1]
  cases h2 : bg cs 7
  ·simp only [go_sem, seval, h.B 3, h1, h.B 7, h2]
   refine fin_at hQ rfl ?_; simp only [go_sem, seval, aF165]; rw [retQ_some]; simp only [oneOr]
   exact ⟨⟨_, _, _, _, _, rfl⟩, trivial⟩
  ·simp only [go_sem, seval, h.B 3, h1, h.B 7, h2]
   refine iK_split (fun hg => ?_) (fun hg => ?_)
   ·simp only [go_sem, seval]
    refine cK_of (half170 _ _) ?_
    rintro v S2 _ hL2 ⟨⟨m, rfl⟩, rfl⟩
    simp only [go_sem, seval]
    refine fin_at hQ rfl ?_; simp only [go_sem, seval, aF165]; rw [retQ_some]; simp only [oneOr]
    exact ⟨⟨_, _, _, _, _, rfl⟩, trivial⟩
   ·cases h3 : bg cs 15
    ·simp only [go_sem, seval, h.B 3, h1, h.B 7, h2, h.B 15, h3]
     refine fin_at hQ rfl ?_; simp only [go_sem, seval, aF165]; rw [retQ_some]; simp only [oneOr]
     exact ⟨⟨_, _, _, _, _, rfl⟩, trivial⟩
    ·simp only [go_sem, seval, h.B 3, h1, h.B 7, h2, h.B 15, h3]
     refine fin_at hQ rfl ?_; simp only [go_sem, seval, aF165]; rw [retQ_some]; simp only [oneOr]
     exact ⟨⟨_, _, _, _, _, rfl⟩, trivial⟩
theorem open164 (cs : List Value) (x : Bool) (n a b c d e : Int) (S : St) (h : Fl hangIn cs) : ACalls Tryz.prog 164 [.agg cs.toArray, .agg #[.bool x, .int .i64 n], .agg #[.int .i64 a, .int .i64 b, .int .i64 c, .int .i64 d, .int .i64 e]] S fun r S' =>
  (F5 r ∧ (x = true → bg cs 1 = false → bg cs 9 = false → r = .agg #[.int .i64 a, .int .i64 b, .int .i64 (restI cs a b c d e), .int .i64 d, .int .i64 e])) ∧ S' = S := by
 refine run_of hmix Tryz.func164 cF164 rfl fun hL Q hQ => ?_
 cases x <;> cases h1 : bg cs 1 <;> cases h9 : bg cs 9 <;> cases h16 : bg cs 16
 all_goals
  simp only [go_sem, seval, aF164, h.N 19, h.F 19, h.B 1, h.B 9, h.B 16, h1, h9, h16, h.I 12, h.I 13, h.I 14]
  refine cK_of (rest178 cs _ _ _ _ _ _ h) ?_
  rintro v S1 _ hL1 ⟨rfl, rfl⟩
  simp only [go_sem, seval]
  refine fin_at hQ rfl ?_; simp only [go_sem, seval, aF164]; rw [retQ_some]; simp only [oneOr]
  exact ⟨⟨⟨_, _, _, _, _, rfl⟩, fun q1 q2 q3 => by first | exact trivial | rfl | (cases q1; done) | (rw [h1] at q2; cases q2; done) | (rw [h9] at q3; cases q3; done)⟩, trivial⟩
def HR (cs : List Value) (a : Bool) (n : Int) (xs : List Int) (m : Int) (b : Bool) : Prop := Hz cs → a = true → b = true → xs = [0, 0, ig cs 0, 0, 0] ∧ m = ig cs 0
set_option maxHeartbeats 1000000 in
theorem solve139 (cs : List Value) (h : Fl hangIn cs) : IsSol 139 cs 5 (HR cs) := by
 refine ⟨by kernel_rfl, fun a n S => ?_⟩
 refine run_of hmix Tryz.func139 cF139 rfl fun hL Q hQ => ?_
 simp only [go_sem, seval, aF139, h.N 19, h.F 19]
 refine cK_of (start137 cs a n _ h) ?_
 rintro v S1 _ hL1 ⟨rfl, rfl⟩
 obtain ⟨o1, h1⟩ : ∃ o, o = or0 (bg cs 1) (ig cs 2) := ⟨_, rfl⟩
 obtain ⟨o2, h2⟩ : ∃ o, o = or0 (bg cs 3) (ig cs 4) := ⟨_, rfl⟩
 obtain ⟨o3, h3⟩ : ∃ o, o = or0 a n := ⟨_, rfl⟩
 obtain ⟨o4, h4⟩ : ∃ o, o = or0 (bg cs 7) (ig cs 8) := ⟨_, rfl⟩
 obtain ⟨o5, h5⟩ : ∃ o, o = or0 (bg cs 9) (ig cs 10) := ⟨_, rfl⟩
 rw [← h1, ← h2, ← h3, ← h4, ← h5]
 have fin : ∀ (x1 x2 x3 x4 x5 : Int), (Hz cs → a = true → x1 = 0 ∧ x2 = 0 ∧ x3 = ig cs 0 ∧ x4 = 0 ∧ x5 = 0) → ∀ S', KeepsAll S1 S' →
   (∃ xs m b, Value.tuple #[.agg #[.int .i64 x1, .int .i64 x2, .int .i64 x3, .int .i64 x4, .int .i64 x5], .int .i64 x3, .bool true] = .tuple #[.agg (iV xs).toArray, .int .i64 m, .bool b] ∧ xs.length = 5 ∧ HR cs a n xs m b) ∧ KeepsAll S1 S' := fun x1 x2 x3 x4 x5 hz S' hk =>
  ⟨⟨[x1, x2, x3, x4, x5], x3, true, rfl, rfl, fun hh ha _ => by obtain ⟨e1, e2, e3, e4, e5⟩ := hz hh ha; subst e1; subst e2; subst e4; subst e5; rw [e3]; exact ⟨rfl, rfl⟩⟩, hk⟩
 have bad : ∀ S', KeepsAll S1 S' → (∃ xs m b, Value.tuple #[.agg #[.int .i64 0, .int .i64 0, .int .i64 0, .int .i64 0, .int .i64 0], .int .i64 0, .bool false] = .tuple #[.agg (iV xs).toArray, .int .i64 m, .bool b] ∧ xs.length = 5 ∧ HR cs a n xs m b) ∧ KeepsAll S1 S' := fun S' hk =>
  ⟨⟨[0, 0, 0, 0, 0], 0, false, rfl, rfl, fun _ _ hb => by cases hb⟩, hk⟩
 by_cases hop : (a || (bg cs 1 || bg cs 9)) = true
 ·have hx : ∀ (P : Prop), (a = true → P) → (a = false → bg cs 1 = true → P) → (a = false → bg cs 1 = false → bg cs 9 = true → P) → P := fun P p q r => by
   cases ha : a
   ·cases hb : bg cs 1
    ·cases hc : bg cs 9
     ·rw [ha, hb, hc] at hop; cases hop
     ·exact r ha hb hc
    ·exact q ha hb
   ·exact p ha
  refine hx _ (fun ha => ?_) (fun ha hb => ?_) (fun ha hb hc => ?_)
  all_goals
   first
    | simp only [go_sem, seval, h.B 1, h.B 9, ha, hb, hc, h.N 19, h.F 19]
    | simp only [go_sem, seval, h.B 1, h.B 9, ha, hb, h.N 19, h.F 19]
    | simp only [go_sem, seval, h.B 1, h.B 9, ha, h.N 19, h.F 19]
   refine cK_of (open164 cs _ n o1 o2 o3 o4 o5 _ h) ?_
   rintro v S2 _ hL2 ⟨⟨⟨x1, x2, x3, x4, x5, rfl⟩, hr⟩, rfl⟩
   simp only [go_sem, seval]
   have hz : Hz cs → a = true → x1 = 0 ∧ x2 = 0 ∧ x3 = ig cs 0 ∧ x4 = 0 ∧ x5 = 0 := fun hh haa => by
    rw [ha] at haa
    first
     | (cases haa; done)
     | (have := hr rfl hh.a hh.b
        rw [h1, h2, h3, h4, h5, ha, hh.a, hh.an, hh.ma, hh.mb, hh.b, hh.bn] at this
        simp only [or0, if_true, Bool.false_eq_true, if_false, hh.rest] at this
        simp only [Value.agg.injEq, Array.mk.injEq, List.cons.injEq, Value.int.injEq, true_and, and_true] at this
        exact this)
   refine lK_of (fun t' S' => S' = S2.new ⟨false, iV [x1, x2, x3, x4, x5]⟩ ∧ ∃ j : Nat, j ≤ 5 ∧ Slots t' [(4, .agg #[.int .i64 0, .int .i64 0, .int .i64 0, .int .i64 0, .int .i64 0]), (5, .int .i64 0), (6, .bool false), (7, .agg #[.int .i64 x1, .int .i64 x2, .int .i64 x3, .int .i64 x4, .int .i64 x5]), (42, .slice (some ⟨S2.next, 0, none⟩) 5 1), (43, .int .i64 5), (44, .int .i64 j)]) (fun t' _ => 5 - (RowKit.intOf (t' 44)).toNat) ?_ ?_
   ·refine ⟨rfl, 0, by omega, ?_⟩
    simp only [go_sem, seval, Int.natCast_add, Int.natCast_succ, and_true]
   rintro t1 S1 Q1 ⟨rfl, j, hj, hs⟩ hL1 hN hE
   simp only [slots_cons, slots_nil] at hs
   by_cases hjn : ¬ j = 5
   ·have hlt : ((j : Int) < 5) := by omega
    have hj0 : (0 : Int) ≤ j := by omega
    have hw1 : IntKind.i64.wrap ((j : Int) + 1) = j + 1 := wrap64_id (by omega) (by omega)
    have hx := iV_at (xs := [x1, x2, x3, x4, x5]) (j := j) (by simp only [List.length_cons, List.length_nil]; omega)
    simp only [go_sem, seval, hs, hlt, hj0, Int.toNat_natCast, Nat.mul_one, hx]
    refine cK_of (fits107 _ _) ?_
    rintro v S2 _ hL2 ⟨rfl, rfl⟩
    generalize fitB _ = c
    cases c
    ·simp only [go_sem, seval, hs]
     refine hE _ _ _ (by simp) ?_
     simp only [go_sem, seval, hs]
     refine fin_at hQ rfl ?_; simp only [go_sem, seval, aF139, hs]; rw [retQ_some]; simp only [oneOr]
     exact bad _ (Keeps.of_new _ _ _)
    ·simp only [go_sem, seval, hs, hw1]
     refine hN _ _ ⟨rfl, j + 1, by omega, ?_⟩ ?_
     ·simp only [go_sem, seval, Int.natCast_add, Int.natCast_succ, hs]
     ·simp only [go_sem, seval, hs]
      simp [RowKit.intOf]
      omega
   have hjn := Classical.not_not.1 hjn
   subst hjn
   simp only [go_sem, seval, hs, show ¬ (((5 : Nat) : Int) < 5) by omega]
   refine hE _ _ _ (by simp) ?_
   simp only [go_sem, seval, hs]
   refine fin_at hQ rfl ?_; simp only [go_sem, seval, aF139, hs]; rw [retQ_some]; simp only [oneOr]
   exact fin x1 x2 x3 x4 x5 hz _ (Keeps.of_new _ _ _)
 ·simp only [Bool.or_eq_true, not_or, Bool.not_eq_true] at hop
  obtain ⟨ha, hb, hc⟩ := hop
  simp only [go_sem, seval, h.B 1, h.B 9, ha, hb, hc, h.N 19, h.F 19]
  refine cK_of (said165 cs o1 o2 o3 o4 o5 _ h) ?_
  rintro v S2 _ hL2 ⟨⟨x1, x2, x3, x4, x5, rfl⟩, rfl⟩
  simp only [go_sem, seval]
  refine lK_of (fun t' S' => S' = S2.new ⟨false, iV [x1, x2, x3, x4, x5]⟩ ∧ ∃ j : Nat, j ≤ 5 ∧ Slots t' [(4, .agg #[.int .i64 0, .int .i64 0, .int .i64 0, .int .i64 0, .int .i64 0]), (5, .int .i64 0), (6, .bool false), (7, .agg #[.int .i64 x1, .int .i64 x2, .int .i64 x3, .int .i64 x4, .int .i64 x5]), (42, .slice (some ⟨S2.next, 0, none⟩) 5 1), (43, .int .i64 5), (44, .int .i64 j)]) (fun t' _ => 5 - (RowKit.intOf (t' 44)).toNat) ?_ ?_
  ·refine ⟨rfl, 0, by omega, ?_⟩
   simp only [go_sem, seval, Int.natCast_add, Int.natCast_succ, and_true]
  rintro t1 S1 Q1 ⟨rfl, j, hj, hs⟩ hL1 hN hE
  simp only [slots_cons, slots_nil] at hs
  by_cases hjn : ¬ j = 5
  ·have hlt : ((j : Int) < 5) := by omega
   have hj0 : (0 : Int) ≤ j := by omega
   have hw1 : IntKind.i64.wrap ((j : Int) + 1) = j + 1 := wrap64_id (by omega) (by omega)
   have hx := iV_at (xs := [x1, x2, x3, x4, x5]) (j := j) (by simp only [List.length_cons, List.length_nil]; omega)
   simp only [go_sem, seval, hs, hlt, hj0, Int.toNat_natCast, Nat.mul_one, hx]
   refine cK_of (fits107 _ _) ?_
   rintro v S2 _ hL2 ⟨rfl, rfl⟩
   generalize fitB _ = c
   cases c
   ·simp only [go_sem, seval, hs]
    refine hE _ _ _ (by simp) ?_
    simp only [go_sem, seval, hs]
    refine fin_at hQ rfl ?_; simp only [go_sem, seval, aF139, hs]; rw [retQ_some]; simp only [oneOr]
    exact bad _ (Keeps.of_new _ _ _)
   ·simp only [go_sem, seval, hs, hw1]
    refine hN _ _ ⟨rfl, j + 1, by omega, ?_⟩ ?_
    ·simp only [go_sem, seval, Int.natCast_add, Int.natCast_succ, hs]
    ·simp only [go_sem, seval, hs]
     simp [RowKit.intOf]
     omega
  have hjn := Classical.not_not.1 hjn
  subst hjn
  simp only [go_sem, seval, hs, show ¬ (((5 : Nat) : Int) < 5) by omega]
  refine hE _ _ _ (by simp) ?_
  simp only [go_sem, seval, hs]
  refine fin_at hQ rfl ?_; simp only [go_sem, seval, aF139, hs]; rw [retQ_some]; simp only [oneOr]
  exact fin x1 x2 x3 x4 x5 (fun _ haa => by rw [ha] at haa; cases haa) _ (Keeps.of_new _ _ _)
/-- What a solver of five answers. -/
def OutP (cs : List Value) (l m : Nat) (S : St) (r : Value) (S' : St) : Prop :=
 (∃ xs b, r = .tuple #[.agg (iV xs).toArray, .bool b] ∧ xs.length = 5 ∧ (Hz cs → ig cs l = 0 → ig cs m = 1125899906842624 → b = true → xs = [0, 0, ig cs 0, 0, 0])) ∧ KeepsAll S S'
set_option maxHeartbeats 1000000 in
theorem hang115 (cs : List Value) (S : St) (h : Fl hangIn cs) : ACalls Tryz.prog 115 [.agg cs.toArray] S (OutP cs 17 18 S) := by
 refine run_of hmix Tryz.func115 cF115 rfl fun hL Q hQ => ?_
 simp only [go_sem, seval, aF115, h.N 19, h.F 19, h.Z 5]
 refine cK_of (start137 cs _ _ _ h) ?_
 rintro v S1 _ hL1 ⟨rfl, rfl⟩
 generalize or0 (bg cs 1) (ig cs 2) = o1
 generalize or0 (bg cs 3) (ig cs 4) = o2
 generalize or0 (bg cs 5) (ig cs (5 + 1)) = o3
 generalize or0 (bg cs 7) (ig cs 8) = o4
 generalize or0 (bg cs 9) (ig cs 10) = o5
 have bad : ∀ S', KeepsAll S1 S' → OutP cs 17 18 S1 (.tuple #[.agg #[.int .i64 0, .int .i64 0, .int .i64 0, .int .i64 0, .int .i64 0], .bool false]) S' := fun S' hk => ⟨⟨[0, 0, 0, 0, 0], false, rfl, rfl, fun _ _ _ hb => by cases hb⟩, hk⟩
 simp only [go_sem, seval, h.I 0, h.I 11, h.I 12, h.I 13, h.I 14]
 refine lK_of (fun t' S' => S' = S1.new ⟨false, iV [ig cs 0, ig cs 11, ig cs 12, ig cs 13, ig cs 14, o1, o2, o3, o4, o5]⟩ ∧ ∃ j : Nat, j ≤ 10 ∧ Slots t' [(1, .agg cs.toArray), (2, .agg #[.int .i64 0, .int .i64 0, .int .i64 0, .int .i64 0, .int .i64 0]), (3, .bool false), (31, .slice (some ⟨S1.next, 0, none⟩) 10 1), (32, .int .i64 10), (33, .int .i64 j)]) (fun t' _ => 10 - (RowKit.intOf (t' 33)).toNat) ?_ ?_
 ·refine ⟨rfl, 0, by omega, ?_⟩
  simp only [go_sem, seval, Int.natCast_add, Int.natCast_succ, and_true]
 rintro t1 S1 Q1 ⟨rfl, j, hj, hs⟩ hL1 hN hE
 simp only [slots_cons, slots_nil] at hs
 by_cases hjn : ¬ j = 10
 ·have hlt : ((j : Int) < 10) := by omega
  have hj0 : (0 : Int) ≤ j := by omega
  have hw1 : IntKind.i64.wrap ((j : Int) + 1) = j + 1 := wrap64_id (by omega) (by omega)
  have hx := iV_at (xs := [ig cs 0, ig cs 11, ig cs 12, ig cs 13, ig cs 14, o1, o2, o3, o4, o5]) (j := j) (by simp only [List.length_cons, List.length_nil]; omega)
  simp only [go_sem, seval, hs, hlt, hj0, Int.toNat_natCast, Nat.mul_one, hx]
  refine cK_of (fits107 _ _) ?_
  rintro v S2 _ hL2 ⟨rfl, rfl⟩
  generalize fitB _ = c
  cases c
  ·simp only [go_sem, seval, hs]
   refine hE _ _ _ (by simp) ?_
   simp only [go_sem, seval, hs]
   refine fin_at hQ rfl ?_; simp only [go_sem, seval, aF115, hs]; rw [retQ_some]; simp only [oneOr]
   exact bad _ (Keeps.of_new _ _ _)
  ·simp only [go_sem, seval, hs, hw1]
   refine hN _ _ ⟨rfl, j + 1, by omega, ?_⟩ ?_
   ·simp only [go_sem, seval, Int.natCast_add, Int.natCast_succ, hs]
   ·simp only [go_sem, seval, hs]
    simp [RowKit.intOf]
    omega
 have hjn := Classical.not_not.1 hjn
 subst hjn
 simp only [go_sem, seval, hs, show ¬ (((10 : Nat) : Int) < 10) by omega]
 refine hE _ _ _ (by simp) ?_
 simp only [go_sem, seval, hs, h.N 19, h.F 19, h.Z 5, h.I 17, h.I 18]
 refine cK_of (bound138 139 cs (HR cs) (solve139 cs h) _ _ _ _ _) ?_
 rintro v S3 _ hL3 ⟨⟨xs, b, rfl, hx, hb⟩, hk⟩
 obtain ⟨x1, x2, x3, x4, x5, rfl⟩ := len5 hx
 simp only [go_sem, seval, iV, hs]
 refine fin_at hQ rfl ?_; simp only [go_sem, seval, aF115, hs]; rw [retQ_some]; simp only [oneOr]
 refine ⟨⟨[x1, x2, x3, x4, x5], b, rfl, rfl, fun hz hl hm hbt => ?_⟩, (Keeps.of_new _ _ _).trans hk fun _ _ _ => trivial⟩
 obtain ⟨ys, m, hR, he⟩ := hb hbt
 obtain ⟨rfl, rfl⟩ := hR hz hz.w rfl
 exact he (by rw [hl]; exact hz.lo) (by rw [hm]; have := hz.hi; omega)
end Go.Proofs.YtegaklgjcicnfaaGreat
namespace Go.Proofs.YtegaklgjcicnfaaGreat
open Go Go.Proofs.YtegaklgjcicnfaaGreat.Abs
def dropIn : List Bool := [true, false, true, false, true, false, true, false, true, false, true, true, true, true, true, true]
theorem start143 (cs : List Value) (a : Bool) (n : Int) (S : St) (h : Fl dropIn cs) : ACalls Tryz.prog 143 [.agg cs.toArray, .agg #[.bool a, .int .i64 n]] S fun r S' =>
  r = .agg #[.int .i64 (or0 (bg cs 1) (ig cs 2)), .int .i64 (or0 (bg cs 3) (ig cs 4)), .int .i64 (or0 a n), .int .i64 (or0 (bg cs 7) (ig cs 8)), .int .i64 (or0 (bg cs 9) (ig cs 10))] ∧ S' = S := by
 refine run_of hmix Tryz.func143 cF143 rfl fun hL Q hQ => ?_
 simp only [go_sem, seval, aF143, h.N 16, h.F 16, h.Z 1, h.Z 3, h.Z 7, h.Z 9]
 refine cK_of (or128' _ _ _) ?_
 rintro v S1 _ hL1 ⟨rfl, rfl⟩
 simp only [go_sem, seval]
 refine cK_of (or128' _ _ _) ?_
 rintro v S2 _ hL2 ⟨rfl, rfl⟩
 simp only [go_sem, seval]
 refine cK_of (or128' _ _ _) ?_
 rintro v S3 _ hL3 ⟨rfl, rfl⟩
 simp only [go_sem, seval]
 refine cK_of (or128' _ _ _) ?_
 rintro v S4 _ hL4 ⟨rfl, rfl⟩
 simp only [go_sem, seval]
 refine cK_of (or128' _ _ _) ?_
 rintro v S5 _ hL5 ⟨rfl, rfl⟩
 simp only [go_sem, seval]
 refine fin_at hQ rfl ?_; simp only [go_sem, seval, aF143]; rw [retQ_some]; simp only [oneOr]
 exact ⟨trivial, trivial⟩
theorem rest169 (cs : List Value) (a b c d e : Int) (S : St) (h : Fl dropIn cs) : ACalls Tryz.prog 169 [.agg cs.toArray, .agg #[.int .i64 a, .int .i64 b, .int .i64 c, .int .i64 d, .int .i64 e]] S fun r S' => r = .int .i64 (restI cs a b c d e) ∧ S' = S := by
 refine run_of hmix Tryz.func169 cF169 rfl fun hL Q hQ => ?_
 simp only [go_sem, seval, aF169, h.I 0, h.I 11]
 refine fin_at hQ rfl ?_; simp only [go_sem, seval, aF169]; rw [retQ_some]; simp only [oneOr]
 exact ⟨rfl, trivial⟩
theorem said168 (cs : List Value) (a b c d e : Int) (S : St) (h : Fl dropIn cs) : ACalls Tryz.prog 168 [.agg cs.toArray, .agg #[.int .i64 a, .int .i64 b, .int .i64 c, .int .i64 d, .int .i64 e]] S fun r S' => F5 r ∧ S' = S := by
 refine run_of hmix Tryz.func168 cF168 rfl fun hL Q hQ => ?_
 simp only [go_sem, seval, aF168, h.N 16, h.F 16]
 refine cK_of (rest169 cs a b c d e _ h) ?_
 rintro v S1 _ hL1 ⟨rfl, rfl⟩
 generalize restI cs a b c d e = r
 cases h1 : bg cs 3 <;> cases h2 : bg cs 7
 all_goals
  simp only [go_sem, seval, h.B 3, h1, h.B 7, h2]
  first
   | (refine fin_at hQ rfl ?_; simp only [go_sem, seval, aF168]; rw [retQ_some]; simp only [oneOr]
      exact ⟨⟨_, _, _, _, _, rfl⟩, trivial⟩)
   | (refine cK_of (half170 _ _) ?_
      rintro v S2 _ hL2 ⟨⟨m, rfl⟩, rfl⟩
      simp only [go_sem, seval, h.B 3, h1, h.B 7, h2]
      refine fin_at hQ rfl ?_; simp only [go_sem, seval, aF168]; rw [retQ_some]; simp only [oneOr]
      exact ⟨⟨_, _, _, _, _, rfl⟩, trivial⟩)
theorem known117 (a b c : Bool) (l m n : Int) (S : St) : ACalls Tryz.prog 117 [.agg #[.bool a, .int .i64 l], .agg #[.bool b, .int .i64 m], .agg #[.bool c, .int .i64 n]] S fun r S' => r = .bool (!b || (!a && !c)) ∧ S' = S := by
 refine run_of hmix Tryz.func117 cF117 rfl fun hL Q hQ => ?_
 cases a <;> cases b <;> cases c
 all_goals
  simp only [go_sem, seval, aF117]
  refine fin_at hQ rfl ?_; simp only [go_sem, seval, aF117]; rw [retQ_some]; simp only [oneOr]
  exact ⟨trivial, trivial⟩
set_option maxHeartbeats 2000000 in
theorem solve145 (cs : List Value) (h : Fl dropIn cs) : IsSol 145 cs 5 (HR cs) := by
 refine ⟨by kernel_rfl, fun a n S => ?_⟩
 refine run_of hmix Tryz.func145 cF145 rfl fun hL Q hQ => ?_
 simp only [go_sem, seval, aF145, h.N 16, h.F 16]
 refine cK_of (start143 cs a n _ h) ?_
 rintro v S1 _ hL1 ⟨rfl, rfl⟩
 obtain ⟨o1, h1⟩ : ∃ o, o = or0 (bg cs 1) (ig cs 2) := ⟨_, rfl⟩
 obtain ⟨o2, h2⟩ : ∃ o, o = or0 (bg cs 3) (ig cs 4) := ⟨_, rfl⟩
 obtain ⟨o3, h3⟩ : ∃ o, o = or0 a n := ⟨_, rfl⟩
 obtain ⟨o4, h4⟩ : ∃ o, o = or0 (bg cs 7) (ig cs 8) := ⟨_, rfl⟩
 obtain ⟨o5, h5⟩ : ∃ o, o = or0 (bg cs 9) (ig cs 10) := ⟨_, rfl⟩
 rw [← h1, ← h2, ← h3, ← h4, ← h5]
 have fin : ∀ (x1 x2 x3 x4 x5 : Int), (Hz cs → a = true → x1 = 0 ∧ x2 = 0 ∧ x3 = ig cs 0 ∧ x4 = 0 ∧ x5 = 0) → ∀ S', KeepsAll S1 S' →
   (∃ xs m b, Value.tuple #[.agg #[.int .i64 x1, .int .i64 x2, .int .i64 x3, .int .i64 x4, .int .i64 x5], .int .i64 x3, .bool true] = .tuple #[.agg (iV xs).toArray, .int .i64 m, .bool b] ∧ xs.length = 5 ∧ HR cs a n xs m b) ∧ KeepsAll S1 S' := fun x1 x2 x3 x4 x5 hz S' hk =>
  ⟨⟨[x1, x2, x3, x4, x5], x3, true, rfl, rfl, fun hh ha _ => by obtain ⟨e1, e2, e3, e4, e5⟩ := hz hh ha; subst e1; subst e2; subst e4; subst e5; rw [e3]; exact ⟨rfl, rfl⟩⟩, hk⟩
 have bad : ∀ S', KeepsAll S1 S' → (∃ xs m b, Value.tuple #[.agg #[.int .i64 0, .int .i64 0, .int .i64 0, .int .i64 0, .int .i64 0], .int .i64 0, .bool false] = .tuple #[.agg (iV xs).toArray, .int .i64 m, .bool b] ∧ xs.length = 5 ∧ HR cs a n xs m b) ∧ KeepsAll S1 S' := fun S' hk =>
  ⟨⟨[0, 0, 0, 0, 0], 0, false, rfl, rfl, fun _ _ hb => by cases hb⟩, hk⟩
 have notHz : ∀ {x1 x2 x3 x4 x5 : Int}, (bg cs 1 = true ∨ bg cs 9 = true ∨ a = false) → Hz cs → a = true → x1 = 0 ∧ x2 = 0 ∧ x3 = ig cs 0 ∧ x4 = 0 ∧ x5 = 0 := fun hh hz ha => by
  rcases hh with e | e | e
  ·rw [hz.a] at e; cases e
  ·rw [hz.b] at e; cases e
  ·rw [ha] at e; cases e
 have i12 := h.I 12
 have i13 := h.I 13
 generalize ig cs 12 = W at i12
 generalize ig cs 13 = T at i13
 cases a <;> cases b1 : bg cs 1 <;> cases b9 : bg cs 9
 ·simp only [go_sem, seval, h.B 1, h.B 9, b1, b9, h.Z 1, h.Z 9, h.N 16, h.F 16, i12, i13]
  refine cK_of (said168 cs _ _ _ _ _ _ h) ?_
  rintro v S2 _ hL2 ⟨⟨x1, x2, x3, x4, x5, rfl⟩, rfl⟩
  simp only [go_sem, seval]
  refine lK_of (fun t' S' => S' = S2.new ⟨false, iV [x1, x2, x3, x4, x5]⟩ ∧ ∃ j : Nat, j ≤ 5 ∧ Slots t' [(4, .agg #[.int .i64 0, .int .i64 0, .int .i64 0, .int .i64 0, .int .i64 0]), (5, .int .i64 0), (6, .bool false), (7, .agg #[.int .i64 x1, .int .i64 x2, .int .i64 x3, .int .i64 x4, .int .i64 x5]), (95, .slice (some ⟨S2.next, 0, none⟩) 5 1), (96, .int .i64 5), (97, .int .i64 j)]) (fun t' _ => 5 - (RowKit.intOf (t' 97)).toNat) ?_ ?_
  ·refine ⟨rfl, 0, by omega, ?_⟩
   simp only [go_sem, seval, Int.natCast_add, Int.natCast_succ, and_true]
  rintro t1 S1 Q1 ⟨rfl, j, hj, hs⟩ hL1 hN hE
  simp only [slots_cons, slots_nil] at hs
  by_cases hjn : ¬ j = 5
  ·have hlt : ((j : Int) < 5) := by omega
   have hj0 : (0 : Int) ≤ j := by omega
   have hw1 : IntKind.i64.wrap ((j : Int) + 1) = j + 1 := wrap64_id (by omega) (by omega)
   have hx := iV_at (xs := [x1, x2, x3, x4, x5]) (j := j) (by simp only [List.length_cons, List.length_nil]; omega)
   simp only [go_sem, seval, hs, hlt, hj0, Int.toNat_natCast, Nat.mul_one, hx]
   refine cK_of (fits107 _ _) ?_
   rintro v S2 _ hL2 ⟨rfl, rfl⟩
   generalize fitB _ = c
   cases c
   ·simp only [go_sem, seval, hs]
    refine hE _ _ _ (by simp) ?_
    simp only [go_sem, seval, hs]
    refine fin_at hQ rfl ?_; simp only [go_sem, seval, aF145, hs]; rw [retQ_some]; simp only [oneOr]
    exact bad _ (Keeps.of_new _ _ _)
   ·simp only [go_sem, seval, hs, hw1]
    refine hN _ _ ⟨rfl, j + 1, by omega, ?_⟩ ?_
    ·simp only [go_sem, seval, Int.natCast_add, Int.natCast_succ, hs]
    ·simp only [go_sem, seval, hs]
     simp [RowKit.intOf]
     omega
  have hjn := Classical.not_not.1 hjn
  subst hjn
  simp only [go_sem, seval, hs, show ¬ (((5 : Nat) : Int) < 5) by omega]
  refine hE _ _ _ (by simp) ?_
  simp only [go_sem, seval, hs]
  refine fin_at hQ rfl ?_; simp only [go_sem, seval, aF145, hs]; rw [retQ_some]; simp only [oneOr]
  exact fin x1 x2 x3 x4 x5 (notHz (.inr (.inr rfl))) _ (Keeps.of_new _ _ _)
 ·simp only [go_sem, seval, h.B 1, h.B 9, b1, b9, h.Z 1, h.Z 9, h.N 16, h.F 16, i12, i13]
  refine cK_of (rest169 cs _ _ _ _ _ _ h) ?_
  rintro v S2 _ hL2 ⟨rfl, rfl⟩
  obtain ⟨r, hr⟩ : ∃ r, r = restI cs o1 o2 o3 o4 o5 := ⟨_, rfl⟩
  rw [← hr]
  simp only [go_sem, seval]
  refine lK_of (fun t' S' => S' = S2.new ⟨false, iV [o1, o2, o3, o4, r]⟩ ∧ ∃ j : Nat, j ≤ 5 ∧ Slots t' [(4, .agg #[.int .i64 0, .int .i64 0, .int .i64 0, .int .i64 0, .int .i64 0]), (5, .int .i64 0), (6, .bool false), (7, .agg #[.int .i64 o1, .int .i64 o2, .int .i64 o3, .int .i64 o4, .int .i64 r]), (95, .slice (some ⟨S2.next, 0, none⟩) 5 1), (96, .int .i64 5), (97, .int .i64 j)]) (fun t' _ => 5 - (RowKit.intOf (t' 97)).toNat) ?_ ?_
  ·refine ⟨rfl, 0, by omega, ?_⟩
   simp only [go_sem, seval, Int.natCast_add, Int.natCast_succ, and_true]
  rintro t1 S1 Q1 ⟨rfl, j, hj, hs⟩ hL1 hN hE
  simp only [slots_cons, slots_nil] at hs
  by_cases hjn : ¬ j = 5
  ·have hlt : ((j : Int) < 5) := by omega
   have hj0 : (0 : Int) ≤ j := by omega
   have hw1 : IntKind.i64.wrap ((j : Int) + 1) = j + 1 := wrap64_id (by omega) (by omega)
   have hx := iV_at (xs := [o1, o2, o3, o4, r]) (j := j) (by simp only [List.length_cons, List.length_nil]; omega)
   simp only [go_sem, seval, hs, hlt, hj0, Int.toNat_natCast, Nat.mul_one, hx]
   refine cK_of (fits107 _ _) ?_
   rintro v S2 _ hL2 ⟨rfl, rfl⟩
   generalize fitB _ = c
   cases c
   ·simp only [go_sem, seval, hs]
    refine hE _ _ _ (by simp) ?_
    simp only [go_sem, seval, hs]
    refine fin_at hQ rfl ?_; simp only [go_sem, seval, aF145, hs]; rw [retQ_some]; simp only [oneOr]
    exact bad _ (Keeps.of_new _ _ _)
   ·simp only [go_sem, seval, hs, hw1]
    refine hN _ _ ⟨rfl, j + 1, by omega, ?_⟩ ?_
    ·simp only [go_sem, seval, Int.natCast_add, Int.natCast_succ, hs]
    ·simp only [go_sem, seval, hs]
     simp [RowKit.intOf]
     omega
  have hjn := Classical.not_not.1 hjn
  subst hjn
  simp only [go_sem, seval, hs, show ¬ (((5 : Nat) : Int) < 5) by omega]
  refine hE _ _ _ (by simp) ?_
  simp only [go_sem, seval, hs]
  refine fin_at hQ rfl ?_; simp only [go_sem, seval, aF145, hs]; rw [retQ_some]; simp only [oneOr]
  exact fin o1 o2 o3 o4 r (notHz (.inr (.inl b9))) _ (Keeps.of_new _ _ _)
 ·simp only [go_sem, seval, h.B 1, h.B 9, b1, b9, h.Z 1, h.Z 9, h.N 16, h.F 16, i12, i13]
  refine cK_of (rest169 cs _ _ _ _ _ _ h) ?_
  rintro v S2 _ hL2 ⟨rfl, rfl⟩
  obtain ⟨r, hr⟩ : ∃ r, r = restI cs o1 o2 o3 o4 o5 := ⟨_, rfl⟩
  rw [← hr]
  simp only [go_sem, seval]
  refine lK_of (fun t' S' => S' = S2.new ⟨false, iV [r, o2, o3, o4, o5]⟩ ∧ ∃ j : Nat, j ≤ 5 ∧ Slots t' [(4, .agg #[.int .i64 0, .int .i64 0, .int .i64 0, .int .i64 0, .int .i64 0]), (5, .int .i64 0), (6, .bool false), (7, .agg #[.int .i64 r, .int .i64 o2, .int .i64 o3, .int .i64 o4, .int .i64 o5]), (95, .slice (some ⟨S2.next, 0, none⟩) 5 1), (96, .int .i64 5), (97, .int .i64 j)]) (fun t' _ => 5 - (RowKit.intOf (t' 97)).toNat) ?_ ?_
  ·refine ⟨rfl, 0, by omega, ?_⟩
   simp only [go_sem, seval, Int.natCast_add, Int.natCast_succ, and_true]
  rintro t1 S1 Q1 ⟨rfl, j, hj, hs⟩ hL1 hN hE
  simp only [slots_cons, slots_nil] at hs
  by_cases hjn : ¬ j = 5
  ·have hlt : ((j : Int) < 5) := by omega
   have hj0 : (0 : Int) ≤ j := by omega
   have hw1 : IntKind.i64.wrap ((j : Int) + 1) = j + 1 := wrap64_id (by omega) (by omega)
   have hx := iV_at (xs := [r, o2, o3, o4, o5]) (j := j) (by simp only [List.length_cons, List.length_nil]; omega)
   simp only [go_sem, seval, hs, hlt, hj0, Int.toNat_natCast, Nat.mul_one, hx]
   refine cK_of (fits107 _ _) ?_
   rintro v S2 _ hL2 ⟨rfl, rfl⟩
   generalize fitB _ = c
   cases c
   ·simp only [go_sem, seval, hs]
    refine hE _ _ _ (by simp) ?_
    simp only [go_sem, seval, hs]
    refine fin_at hQ rfl ?_; simp only [go_sem, seval, aF145, hs]; rw [retQ_some]; simp only [oneOr]
    exact bad _ (Keeps.of_new _ _ _)
   ·simp only [go_sem, seval, hs, hw1]
    refine hN _ _ ⟨rfl, j + 1, by omega, ?_⟩ ?_
    ·simp only [go_sem, seval, Int.natCast_add, Int.natCast_succ, hs]
    ·simp only [go_sem, seval, hs]
     simp [RowKit.intOf]
     omega
  have hjn := Classical.not_not.1 hjn
  subst hjn
  simp only [go_sem, seval, hs, show ¬ (((5 : Nat) : Int) < 5) by omega]
  refine hE _ _ _ (by simp) ?_
  simp only [go_sem, seval, hs]
  refine fin_at hQ rfl ?_; simp only [go_sem, seval, aF145, hs]; rw [retQ_some]; simp only [oneOr]
  exact fin r o2 o3 o4 o5 (notHz (.inl b1)) _ (Keeps.of_new _ _ _)
 ·simp only [go_sem, seval, h.B 1, h.B 9, b1, b9, h.Z 1, h.Z 9, h.N 16, h.F 16, i12, i13]
  refine cK_of (rest169 cs _ _ _ _ _ _ h) ?_
  rintro v S2 _ hL2 ⟨rfl, rfl⟩
  obtain ⟨r, hr⟩ : ∃ r, r = restI cs T o2 o3 o4 o5 := ⟨_, rfl⟩
  rw [← hr]
  simp only [go_sem, seval]
  refine lK_of (fun t' S' => S' = S2.new ⟨false, iV [T, o2, o3, o4, r]⟩ ∧ ∃ j : Nat, j ≤ 5 ∧ Slots t' [(4, .agg #[.int .i64 0, .int .i64 0, .int .i64 0, .int .i64 0, .int .i64 0]), (5, .int .i64 0), (6, .bool false), (7, .agg #[.int .i64 T, .int .i64 o2, .int .i64 o3, .int .i64 o4, .int .i64 r]), (95, .slice (some ⟨S2.next, 0, none⟩) 5 1), (96, .int .i64 5), (97, .int .i64 j)]) (fun t' _ => 5 - (RowKit.intOf (t' 97)).toNat) ?_ ?_
  ·refine ⟨rfl, 0, by omega, ?_⟩
   simp only [go_sem, seval, Int.natCast_add, Int.natCast_succ, and_true]
  rintro t1 S1 Q1 ⟨rfl, j, hj, hs⟩ hL1 hN hE
  simp only [slots_cons, slots_nil] at hs
  by_cases hjn : ¬ j = 5
  ·have hlt : ((j : Int) < 5) := by omega
   have hj0 : (0 : Int) ≤ j := by omega
   have hw1 : IntKind.i64.wrap ((j : Int) + 1) = j + 1 := wrap64_id (by omega) (by omega)
   have hx := iV_at (xs := [T, o2, o3, o4, r]) (j := j) (by simp only [List.length_cons, List.length_nil]; omega)
   simp only [go_sem, seval, hs, hlt, hj0, Int.toNat_natCast, Nat.mul_one, hx]
   refine cK_of (fits107 _ _) ?_
   rintro v S2 _ hL2 ⟨rfl, rfl⟩
   generalize fitB _ = c
   cases c
   ·simp only [go_sem, seval, hs]
    refine hE _ _ _ (by simp) ?_
    simp only [go_sem, seval, hs]
    refine fin_at hQ rfl ?_; simp only [go_sem, seval, aF145, hs]; rw [retQ_some]; simp only [oneOr]
    exact bad _ (Keeps.of_new _ _ _)
   ·simp only [go_sem, seval, hs, hw1]
    refine hN _ _ ⟨rfl, j + 1, by omega, ?_⟩ ?_
    ·simp only [go_sem, seval, Int.natCast_add, Int.natCast_succ, hs]
    ·simp only [go_sem, seval, hs]
     simp [RowKit.intOf]
     omega
  have hjn := Classical.not_not.1 hjn
  subst hjn
  simp only [go_sem, seval, hs, show ¬ (((5 : Nat) : Int) < 5) by omega]
  refine hE _ _ _ (by simp) ?_
  simp only [go_sem, seval, hs]
  refine fin_at hQ rfl ?_; simp only [go_sem, seval, aF145, hs]; rw [retQ_some]; simp only [oneOr]
  exact fin T o2 o3 o4 r (notHz (.inl b1)) _ (Keeps.of_new _ _ _)
 ·simp only [go_sem, seval, h.B 1, h.B 9, b1, b9, h.Z 1, h.Z 9, h.N 16, h.F 16, i12, i13]
  refine cK_of (known117 _ _ _ _ _ _ _) ?_
  rintro v S2 _ hL2 ⟨rfl, rfl⟩
  simp only [go_sem, seval, h.B 1, h.B 9, b1, b9, h.Z 1, h.Z 9, h.N 16, h.F 16, i12, i13]
  refine cK_of (known117 _ _ _ _ _ _ _) ?_
  rintro v S2 _ hL2 ⟨rfl, rfl⟩
  simp only [go_sem, seval, h.B 1, h.B 9, b1, b9, h.Z 1, h.Z 9, h.N 16, h.F 16, i12, i13]
  refine cK_of (rest169 cs _ _ _ _ _ _ h) ?_
  rintro v S2 _ hL2 ⟨rfl, rfl⟩
  obtain ⟨r, hr⟩ : ∃ r, r = restI cs o1 o2 o3 o4 o5 := ⟨_, rfl⟩
  rw [← hr]
  simp only [go_sem, seval]
  refine lK_of (fun t' S' => S' = S2.new ⟨false, iV [o1, o2, r, o4, o5]⟩ ∧ ∃ j : Nat, j ≤ 5 ∧ Slots t' [(4, .agg #[.int .i64 0, .int .i64 0, .int .i64 0, .int .i64 0, .int .i64 0]), (5, .int .i64 0), (6, .bool false), (7, .agg #[.int .i64 o1, .int .i64 o2, .int .i64 r, .int .i64 o4, .int .i64 o5]), (95, .slice (some ⟨S2.next, 0, none⟩) 5 1), (96, .int .i64 5), (97, .int .i64 j)]) (fun t' _ => 5 - (RowKit.intOf (t' 97)).toNat) ?_ ?_
  ·refine ⟨rfl, 0, by omega, ?_⟩
   simp only [go_sem, seval, Int.natCast_add, Int.natCast_succ, and_true]
  rintro t1 S1 Q1 ⟨rfl, j, hj, hs⟩ hL1 hN hE
  simp only [slots_cons, slots_nil] at hs
  by_cases hjn : ¬ j = 5
  ·have hlt : ((j : Int) < 5) := by omega
   have hj0 : (0 : Int) ≤ j := by omega
   have hw1 : IntKind.i64.wrap ((j : Int) + 1) = j + 1 := wrap64_id (by omega) (by omega)
   have hx := iV_at (xs := [o1, o2, r, o4, o5]) (j := j) (by simp only [List.length_cons, List.length_nil]; omega)
   simp only [go_sem, seval, hs, hlt, hj0, Int.toNat_natCast, Nat.mul_one, hx]
   refine cK_of (fits107 _ _) ?_
   rintro v S2 _ hL2 ⟨rfl, rfl⟩
   generalize fitB _ = c
   cases c
   ·simp only [go_sem, seval, hs]
    refine hE _ _ _ (by simp) ?_
    simp only [go_sem, seval, hs]
    refine fin_at hQ rfl ?_; simp only [go_sem, seval, aF145, hs]; rw [retQ_some]; simp only [oneOr]
    exact bad _ (Keeps.of_new _ _ _)
   ·simp only [go_sem, seval, hs, hw1]
    refine hN _ _ ⟨rfl, j + 1, by omega, ?_⟩ ?_
    ·simp only [go_sem, seval, Int.natCast_add, Int.natCast_succ, hs]
    ·simp only [go_sem, seval, hs]
     simp [RowKit.intOf]
     omega
  have hjn := Classical.not_not.1 hjn
  subst hjn
  simp only [go_sem, seval, hs, show ¬ (((5 : Nat) : Int) < 5) by omega]
  refine hE _ _ _ (by simp) ?_
  simp only [go_sem, seval, hs]
  refine fin_at hQ rfl ?_; simp only [go_sem, seval, aF145, hs]; rw [retQ_some]; simp only [oneOr]
  exact fin o1 o2 r o4 o5 (fun hh _ => by
   rw [hr, h1, h2, h3, h4, h5, hh.a, hh.an, hh.ma, hh.mb, hh.b, hh.bn]
   simp only [or0, if_true, Bool.false_eq_true, if_false, hh.rest, and_self]) _ (Keeps.of_new _ _ _)
 ·simp only [go_sem, seval, h.B 1, h.B 9, b1, b9, h.Z 1, h.Z 9, h.N 16, h.F 16, i12, i13]
  refine cK_of (known117 _ _ _ _ _ _ _) ?_
  rintro v S2 _ hL2 ⟨rfl, rfl⟩
  simp only [go_sem, seval, h.B 1, h.B 9, b1, b9, h.Z 1, h.Z 9, h.N 16, h.F 16, i12, i13]
  refine cK_of (known117 _ _ _ _ _ _ _) ?_
  rintro v S2 _ hL2 ⟨rfl, rfl⟩
  simp only [go_sem, seval, h.B 1, h.B 9, b1, b9, h.Z 1, h.Z 9, h.N 16, h.F 16, i12, i13]
  refine cK_of (rest169 cs _ _ _ _ _ _ h) ?_
  rintro v S2 _ hL2 ⟨rfl, rfl⟩
  obtain ⟨r, hr⟩ : ∃ r, r = restI cs o1 o2 W o4 o5 := ⟨_, rfl⟩
  rw [← hr]
  simp only [go_sem, seval]
  refine lK_of (fun t' S' => S' = S2.new ⟨false, iV [o1, o2, W, o4, r]⟩ ∧ ∃ j : Nat, j ≤ 5 ∧ Slots t' [(4, .agg #[.int .i64 0, .int .i64 0, .int .i64 0, .int .i64 0, .int .i64 0]), (5, .int .i64 0), (6, .bool false), (7, .agg #[.int .i64 o1, .int .i64 o2, .int .i64 W, .int .i64 o4, .int .i64 r]), (95, .slice (some ⟨S2.next, 0, none⟩) 5 1), (96, .int .i64 5), (97, .int .i64 j)]) (fun t' _ => 5 - (RowKit.intOf (t' 97)).toNat) ?_ ?_
  ·refine ⟨rfl, 0, by omega, ?_⟩
   simp only [go_sem, seval, Int.natCast_add, Int.natCast_succ, and_true]
  rintro t1 S1 Q1 ⟨rfl, j, hj, hs⟩ hL1 hN hE
  simp only [slots_cons, slots_nil] at hs
  by_cases hjn : ¬ j = 5
  ·have hlt : ((j : Int) < 5) := by omega
   have hj0 : (0 : Int) ≤ j := by omega
   have hw1 : IntKind.i64.wrap ((j : Int) + 1) = j + 1 := wrap64_id (by omega) (by omega)
   have hx := iV_at (xs := [o1, o2, W, o4, r]) (j := j) (by simp only [List.length_cons, List.length_nil]; omega)
   simp only [go_sem, seval, hs, hlt, hj0, Int.toNat_natCast, Nat.mul_one, hx]
   refine cK_of (fits107 _ _) ?_
   rintro v S2 _ hL2 ⟨rfl, rfl⟩
   generalize fitB _ = c
   cases c
   ·simp only [go_sem, seval, hs]
    refine hE _ _ _ (by simp) ?_
    simp only [go_sem, seval, hs]
    refine fin_at hQ rfl ?_; simp only [go_sem, seval, aF145, hs]; rw [retQ_some]; simp only [oneOr]
    exact bad _ (Keeps.of_new _ _ _)
   ·simp only [go_sem, seval, hs, hw1]
    refine hN _ _ ⟨rfl, j + 1, by omega, ?_⟩ ?_
    ·simp only [go_sem, seval, Int.natCast_add, Int.natCast_succ, hs]
    ·simp only [go_sem, seval, hs]
     simp [RowKit.intOf]
     omega
  have hjn := Classical.not_not.1 hjn
  subst hjn
  simp only [go_sem, seval, hs, show ¬ (((5 : Nat) : Int) < 5) by omega]
  refine hE _ _ _ (by simp) ?_
  simp only [go_sem, seval, hs]
  refine fin_at hQ rfl ?_; simp only [go_sem, seval, aF145, hs]; rw [retQ_some]; simp only [oneOr]
  exact fin o1 o2 W o4 r (notHz (.inr (.inl b9))) _ (Keeps.of_new _ _ _)
 ·simp only [go_sem, seval, h.B 1, h.B 9, b1, b9, h.Z 1, h.Z 9, h.N 16, h.F 16, i12, i13]
  refine cK_of (known117 _ _ _ _ _ _ _) ?_
  rintro v S2 _ hL2 ⟨rfl, rfl⟩
  simp only [go_sem, seval, h.B 1, h.B 9, b1, b9, h.Z 1, h.Z 9, h.N 16, h.F 16, i12, i13]
  refine cK_of (known117 _ _ _ _ _ _ _) ?_
  rintro v S2 _ hL2 ⟨rfl, rfl⟩
  simp only [go_sem, seval, h.B 1, h.B 9, b1, b9, h.Z 1, h.Z 9, h.N 16, h.F 16, i12, i13]
  refine cK_of (rest169 cs _ _ _ _ _ _ h) ?_
  rintro v S2 _ hL2 ⟨rfl, rfl⟩
  obtain ⟨r, hr⟩ : ∃ r, r = restI cs o1 o2 W o4 o5 := ⟨_, rfl⟩
  rw [← hr]
  simp only [go_sem, seval]
  refine lK_of (fun t' S' => S' = S2.new ⟨false, iV [r, o2, W, o4, o5]⟩ ∧ ∃ j : Nat, j ≤ 5 ∧ Slots t' [(4, .agg #[.int .i64 0, .int .i64 0, .int .i64 0, .int .i64 0, .int .i64 0]), (5, .int .i64 0), (6, .bool false), (7, .agg #[.int .i64 r, .int .i64 o2, .int .i64 W, .int .i64 o4, .int .i64 o5]), (95, .slice (some ⟨S2.next, 0, none⟩) 5 1), (96, .int .i64 5), (97, .int .i64 j)]) (fun t' _ => 5 - (RowKit.intOf (t' 97)).toNat) ?_ ?_
  ·refine ⟨rfl, 0, by omega, ?_⟩
   simp only [go_sem, seval, Int.natCast_add, Int.natCast_succ, and_true]
  rintro t1 S1 Q1 ⟨rfl, j, hj, hs⟩ hL1 hN hE
  simp only [slots_cons, slots_nil] at hs
  by_cases hjn : ¬ j = 5
  ·have hlt : ((j : Int) < 5) := by omega
   have hj0 : (0 : Int) ≤ j := by omega
   have hw1 : IntKind.i64.wrap ((j : Int) + 1) = j + 1 := wrap64_id (by omega) (by omega)
   have hx := iV_at (xs := [r, o2, W, o4, o5]) (j := j) (by simp only [List.length_cons, List.length_nil]; omega)
   simp only [go_sem, seval, hs, hlt, hj0, Int.toNat_natCast, Nat.mul_one, hx]
   refine cK_of (fits107 _ _) ?_
   rintro v S2 _ hL2 ⟨rfl, rfl⟩
   generalize fitB _ = c
   cases c
   ·simp only [go_sem, seval, hs]
    refine hE _ _ _ (by simp) ?_
    simp only [go_sem, seval, hs]
    refine fin_at hQ rfl ?_; simp only [go_sem, seval, aF145, hs]; rw [retQ_some]; simp only [oneOr]
    exact bad _ (Keeps.of_new _ _ _)
   ·simp only [go_sem, seval, hs, hw1]
    refine hN _ _ ⟨rfl, j + 1, by omega, ?_⟩ ?_
    ·simp only [go_sem, seval, Int.natCast_add, Int.natCast_succ, hs]
    ·simp only [go_sem, seval, hs]
     simp [RowKit.intOf]
     omega
  have hjn := Classical.not_not.1 hjn
  subst hjn
  simp only [go_sem, seval, hs, show ¬ (((5 : Nat) : Int) < 5) by omega]
  refine hE _ _ _ (by simp) ?_
  simp only [go_sem, seval, hs]
  refine fin_at hQ rfl ?_; simp only [go_sem, seval, aF145, hs]; rw [retQ_some]; simp only [oneOr]
  exact fin r o2 W o4 o5 (notHz (.inl b1)) _ (Keeps.of_new _ _ _)
 ·simp only [go_sem, seval, h.B 1, h.B 9, b1, b9, h.Z 1, h.Z 9, h.N 16, h.F 16, i12, i13]
  refine cK_of (known117 _ _ _ _ _ _ _) ?_
  rintro v S2 _ hL2 ⟨rfl, rfl⟩
  simp only [go_sem, seval, h.B 1, h.B 9, b1, b9, h.Z 1, h.Z 9, h.N 16, h.F 16, i12, i13]
  refine cK_of (known117 _ _ _ _ _ _ _) ?_
  rintro v S2 _ hL2 ⟨rfl, rfl⟩
  simp only [go_sem, seval, h.B 1, h.B 9, b1, b9, h.Z 1, h.Z 9, h.N 16, h.F 16, i12, i13]
  refine cK_of (rest169 cs _ _ _ _ _ _ h) ?_
  rintro v S2 _ hL2 ⟨rfl, rfl⟩
  obtain ⟨r, hr⟩ : ∃ r, r = restI cs T o2 W o4 o5 := ⟨_, rfl⟩
  rw [← hr]
  simp only [go_sem, seval]
  refine lK_of (fun t' S' => S' = S2.new ⟨false, iV [T, o2, W, o4, r]⟩ ∧ ∃ j : Nat, j ≤ 5 ∧ Slots t' [(4, .agg #[.int .i64 0, .int .i64 0, .int .i64 0, .int .i64 0, .int .i64 0]), (5, .int .i64 0), (6, .bool false), (7, .agg #[.int .i64 T, .int .i64 o2, .int .i64 W, .int .i64 o4, .int .i64 r]), (95, .slice (some ⟨S2.next, 0, none⟩) 5 1), (96, .int .i64 5), (97, .int .i64 j)]) (fun t' _ => 5 - (RowKit.intOf (t' 97)).toNat) ?_ ?_
  ·refine ⟨rfl, 0, by omega, ?_⟩
   simp only [go_sem, seval, Int.natCast_add, Int.natCast_succ, and_true]
  rintro t1 S1 Q1 ⟨rfl, j, hj, hs⟩ hL1 hN hE
  simp only [slots_cons, slots_nil] at hs
  by_cases hjn : ¬ j = 5
  ·have hlt : ((j : Int) < 5) := by omega
   have hj0 : (0 : Int) ≤ j := by omega
   have hw1 : IntKind.i64.wrap ((j : Int) + 1) = j + 1 := wrap64_id (by omega) (by omega)
   have hx := iV_at (xs := [T, o2, W, o4, r]) (j := j) (by simp only [List.length_cons, List.length_nil]; omega)
   simp only [go_sem, seval, hs, hlt, hj0, Int.toNat_natCast, Nat.mul_one, hx]
   refine cK_of (fits107 _ _) ?_
   rintro v S2 _ hL2 ⟨rfl, rfl⟩
   generalize fitB _ = c
   cases c
   ·simp only [go_sem, seval, hs]
    refine hE _ _ _ (by simp) ?_
    simp only [go_sem, seval, hs]
    refine fin_at hQ rfl ?_; simp only [go_sem, seval, aF145, hs]; rw [retQ_some]; simp only [oneOr]
    exact bad _ (Keeps.of_new _ _ _)
   ·simp only [go_sem, seval, hs, hw1]
    refine hN _ _ ⟨rfl, j + 1, by omega, ?_⟩ ?_
    ·simp only [go_sem, seval, Int.natCast_add, Int.natCast_succ, hs]
    ·simp only [go_sem, seval, hs]
     simp [RowKit.intOf]
     omega
  have hjn := Classical.not_not.1 hjn
  subst hjn
  simp only [go_sem, seval, hs, show ¬ (((5 : Nat) : Int) < 5) by omega]
  refine hE _ _ _ (by simp) ?_
  simp only [go_sem, seval, hs]
  refine fin_at hQ rfl ?_; simp only [go_sem, seval, aF145, hs]; rw [retQ_some]; simp only [oneOr]
  exact fin T o2 W o4 r (notHz (.inl b1)) _ (Keeps.of_new _ _ _)
set_option maxHeartbeats 1000000 in
theorem drop119 (cs : List Value) (S : St) (h : Fl dropIn cs) : ACalls Tryz.prog 119 [.agg cs.toArray] S (OutP cs 14 15 S) := by
 refine run_of hmix Tryz.func119 cF119 rfl fun hL Q hQ => ?_
 simp only [go_sem, seval, aF119, h.N 16, h.F 16, h.Z 5]
 refine cK_of (start143 cs _ _ _ h) ?_
 rintro v S1 _ hL1 ⟨rfl, rfl⟩
 generalize or0 (bg cs 1) (ig cs 2) = o1
 generalize or0 (bg cs 3) (ig cs 4) = o2
 generalize or0 (bg cs 5) (ig cs (5 + 1)) = o3
 generalize or0 (bg cs 7) (ig cs 8) = o4
 generalize or0 (bg cs 9) (ig cs 10) = o5
 have bad : ∀ S', KeepsAll S1 S' → OutP cs 14 15 S1 (.tuple #[.agg #[.int .i64 0, .int .i64 0, .int .i64 0, .int .i64 0, .int .i64 0], .bool false]) S' := fun S' hk => ⟨⟨[0, 0, 0, 0, 0], false, rfl, rfl, fun _ _ _ hb => by cases hb⟩, hk⟩
 simp only [go_sem, seval, h.I 0, h.I 11, h.I 12, h.I 13]
 refine lK_of (fun t' S' => S' = S1.new ⟨false, iV [ig cs 0, ig cs 11, ig cs 12, ig cs 13, o1, o2, o3, o4, o5]⟩ ∧ ∃ j : Nat, j ≤ 9 ∧ Slots t' [(1, .agg cs.toArray), (2, .agg #[.int .i64 0, .int .i64 0, .int .i64 0, .int .i64 0, .int .i64 0]), (3, .bool false), (29, .slice (some ⟨S1.next, 0, none⟩) 9 1), (30, .int .i64 9), (31, .int .i64 j)]) (fun t' _ => 9 - (RowKit.intOf (t' 31)).toNat) ?_ ?_
 ·refine ⟨rfl, 0, by omega, ?_⟩
  simp only [go_sem, seval, Int.natCast_add, Int.natCast_succ, and_true]
 rintro t1 S1 Q1 ⟨rfl, j, hj, hs⟩ hL1 hN hE
 simp only [slots_cons, slots_nil] at hs
 by_cases hjn : ¬ j = 9
 ·have hlt : ((j : Int) < 9) := by omega
  have hj0 : (0 : Int) ≤ j := by omega
  have hw1 : IntKind.i64.wrap ((j : Int) + 1) = j + 1 := wrap64_id (by omega) (by omega)
  have hx := iV_at (xs := [ig cs 0, ig cs 11, ig cs 12, ig cs 13, o1, o2, o3, o4, o5]) (j := j) (by simp only [List.length_cons, List.length_nil]; omega)
  simp only [go_sem, seval, hs, hlt, hj0, Int.toNat_natCast, Nat.mul_one, hx]
  refine cK_of (fits107 _ _) ?_
  rintro v S2 _ hL2 ⟨rfl, rfl⟩
  generalize fitB _ = c
  cases c
  ·simp only [go_sem, seval, hs]
   refine hE _ _ _ (by simp) ?_
   simp only [go_sem, seval, hs]
   refine fin_at hQ rfl ?_; simp only [go_sem, seval, aF119, hs]; rw [retQ_some]; simp only [oneOr]
   exact bad _ (Keeps.of_new _ _ _)
  ·simp only [go_sem, seval, hs, hw1]
   refine hN _ _ ⟨rfl, j + 1, by omega, ?_⟩ ?_
   ·simp only [go_sem, seval, Int.natCast_add, Int.natCast_succ, hs]
   ·simp only [go_sem, seval, hs]
    simp [RowKit.intOf]
    omega
 have hjn := Classical.not_not.1 hjn
 subst hjn
 simp only [go_sem, seval, hs, show ¬ (((9 : Nat) : Int) < 9) by omega]
 refine hE _ _ _ (by simp) ?_
 simp only [go_sem, seval, hs, h.N 16, h.F 16, h.Z 5, h.I 14, h.I 15]
 refine cK_of (bound144 145 cs (HR cs) (solve145 cs h) _ _ _ _ _) ?_
 rintro v S3 _ hL3 ⟨⟨xs, b, rfl, hx, hb⟩, hk⟩
 obtain ⟨x1, x2, x3, x4, x5, rfl⟩ := len5 hx
 simp only [go_sem, seval, iV, hs]
 refine fin_at hQ rfl ?_; simp only [go_sem, seval, aF119, hs]; rw [retQ_some]; simp only [oneOr]
 refine ⟨⟨[x1, x2, x3, x4, x5], b, rfl, rfl, fun hz hl hm hbt => ?_⟩, (Keeps.of_new _ _ _).trans hk fun _ _ _ => trivial⟩
 obtain ⟨ys, m, hR, he⟩ := hb hbt
 obtain ⟨rfl, rfl⟩ := hR hz hz.w rfl
 exact he (by rw [hl]; exact hz.lo) (by rw [hm]; have := hz.hi; omega)
end Go.Proofs.YtegaklgjcicnfaaGreat
