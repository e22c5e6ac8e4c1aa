/- A plan that comes to be: whether a box's top is open; how far down a box would be. -/
import Derived.Test.YtegaklgjcicnfaaGreatGE
set_option linter.unusedSimpArgs false
set_option linter.unusedVariables false
namespace Go.Proofs.YtegaklgjcicnfaaGreat
open Go Go.Proofs.YtegaklgjcicnfaaGreat.Abs
section
variable {S S' : St} {hi kp : Nat} {l : List Nd} {wp db dk : Nat} {v0 v1 : Int} {ag : Value} {bad : Bool} {bs ks : List Value}
set_option maxHeartbeats 2000000 in
theorem open142 (hok : ∀ x ∈ l, x.Ok) (n : Nat) (hn : n < l.length) (h : WorkAt S hi kp l wp db dk v0 v1 ag bad bs ks) : ACalls Tryz.prog 142 [ptr wp, .int .i64 n] S fun r S' => (∃ b, r = .bool b) ∧ S' = S := by
 refine run_of hmix Tryz.func142 cF142 rfl fun hL Q hQ => ?_
 have r0 := rd_of_blk h.row 0
 have r3 := rd_of_blk h.row 3
 simp only [workV] at r0 r3
 have hbx := box_at h hn
 have hbo := (h.bok n hn).1
 have hs := sty_fl (hok _ (List.getElem_mem hn)).s
 have hn0 : (0 : Int) ≤ n := by omega
 have hnl : (n : Int) < l.length := by omega
 generalize (bs.drop (n * 21)).take 21 = cb at *
 have fin : ∀ b : Bool, (∃ b', Value.bool b = .bool b') ∧ S = S := fun b => ⟨⟨b, rfl⟩, rfl⟩
 cases hg : decide ((n : Int) > 0)
 ·simp only [go_sem, seval, aF142, r0, r3, hn0, hnl, Int.toNat_natCast, hbx, hbo.N 21, hbo.F 21, z51, hg]
  refine fin_at hQ rfl ?_; simp only [go_sem, seval, aF142]; rw [retQ_some]; simp only [oneOr]
  exact ⟨⟨_, rfl⟩, trivial⟩
 simp only [go_sem, seval, aF142, r0, r3, hn0, hnl, Int.toNat_natCast, hbx, hbo.N 21, hbo.F 21, z51, hg]
 refine cK_of (out44 h.kin hok hn) ?_
 rintro v S1 _ hL1 ⟨rfl, hS1⟩
 obtain rfl := hS1.symm
 cases outL l n
 case' true =>
  simp only [go_sem, seval, r0]
  refine fin_at hQ rfl ?_; simp only [go_sem, seval, aF142]; rw [retQ_some]; simp only [oneOr]
  exact ⟨⟨_, rfl⟩, trivial⟩
 simp only [go_sem, seval, r0]
 refine cK_of (style55 h.kin hok hn) ?_
 rintro v S1 _ hL1 ⟨rfl, hS1⟩
 obtain rfl := hS1.symm
 generalize l[n].s.cells = cp at *
 cases h45 : bg cp 45
 case' true =>
  simp only [go_sem, seval, hs.B 45, h45]
  refine fin_at hQ rfl ?_; simp only [go_sem, seval, aF142]; rw [retQ_some]; simp only [oneOr]
  exact ⟨⟨_, rfl⟩, trivial⟩
 cases h17 : ig cb 17 == 0
 ·simp only [go_sem, seval, hs.B 45, h45, hbo.I 17, h17]
  refine fin_at hQ rfl ?_; simp only [go_sem, seval, aF142]; rw [retQ_some]; simp only [oneOr]
  exact ⟨⟨_, rfl⟩, trivial⟩
 ·simp only [go_sem, seval, hs.B 45, h45, hbo.I 17, h17, hbo.I 13]
  refine fin_at hQ rfl ?_; simp only [go_sem, seval, aF142]; rw [retQ_some]; simp only [oneOr]
  exact ⟨⟨_, rfl⟩, trivial⟩
set_option maxHeartbeats 2000000 in
theorem static116 (hok : ∀ x ∈ l, x.Ok) (hform : TForm l) (hl : l.length ≤ 24) (n : Nat) (h0 : 0 < n) (hn : n < l.length) (a b c d : Int) (h : WorkAt S hi kp l wp db dk v0 v1 ag bad bs ks) : ACalls Tryz.prog 116 [ptr wp, .int .i64 n, .agg #[.int .i64 a, .int .i64 b, .int .i64 c, .int .i64 d]] S fun r S' =>
  ∃ m bad', r = .int .i64 m ∧ WorkAt S' hi kp l wp db dk v0 v1 ag bad' bs ks ∧ Keeps S S' (· ≠ wp) ∧ (bad' = false → bad = false) := by
 refine run_of hmix Tryz.func116 cF116 rfl fun hL Q hQ => ?_
 have r0 := rd_of_blk h.row 0
 simp only [workV] at r0
 have hs := sty_fl (hok _ (List.getElem_mem hn)).s
 obtain ⟨p, hp, hpn⟩ := par_nat hform h0 hn
 have hpl : p < l.length := by omega
 have hpl' : (p : Int) < l.length := by omega
 have hp0 : (0 : Int) ≤ p := by omega
 simp only [go_sem, seval, aF116, r0]
 refine cK_of (style55 h.kin hok hn) ?_
 rintro v S1 _ hL1 ⟨rfl, hS1⟩
 obtain rfl := hS1.symm
 simp only [go_sem, seval]
 refine cK_of (asked140 _ S hs) ?_
 rintro v S1 _ hL1 ⟨rfl, hS1⟩
 obtain rfl := hS1.symm
 generalize (ig l[n].s.cells 2 == 0 && ig l[n].s.cells 6 == 0) = asq
 cases asq
 ·simp only [go_sem, seval]
  refine fin_at hQ rfl ?_; simp only [go_sem, seval, aF116]; rw [retQ_some]; simp only [oneOr]
  exact ⟨_, bad, rfl, h, Keeps.refl _ _, id⟩
 simp only [go_sem, seval, r0]
 refine cK_of (parent70 h.kin hok hn) ?_
 rintro v S1 _ hL1 ⟨rfl, hS1⟩
 obtain rfl := hS1.symm
 rw [hp]
 simp only [go_sem, seval]
 refine cK_of (corner71 p hpl (by omega) h) ?_
 rintro v S2 _ hL2 ⟨x, y, bad2, rfl, hW2, hk2, hb2⟩
 have s0 := rd_of_blk hW2.row 0
 have s3 := rd_of_blk hW2.row 3
 simp only [workV] at s0 s3
 have hbx := box_at hW2 hpl
 have hbo := (hW2.bok p hpl).1
 have hb3 : rd S2 db (p * 21 + 3) = some (.int .i64 (ig ((bs.drop (p * 21)).take 21) 3)) := by rw [rd_of_cells hbx (by omega)]; exact hbo.I 3
 simp only [go_sem, seval, s0, s3, hpl', hp0, Int.toNat_natCast, hb3]
 refine cK_of (high73 p hpl hW2) ?_
 rintro v S3 _ hL3 ⟨⟨ha, hh, rfl⟩, hS3⟩
 obtain rfl := hS3.symm
 simp only [go_sem, seval, s0, s3, hpl', hp0, Int.toNat_natCast, hb3]
 refine cK_of (open142 hok p hpl hW2) ?_
 rintro v S3 _ hL3 ⟨⟨op, rfl⟩, hS3⟩
 obtain rfl := hS3.symm
 simp only [go_sem, seval, s0, s3, hpl', hp0, Int.toNat_natCast, hb3]
 have hiS : hi ≤ S2.next := Nat.le_trans hW2.h3 (Nat.le_of_lt (hL2 _ _ hW2.row))
 refine cK_of (top141 hok hform hl n hn S2 _ hh ha op hW2.kin hiS) ?_
 rintro v S3 _ hL3 ⟨⟨tp, ok, rfl⟩, hk3⟩
 have hW3 := hW2.keeps hL2 hk3
 simp only [go_sem, seval]
 refine cK_of (is41 ok hW3) ?_
 rintro v S4 _ hL4 ⟨rfl, hS4⟩
 have hW4 := hW3.setBad (bad2 || !ok)
 rw [← hS4] at hW4
 have hk4 : Keeps S3 S4 (· ≠ wp) := by rw [hS4]; exact (Keeps.refl _ _).set (fun i _ h => h) _
 have hb4 : (bad2 || !ok) = false → bad = false := fun hb => hb2 (by cases bad2 <;> simp at hb ⊢)
 have hk04 : Keeps S S4 (· ≠ wp) := (hk2.trans hk3 fun _ _ _ => trivial).trans hk4 fun _ _ h => h
 generalize (bad2 || !ok) = bad4 at *
 simp only [go_sem, seval]
 have hWn := hW4.keeps hL4 (Keeps.of_new S4 ⟨false, iV [y, tp, IntKind.i64.wrap (0 - b)]⟩ fun _ => True)
 refine cK_of (sum74' _ [y, tp, IntKind.i64.wrap (0 - b)] (hL4.new _) hWn (sl_new S4 [y, tp, IntKind.i64.wrap (0 - b)]) (by simp)) ?_
 rintro v S5 _ hL5 ⟨m, bad5, rfl, hW5, hk5, _, hb5⟩
 simp only [go_sem, seval]
 refine fin_at hQ rfl ?_; simp only [go_sem, seval, aF116]; rw [retQ_some]; simp only [oneOr]
 exact ⟨m, bad5, rfl, hW5, (hk04.new _).trans hk5 fun _ _ h => h, fun hb => hb4 (hb5 hb).1⟩
end
end Go.Proofs.YtegaklgjcicnfaaGreat
namespace Go.Proofs.YtegaklgjcicnfaaGreat
open Go Go.Proofs.YtegaklgjcicnfaaGreat.Abs
section
variable {S S' : St} {hi kp : Nat} {l : List Nd} {wp db dk : Nat} {v0 v1 : Int} {ag : Value} {bad : Bool} {bs ks : List Value}
/-- is, told loosely. -/
theorem is41' (b : Bool) (h : WorkAt S hi kp l wp db dk v0 v1 ag bad bs ks) : ACalls Tryz.prog 41 [ptr wp, .bool b] S fun r S' => ∃ bad', r = .bool (!bad') ∧ WorkAt S' hi kp l wp db dk v0 v1 ag bad' bs ks ∧ Keeps S S' (· ≠ wp) ∧ (bad' = false → bad = false ∧ b = true) :=
 (is41 b h).mono fun r S' _ ⟨h1, h2⟩ => ⟨bad || !b, h1, by rw [h2]; exact h.setBad _, by rw [h2]; exact (Keeps.refl _ _).set (fun i _ hi' => hi') _, fun hb => by cases bad <;> cases b <;> simp at hb ⊢⟩
theorem of112 (k n base : Int) (bx : Nat) (hb : S.blk bx = some ⟨false, [ptr wp]⟩) (h : WorkAt S hi kp l wp db dk v0 v1 ag bad bs ks) : ACalls Tryz.prog 112 [.agg #[.int .i64 k, .int .i64 n], .int .i64 base, ptr bx] S fun r S' => ∃ a m bad', r = .agg #[.bool a, .int .i64 m] ∧ WorkAt S' hi kp l wp db dk v0 v1 ag bad' bs ks ∧ Keeps S S' (· ≠ wp) ∧ (bad' = false → bad = false ∧ (k = 0 → a = true) ∧ (k = 1 → a = false ∧ m = n)) := by
 refine run_of hmix Tryz.func112 cF112 rfl fun hL Q hQ => ?_
 have r0 := rd_of_blk hb 0
 simp only [go_sem, seval, aF112]
 refine cK_of (of101 k n base true S) ?_
 rintro v S1 _ hL1 ⟨⟨a, m, ok, rfl, ho⟩, hS1⟩
 obtain rfl := hS1.symm
 simp only [go_sem, seval, r0]
 refine cK_of (is41' ok h) ?_
 rintro v S2 _ hL2 ⟨bad2, rfl, hW2, hk2, hb2⟩
 simp only [go_sem, seval]
 refine fin_at hQ rfl ?_; simp only [go_sem, seval, aF112]; rw [retQ_some]; simp only [oneOr]
 exact ⟨a, m, bad2, rfl, hW2, hk2, fun hb' => ⟨(hb2 hb').1, fun hk => (ho.1 hk).1, fun hk => ho.2 hk (hb2 hb').2⟩⟩
end
end Go.Proofs.YtegaklgjcicnfaaGreat
namespace Go.Proofs.YtegaklgjcicnfaaGreat
open Go Go.Proofs.YtegaklgjcicnfaaGreat.Abs
def sizesSg : List Bool := [false, true, false, true, false, true, false, true, false, true, false, true, false, true, false, true, false, true, false, true, false, true, false, true, false, true, false, true, true, true, true, true]
/-- What a size is, by its length: told where it is auto or units. -/
def SzP (k n : Int) (a : Bool) (m : Int) : Prop := (k = 0 → a = true) ∧ (k = 1 → a = false ∧ m = n)
section
variable {S S' : St} {hi kp : Nat} {l : List Nd} {wp db dk : Nat} {v0 v1 : Int} {ag : Value} {bad : Bool} {bs ks : List Value}
set_option maxHeartbeats 4000000 in
theorem sizesOf78 (cs : List Value) (bw bh : Int) (hs : Fl styleSg cs) (h : WorkAt S hi kp l wp db dk v0 v1 ag bad bs ks) : ACalls Tryz.prog 78 [ptr wp, .agg cs.toArray, .int .i64 bw, .int .i64 bh] S fun r S' => ∃ zs bad', r = .agg (List.toArray zs) ∧ Fl sizesSg zs ∧ WorkAt S' hi kp l wp db dk v0 v1 ag bad' bs ks ∧ Keeps S S' (· ≠ wp) ∧ (bad' = false → bad = false ∧
  (∀ q, q < 4 → SzP (ig cs (2 + q * 2)) (ig cs (2 + q * 2 + 1)) (bg zs (q * 2)) (ig zs (q * 2 + 1))) ∧ SidesP ((cs.drop 22).take 8) ((zs.drop 8).take 8) ∧ SidesP ((cs.drop 30).take 8) ((zs.drop 16).take 8) ∧
  SzP (ig cs 10) (ig cs 11) (bg zs 24) (ig zs 25) ∧ SzP (ig cs 12) (ig cs 13) (bg zs 26) (ig zs 27) ∧ (ig cs 14 = 0 → ig zs 28 = 0) ∧ (ig cs 18 = 0 → ig zs 29 = 0) ∧ (ig cs 16 = 0 → ig zs 30 = 1125899906842624) ∧ (ig cs 20 = 0 → ig zs 31 = 1125899906842624)) := by
 refine run_of hmix Tryz.func78 cF78 rfl fun hL Q hQ => ?_
 obtain ⟨a0, a1, a2, a3, a4, a5, a6, a7, hof⟩ := lens4_eq (hs.sub 2 8)
 simp only [go_sem, seval, aF78, hs.N 48, hs.F 48, hof, z154]
 have wlt := hL _ _ h.row
 obtain ⟨T0, hT0⟩ : ∃ T0, T0 = S.new ⟨false, [ptr wp]⟩ := ⟨_, rfl⟩
 have k0 : KeepsAll S T0 := by rw [hT0]; exact Keeps.of_new _ _ _
 have hB0 : T0.blk S.next = some ⟨false, [ptr wp]⟩ := by rw [hT0, St.blk_new, if_pos rfl]
 have hM0 : Live T0 := by rw [hT0]; exact hL.new _
 have hW0 := h.keeps hL k0
 rw [← hT0]
 refine lK_keep [0,2,3,4,5,8,9,11,19,20] fun t1 hk' => ?_; simp only [go_sem, seval] at hk'; have hk := hk'; clear hk'
 refine lK_unroll ?_
 simp only [go_sem, seval, hk]
 refine ⟨by kernel_rfl, cK_of (of112 _ _ _ S.next hB0 hW0) ?_⟩
 rintro v T1 _ hM1 ⟨b0, n0, bad1, rfl, hW1, hk1, he1⟩
 have hB1 : T1.blk S.next = some ⟨false, [ptr wp]⟩ := (hk1.2 _ (hM0 _ _ hB0) (by show S.next ≠ wp; omega)).trans hB0
 simp only [go_sem, seval, hk]
 refine lK_keep [0,2,3,4,5,8,9,11,19,20] fun t1 hk' => ?_; simp only [go_sem, seval, hk] at hk'; clear hk; have hk := hk'; clear hk'
 refine lK_unroll ?_
 simp only [go_sem, seval, hk]
 refine ⟨by kernel_rfl, cK_of (of112 _ _ _ S.next hB1 hW1) ?_⟩
 rintro v T2 _ hM2 ⟨b1, n1, bad2, rfl, hW2, hk2, he2⟩
 have hB2 : T2.blk S.next = some ⟨false, [ptr wp]⟩ := (hk2.2 _ (hM1 _ _ hB1) (by show S.next ≠ wp; omega)).trans hB1
 simp only [go_sem, seval, hk]
 refine lK_keep [0,2,3,4,5,8,9,11,19,20] fun t1 hk' => ?_; simp only [go_sem, seval, hk] at hk'; clear hk; have hk := hk'; clear hk'
 refine lK_unroll ?_
 simp only [go_sem, seval, hk]
 refine ⟨by kernel_rfl, cK_of (of112 _ _ _ S.next hB2 hW2) ?_⟩
 rintro v T3 _ hM3 ⟨b2, n2, bad3, rfl, hW3, hk3, he3⟩
 have hB3 : T3.blk S.next = some ⟨false, [ptr wp]⟩ := (hk3.2 _ (hM2 _ _ hB2) (by show S.next ≠ wp; omega)).trans hB2
 simp only [go_sem, seval, hk]
 refine lK_keep [0,2,3,4,5,8,9,11,19,20] fun t1 hk' => ?_; simp only [go_sem, seval, hk] at hk'; clear hk; have hk := hk'; clear hk'
 refine lK_unroll ?_
 simp only [go_sem, seval, hk]
 refine ⟨by kernel_rfl, cK_of (of112 _ _ _ S.next hB3 hW3) ?_⟩
 rintro v T4 _ hM4 ⟨b3, n3, bad4, rfl, hW4, hk4, he4⟩
 have hB4 : T4.blk S.next = some ⟨false, [ptr wp]⟩ := (hk4.2 _ (hM3 _ _ hB3) (by show S.next ≠ wp; omega)).trans hB3
 simp only [go_sem, seval, hk]
 refine lK_keep [0,2,3,4,5,8,9,11,19,20] fun t1 hk' => ?_; simp only [go_sem, seval, hk] at hk'; clear hk; have hk := hk'; clear hk'
 refine lK_unroll ?_
 simp only [go_sem, seval, hk, hs.N 48]
 refine cK_of (sides113 _ bw _ (hs.sub 22 8)) ?_
 rintro v T4' _ hM4' ⟨⟨ds, ok1, rfl, hds, hsp1⟩, hT4'⟩
 obtain rfl := hT4'.symm
 obtain ⟨m0, m1, m2, m3, m4, m5, m6, m7, rfl⟩ := sizes4_eq hds
 have rB4 := rd_of_blk hB4 0
 simp only [go_sem, seval, hk, rB4]
 refine cK_of (is41' ok1 hW4) ?_
 rintro v T5 _ hM5 ⟨bad5, rfl, hW5, hk5, he5⟩
 have hB5 : T5.blk S.next = some ⟨false, [ptr wp]⟩ := (hk5.2 _ (hM4 _ _ hB4) (by show S.next ≠ wp; omega)).trans hB4
 simp only [go_sem, seval, hk, hs.N 48]
 refine cK_of (sides113 _ bw _ (hs.sub 30 8)) ?_
 rintro v T4' _ hM4' ⟨⟨ds, ok2, rfl, hds', hsp2⟩, hT4'⟩
 obtain rfl := hT4'.symm
 obtain ⟨p0, p1, p2, p3, p4, p5, p6, p7, rfl⟩ := sizes4_eq hds'
 have rB5 := rd_of_blk hB5 0
 simp only [go_sem, seval, hk, rB5]
 refine cK_of (is41' ok2 hW5) ?_
 rintro v T6 _ hM6 ⟨bad6, rfl, hW6, hk6, he6⟩
 have hB6 : T6.blk S.next = some ⟨false, [ptr wp]⟩ := (hk6.2 _ (hM5 _ _ hB5) (by show S.next ≠ wp; omega)).trans hB5
 simp only [go_sem, seval, hk, hs.N 48, hs.L 10, hs.L 12]
 refine ⟨by kernel_rfl, cK_of (of112 _ _ _ S.next hB6 hW6) ?_⟩
 rintro v T7 _ hM7 ⟨bw1, nw1, bad7, rfl, hW7, hk7, he7⟩
 have hB7 : T7.blk S.next = some ⟨false, [ptr wp]⟩ := (hk7.2 _ (hM6 _ _ hB6) (by show S.next ≠ wp; omega)).trans hB6
 simp only [go_sem, seval, hk]
 refine ⟨by kernel_rfl, cK_of (of112 _ _ _ S.next hB7 hW7) ?_⟩
 rintro v T8 _ hM8 ⟨bw2, nw2, bad8, rfl, hW8, hk8, he8⟩
 have hB8 : T8.blk S.next = some ⟨false, [ptr wp]⟩ := (hk8.2 _ (hM7 _ _ hB7) (by show S.next ≠ wp; omega)).trans hB7
 simp only [go_sem, seval, hk, hs.N 48, hs.L 14, hs.L 16, hs.L 18, hs.L 20]
 obtain ⟨R, hRR⟩ : ∃ R, R = T8.next := ⟨_, rfl⟩
 obtain ⟨T9, hT9⟩ : ∃ T9, T9 = T8.new ⟨false, [.int .i64 (ig cs 14), .int .i64 (ig cs 15), .int .i64 (ig cs 16), .int .i64 (ig cs 17), .int .i64 bw, .int .i64 (ig cs 18), .int .i64 (ig cs 19), .int .i64 (ig cs 20), .int .i64 (ig cs 21), .int .i64 bh]⟩ := ⟨_, rfl⟩
 have k9 : KeepsAll T8 T9 := by rw [hT9]; exact Keeps.of_new _ _ _
 have hM9 : Live T9 := by rw [hT9]; exact hM8.new _
 have hW9 := hW8.keeps hM8 k9
 have hB9 : T9.blk S.next = some ⟨false, [ptr wp]⟩ := (k9.2 _ (hM8 _ _ hB8) trivial).trans hB8
 have hR9 : T9.blk R = some ⟨false, [.int .i64 (ig cs 14), .int .i64 (ig cs 15), .int .i64 (ig cs 16), .int .i64 (ig cs 17), .int .i64 bw, .int .i64 (ig cs 18), .int .i64 (ig cs 19), .int .i64 (ig cs 20), .int .i64 (ig cs 21), .int .i64 bh]⟩ := by rw [hT9, hRR, St.blk_new, if_pos rfl]
 have wlt8 := hM8 _ _ hW8.row
 rw [← hT9, ← hRR]
 have c9 := cellsOf_of_blk hR9 0 5
 have rB9 := rd_of_blk hB9 0
 refine lK_keep [0,4,5,8,9,10,11,86,87,88] fun t1 hk' => ?_; simp only [go_sem, seval, hk] at hk'; clear hk; have hk := hk'; clear hk'
 refine lK_unroll ?_
 simp only [go_sem, seval, hk, c9]
 refine cK_of (least102 _ _ _ _ _) ?_
 rintro v X _ hMX ⟨⟨le0, okl0, rfl, hle0⟩, hX⟩
 obtain rfl := hX.symm
 simp only [go_sem, seval, hk, rB9]
 refine cK_of (is41' okl0 hW9) ?_
 rintro v T10 _ hM10 ⟨bad10, rfl, hW10, hk10, he10⟩
 have hB10 : T10.blk S.next = some ⟨false, [ptr wp]⟩ := (hk10.2 _ (hM9 _ _ hB9) (by show S.next ≠ wp; omega)).trans hB9
 have hR10 : T10.blk R = some ⟨false, [.int .i64 (ig cs 14), .int .i64 (ig cs 15), .int .i64 (ig cs 16), .int .i64 (ig cs 17), .int .i64 bw, .int .i64 (ig cs 18), .int .i64 (ig cs 19), .int .i64 (ig cs 20), .int .i64 (ig cs 21), .int .i64 bh]⟩ := (hk10.2 _ (hM9 _ _ hR9) (by show R ≠ wp; omega)).trans hR9
 have rB10 := rd_of_blk hB10 0
 simp only [go_sem, seval, hk]
 refine cK_of (most103 _ _ _ _ _) ?_
 rintro v X _ hMX ⟨⟨mo0, okm0, rfl, hmo0⟩, hX⟩
 obtain rfl := hX.symm
 simp only [go_sem, seval, hk, rB10]
 refine cK_of (is41' okm0 hW10) ?_
 rintro v T11 _ hM11 ⟨bad11, rfl, hW11, hk11, he11⟩
 have hB11 : T11.blk S.next = some ⟨false, [ptr wp]⟩ := (hk11.2 _ (hM10 _ _ hB10) (by show S.next ≠ wp; omega)).trans hB10
 have hR11 : T11.blk R = some ⟨false, [.int .i64 (ig cs 14), .int .i64 (ig cs 15), .int .i64 (ig cs 16), .int .i64 (ig cs 17), .int .i64 bw, .int .i64 (ig cs 18), .int .i64 (ig cs 19), .int .i64 (ig cs 20), .int .i64 (ig cs 21), .int .i64 bh]⟩ := (hk11.2 _ (hM10 _ _ hR10) (by show R ≠ wp; omega)).trans hR10
 simp only [go_sem, seval, hk]
 have c11 := cellsOf_of_blk hR11 5 5
 have rB11 := rd_of_blk hB11 0
 refine lK_keep [0,4,5,8,9,10,11,86,87,88] fun t1 hk' => ?_; simp only [go_sem, seval, hk] at hk'; clear hk; have hk := hk'; clear hk'
 refine lK_unroll ?_
 simp only [go_sem, seval, hk, c11]
 refine cK_of (least102 _ _ _ _ _) ?_
 rintro v X _ hMX ⟨⟨le1, okl1, rfl, hle1⟩, hX⟩
 obtain rfl := hX.symm
 simp only [go_sem, seval, hk, rB11]
 refine cK_of (is41' okl1 hW11) ?_
 rintro v T12 _ hM12 ⟨bad12, rfl, hW12, hk12, he12⟩
 have hB12 : T12.blk S.next = some ⟨false, [ptr wp]⟩ := (hk12.2 _ (hM11 _ _ hB11) (by show S.next ≠ wp; omega)).trans hB11
 have hR12 : T12.blk R = some ⟨false, [.int .i64 (ig cs 14), .int .i64 (ig cs 15), .int .i64 (ig cs 16), .int .i64 (ig cs 17), .int .i64 bw, .int .i64 (ig cs 18), .int .i64 (ig cs 19), .int .i64 (ig cs 20), .int .i64 (ig cs 21), .int .i64 bh]⟩ := (hk12.2 _ (hM11 _ _ hR11) (by show R ≠ wp; omega)).trans hR11
 have rB12 := rd_of_blk hB12 0
 simp only [go_sem, seval, hk]
 refine cK_of (most103 _ _ _ _ _) ?_
 rintro v X _ hMX ⟨⟨mo1, okm1, rfl, hmo1⟩, hX⟩
 obtain rfl := hX.symm
 simp only [go_sem, seval, hk, rB12]
 refine cK_of (is41' okm1 hW12) ?_
 rintro v T13 _ hM13 ⟨bad13, rfl, hW13, hk13, he13⟩
 have hB13 : T13.blk S.next = some ⟨false, [ptr wp]⟩ := (hk13.2 _ (hM12 _ _ hB12) (by show S.next ≠ wp; omega)).trans hB12
 have hR13 : T13.blk R = some ⟨false, [.int .i64 (ig cs 14), .int .i64 (ig cs 15), .int .i64 (ig cs 16), .int .i64 (ig cs 17), .int .i64 bw, .int .i64 (ig cs 18), .int .i64 (ig cs 19), .int .i64 (ig cs 20), .int .i64 (ig cs 21), .int .i64 bh]⟩ := (hk13.2 _ (hM12 _ _ hR12) (by show R ≠ wp; omega)).trans hR12
 simp only [go_sem, seval, hk]
 refine lK_keep [0,4,5,8,9,10,11,86,87,88] fun t1 hk' => ?_; simp only [go_sem, seval, hk] at hk'; clear hk; have hk := hk'; clear hk'
 refine lK_unroll ?_
 simp only [go_sem, seval, hk]
 refine fin_at hQ rfl ?_; simp only [go_sem, seval, aF78, hk]; rw [retQ_some]; simp only [oneOr]
 refine ⟨[_, _, _, _, _, _, _, _, _, _, _, _, _, _, _, _, _, _, _, _, _, _, _, _, _, _, _, _, _, _, _, _], bad13, rfl, trivial, hW13, ?_, fun hb => ?_⟩
 ·exact (((((((((((((k0.all.trans hk1 fun _ _ h => h).trans hk2 fun _ _ h => h).trans hk3 fun _ _ h => h).trans hk4 fun _ _ h => h).trans hk5 fun _ _ h => h).trans hk6 fun _ _ h => h).trans hk7 fun _ _ h => h).trans hk8 fun _ _ h => h).trans k9 fun _ _ _ => trivial).trans hk10 fun _ _ h => h).trans hk11 fun _ _ h => h).trans hk12 fun _ _ h => h).trans hk13 fun _ _ h => h)
 ·have f13 := he13 hb
  have f12 := he12 f13.1
  have f11 := he11 f12.1
  have f10 := he10 f11.1
  have f8 := he8 f10.1
  have f7 := he7 f8.1
  have f6 := he6 f7.1
  have f5 := he5 f6.1
  have f4 := he4 f5.1
  have f3 := he3 f4.1
  have f2 := he2 f3.1
  have f1 := he1 f2.1
  have ia : ∀ q, q < 8 → cs[2 + q]? = [Value.int .i64 a0, .int .i64 a1, .int .i64 a2, .int .i64 a3, .int .i64 a4, .int .i64 a5, .int .i64 a6, .int .i64 a7][q]? := fun q hq => by rw [← hof, List.getElem?_take, if_pos hq, List.getElem?_drop]
  have e0 : ig cs 2 = a0 := by
   have := ia 0 (by omega)
   rw [hs.I 2] at this
   simpa using this
  have e1 : ig cs 3 = a1 := by
   have := ia 1 (by omega)
   rw [hs.I 3] at this
   simpa using this
  have e2 : ig cs 4 = a2 := by
   have := ia 2 (by omega)
   rw [hs.I 4] at this
   simpa using this
  have e3 : ig cs 5 = a3 := by
   have := ia 3 (by omega)
   rw [hs.I 5] at this
   simpa using this
  have e4 : ig cs 6 = a4 := by
   have := ia 4 (by omega)
   rw [hs.I 6] at this
   simpa using this
  have e5 : ig cs 7 = a5 := by
   have := ia 5 (by omega)
   rw [hs.I 7] at this
   simpa using this
  have e6 : ig cs 8 = a6 := by
   have := ia 6 (by omega)
   rw [hs.I 8] at this
   simpa using this
  have e7 : ig cs 9 = a7 := by
   have := ia 7 (by omega)
   rw [hs.I 9] at this
   simpa using this
  refine ⟨f1.1, fun q hq => ?_, hsp1 f5.2, hsp2 f6.2, f7.2, f8.2, hle0, hle1, hmo0, hmo1⟩
  match q, hq with
  | 0, _ => show SzP (ig cs 2) (ig cs 3) b0 n0; rw [e0, e1]; exact f1.2
  | 1, _ => show SzP (ig cs 4) (ig cs 5) b1 n1; rw [e2, e3]; exact f2.2
  | 2, _ => show SzP (ig cs 6) (ig cs 7) b2 n2; rw [e4, e5]; exact f3.2
  | 3, _ => show SzP (ig cs 8) (ig cs 9) b3 n3; rw [e6, e7]; exact f4.2
end
end Go.Proofs.YtegaklgjcicnfaaGreat
namespace Go.Proofs.YtegaklgjcicnfaaGreat
open Go Go.Proofs.YtegaklgjcicnfaaGreat.Abs
/-- Sides and ends said, 0; nothing else; nothing around. -/
structure PlainZ (cs zs : List Value) : Prop where
 off : ∀ q, q < 4 → bg zs (q * 2) = false ∧ ig zs (q * 2 + 1) = 0
 mar : ∀ q, q < 4 → bg zs (8 + q * 2) = true
 pad : ∀ q, q < 4 → ig zs (16 + q * 2 + 1) = 0
 wide : bg zs 24 = true
 high : bg zs 26 = true
 l0 : ig zs 28 = 0
 l1 : ig zs 29 = 0
 m0 : ig zs 30 = 1125899906842624
 m1 : ig zs 31 = 1125899906842624
 bor : ∀ q, q < 4 → ig cs (38 + q) = 0
theorem wrap0 : IntKind.i64.wrap (0 - 0) = 0 := by decide
section
variable {S S' : St} {hi kp : Nat} {l : List Nd} {wp db dk : Nat} {v0 v1 : Int} {ag : Value} {bad : Bool} {bs ks : List Value}
set_option maxHeartbeats 4000000 in
theorem across79 (hok : ∀ x ∈ l, x.Ok) (hform : TForm l) (hl : l.length ≤ 24) (n : Nat) (h0 : 0 < n) (hn : n < l.length) (zs : List Value) (hz : Fl sizesSg zs) (x0 y0 x1 y1 : Int) (rtl : Bool) (h : WorkAt S hi kp l wp db dk v0 v1 ag bad bs ks) :
  ACalls Tryz.prog 79 [ptr wp, .int .i64 n, .agg zs.toArray, .agg #[.int .i64 x0, .int .i64 y0, .int .i64 x1, .int .i64 y1], .bool rtl] S fun r S' => ∃ xs bad', r = .agg (iV xs).toArray ∧ xs.length = 5 ∧ WorkAt S' hi kp l wp db dk v0 v1 ag bad' bs ks ∧ Keeps S S' (· ≠ wp) ∧ (bad' = false → bad = false ∧ (PlainZ l[n].s.cells zs → x0 = 0 → 0 ≤ x1 → x1 ≤ 1099511627776 → xs = [0, 0, x1, 0, 0])) := by
 refine run_of hmix Tryz.func79 cF79 rfl fun hL Q hQ => ?_
 have r0 := rd_of_blk h.row 0
 simp only [workV] at r0
 have hs := sty_fl (hok _ (List.getElem_mem hn)).s
 obtain ⟨p, hp, hpn⟩ := par_nat hform h0 hn
 have hpl : p < l.length := by omega
 have hpl' : (p : Int) < l.length := by omega
 have hp0 : (0 : Int) ≤ p := by omega
 simp only [go_sem, seval, aF79, hz.N 32, hz.F 32, r0]
 refine cK_of (style55 h.kin hok hn) ?_
 rintro v S1 _ hL1 ⟨rfl, hS1⟩
 obtain rfl := hS1.symm
 generalize hcs : l[n].s.cells = cs at *
 simp only [go_sem, seval, r0]
 refine cK_of (parent70 h.kin hok hn) ?_
 rintro v S1 _ hL1 ⟨rfl, hS1⟩
 obtain rfl := hS1.symm
 rw [hp]
 simp only [go_sem, seval, r0, hs.N 48, hs.F 48, z39]
 have hiS : hi ≤ S.next := Nat.le_trans h.h3 (Nat.le_of_lt (hL _ _ h.row))
 refine cK_of (content114 hok (by omega) l.length n hn (by omega) S h.kin hiS) ?_
 rintro v S1 _ hL1 ⟨⟨want, ok1, rfl⟩, hk1⟩
 have hW1 := h.keeps hL hk1
 simp only [go_sem, seval]
 refine cK_of (is41' ok1 hW1) ?_
 rintro v S2 _ hL2 ⟨bad2, rfl, hW2, hk2, hb2⟩
 simp only [go_sem, seval]
 refine cK_of (corner71 p hpl (by omega) hW2) ?_
 rintro v S3 _ hL3 ⟨cx, cy, bad3, rfl, hW3, hk3, hb3⟩
 have s0 := rd_of_blk hW3.row 0
 have s3 := rd_of_blk hW3.row 3
 simp only [workV] at s0 s3
 have hbx := box_at hW3 hpl
 have hbo := (hW3.bok p hpl).1
 have hb3' : rd S3 db (p * 21 + 3) = some (.int .i64 (ig ((bs.drop (p * 21)).take 21) 3)) := by rw [rd_of_cells hbx (by omega)]; exact hbo.I 3
 have wl := hL3 _ _ hW3.row
 have dl := hL3 _ _ hW3.box
 have q1 : (wp = S3.next) = False := eq_false (by omega)
 have q2 : (wp = S3.next + 1) = False := eq_false (by omega)
 have q3 : (wp = S3.next + 1 + 1) = False := eq_false (by omega)
 have q4 : (wp = S3.next + 1 + 1 + 1) = False := eq_false (by omega)
 have d1 : (db = S3.next) = False := eq_false (by omega)
 have d2 : (db = S3.next + 1) = False := eq_false (by omega)
 have d3 : (db = S3.next + 1 + 1) = False := eq_false (by omega)
 simp only [go_sem, seval, q1, q2, q3, q4, d1, d2, d3, hz.N 32, hs.N 48, s0, s3, hpl', hp0, Int.toNat_natCast, hb3', hz.Z 0, hz.Z 2, hz.Z 6, hz.Z 8, hz.Z 10, hz.Z 14, hz.Z 24, hs.I 41, hs.I 39, hz.I 23, hz.I 19, hz.I 28, hz.I 30]
 generalize ig ((bs.drop (p * 21)).take 21) 3 = bw at *
 obtain ⟨Sa, hSa⟩ : ∃ Sa, Sa = S3.new ⟨false, iV [x1, IntKind.i64.wrap (0 - x0)]⟩ := ⟨_, rfl⟩
 obtain ⟨Sb, hSb⟩ : ∃ Sb, Sb = Sa.new ⟨false, iV [ig cs 41, ig zs 23, ig zs 19, ig cs 39]⟩ := ⟨_, rfl⟩
 obtain ⟨Sc, hSc⟩ : ∃ Sc, Sc = Sb.new ⟨false, iV [cx, IntKind.i64.wrap (0 - x0)]⟩ := ⟨_, rfl⟩
 obtain ⟨Sd, hSd⟩ : ∃ Sd, Sd = Sc.new ⟨false, iV [x1, IntKind.i64.wrap (0 - cx), IntKind.i64.wrap (0 - bw)]⟩ := ⟨_, rfl⟩
 have na : Sa.next = S3.next + 1 := by rw [hSa]; rfl
 have nb : Sb.next = S3.next + 1 + 1 := by rw [hSb, ← na]; rfl
 have nc : Sc.next = S3.next + 1 + 1 + 1 := by rw [hSc, ← nb]; rfl
 have hLa : Live Sa := by rw [hSa]; exact hL3.new _
 have hLb : Live Sb := by rw [hSb]; exact hLa.new _
 have hLc : Live Sc := by rw [hSc]; exact hLb.new _
 have hLd : Live Sd := by rw [hSd]; exact hLc.new _
 have ka : KeepsAll S3 Sa := by rw [hSa]; exact Keeps.of_new _ _ _
 have kb : KeepsAll Sa Sb := by rw [hSb]; exact Keeps.of_new _ _ _
 have kc : KeepsAll Sb Sc := by rw [hSc]; exact Keeps.of_new _ _ _
 have kd : KeepsAll Sc Sd := by rw [hSd]; exact Keeps.of_new _ _ _
 have e : (((S3.new ⟨false, iV [x1, IntKind.i64.wrap (0 - x0)]⟩).new ⟨false, iV [ig cs 41, ig zs 23, ig zs 19, ig cs 39]⟩).new ⟨false, iV [cx, IntKind.i64.wrap (0 - x0)]⟩).new ⟨false, iV [x1, IntKind.i64.wrap (0 - cx), IntKind.i64.wrap (0 - bw)]⟩ = Sd := by rw [hSd, hSc, hSb, hSa]
 have xa : Sl Sa 1 (.slice (some ⟨S3.next, 0, none⟩) 2 1) 2 (iV [x1, IntKind.i64.wrap (0 - x0)]) := by rw [hSa]; have := sl_new S3 [x1, IntKind.i64.wrap (0 - x0)]; exact this
 have xb : Sl Sb 1 (.slice (some ⟨S3.next + 1, 0, none⟩) 4 1) 4 (iV [ig cs 41, ig zs 23, ig zs 19, ig cs 39]) := by rw [hSb]; have := sl_new Sa [ig cs 41, ig zs 23, ig zs 19, ig cs 39]; rw [na] at this; exact this
 have xc : Sl Sc 1 (.slice (some ⟨S3.next + 1 + 1, 0, none⟩) 2 1) 2 (iV [cx, IntKind.i64.wrap (0 - x0)]) := by rw [hSc]; have := sl_new Sb [cx, IntKind.i64.wrap (0 - x0)]; rw [nb] at this; exact this
 have xd : Sl Sd 1 (.slice (some ⟨S3.next + 1 + 1 + 1, 0, none⟩) 3 1) 3 (iV [x1, IntKind.i64.wrap (0 - cx), IntKind.i64.wrap (0 - bw)]) := by rw [hSd]; have := sl_new Sc [x1, IntKind.i64.wrap (0 - cx), IntKind.i64.wrap (0 - bw)]; rw [nc] at this; exact this
 have ya := ((xa.keeps hLa kb fun _ _ => trivial).keeps hLb kc fun _ _ => trivial).keeps hLc kd fun _ _ => trivial
 have yb := (xb.keeps hLb kc fun _ _ => trivial).keeps hLc kd fun _ _ => trivial
 have yc := xc.keeps hLc kd fun _ _ => trivial
 have W0 := (((hW3.keeps hL3 ka).keeps hLa kb).keeps hLb kc).keeps hLc kd
 have e' := e
 simp only [iV, List.map_cons, List.map_nil] at e'
 rw [e']
 refine cK_of (sum74' _ [x1, IntKind.i64.wrap (0 - x0)] hLd W0 ya (by simp)) ?_
 rintro v U1 _ hU1 ⟨m1, bd1, rfl, W1, w1, _, f1⟩
 have s0_1 := rd_of_blk W1.row 0
 have s3_1 := rd_of_blk W1.row 3
 simp only [workV] at s0_1 s3_1
 have b3_1 : rd U1 db (p * 21 + 3) = some (.int .i64 bw) := by rw [rd_congr (W1.box.trans hW3.box.symm)]; exact hb3'
 simp only [go_sem, seval, s0_1, s3_1, hpl', hp0, Int.toNat_natCast, b3_1]
 have yb1 := yb.keeps hLd w1 fun i hi => by simp [Value.blkOf] at hi; show i ≠ wp; omega
 have yc1 := yc.keeps hLd w1 fun i hi => by simp [Value.blkOf] at hi; show i ≠ wp; omega
 have yd1 := xd.keeps hLd w1 fun i hi => by simp [Value.blkOf] at hi; show i ≠ wp; omega
 refine cK_of (sum74' _ [ig cs 41, ig zs 23, ig zs 19, ig cs 39] hU1 W1 yb1 (by simp)) ?_
 rintro v U2 _ hU2 ⟨m2, bd2, rfl, W2, w2, _, f2⟩
 have s0_2 := rd_of_blk W2.row 0
 have s3_2 := rd_of_blk W2.row 3
 simp only [workV] at s0_2 s3_2
 have b3_2 : rd U2 db (p * 21 + 3) = some (.int .i64 bw) := by rw [rd_congr (W2.box.trans hW3.box.symm)]; exact hb3'
 simp only [go_sem, seval, s0_2, s3_2, hpl', hp0, Int.toNat_natCast, b3_2]
 have yc2 := yc1.keeps hU1 w2 fun i hi => by simp [Value.blkOf] at hi; show i ≠ wp; omega
 have yd2 := yd1.keeps hU1 w2 fun i hi => by simp [Value.blkOf] at hi; show i ≠ wp; omega
 refine cK_of (sum74' _ [cx, IntKind.i64.wrap (0 - x0)] hU2 W2 yc2 (by simp)) ?_
 rintro v U3 _ hU3 ⟨m3, bd3, rfl, W3, w3, _, f3⟩
 have s0_3 := rd_of_blk W3.row 0
 have s3_3 := rd_of_blk W3.row 3
 simp only [workV] at s0_3 s3_3
 have b3_3 : rd U3 db (p * 21 + 3) = some (.int .i64 bw) := by rw [rd_congr (W3.box.trans hW3.box.symm)]; exact hb3'
 simp only [go_sem, seval, s0_3, s3_3, hpl', hp0, Int.toNat_natCast, b3_3]
 have yd3 := yd2.keeps hU2 w3 fun i hi => by simp [Value.blkOf] at hi; show i ≠ wp; omega
 refine cK_of (sum74' _ [x1, IntKind.i64.wrap (0 - cx), IntKind.i64.wrap (0 - bw)] hU3 W3 yd3 (by simp)) ?_
 rintro v U4 _ hU4 ⟨m4, bd4, rfl, W4, w4, _, f4⟩
 have s0_4 := rd_of_blk W4.row 0
 have s3_4 := rd_of_blk W4.row 3
 simp only [workV] at s0_4 s3_4
 have b3_4 : rd U4 db (p * 21 + 3) = some (.int .i64 bw) := by rw [rd_congr (W4.box.trans hW3.box.symm)]; exact hb3'
 simp only [go_sem, seval, s0_4, s3_4, hpl', hp0, Int.toNat_natCast, b3_4]
 have hsp := sty_fl (hok _ (List.getElem_mem hpl)).s
 refine cK_of (style55 W4.kin hok hpl) ?_
 rintro v S1 _ hL1' ⟨rfl, hS1⟩
 obtain rfl := hS1.symm
 generalize l[p].s.cells = cp at *
 simp only [go_sem, seval, hsp.B 42, z200]
 refine cK_of (hang115 [.int .i64 m1, .bool (bg zs 6), .int .i64 (ig zs (6 + 1)), .bool (bg zs 14), .int .i64 (ig zs (14 + 1)), .bool (bg zs 24), .int .i64 (ig zs (24 + 1)), .bool (bg zs 10), .int .i64 (ig zs (10 + 1)), .bool (bg zs 2), .int .i64 (ig zs (2 + 1)), .int .i64 m2, .int .i64 want, .int .i64 m3, .int .i64 m4, .bool rtl, .bool (bg cp 42), .int .i64 (ig zs 28), .int .i64 (ig zs 30)] U4 (by trivial)) ?_
 rintro v S5 _ hL5 ⟨⟨xs, ok5, rfl, hxl, hex⟩, hk5⟩
 have W5 := W4.keeps hU4 hk5
 obtain ⟨t0, t1, t2, t3, t4, rfl⟩ : ∃ a b c d e, xs = [a, b, c, d, e] := by
  match xs, hxl with
  | [a, b, c, d, e], _ => exact ⟨_, _, _, _, _, rfl⟩
 simp only [go_sem, seval, iV, List.map_cons, List.map_nil]
 refine cK_of (is41' ok5 W5) ?_
 rintro v S6 _ hL6 ⟨bad6, rfl, W6, hk6, f6⟩
 simp only [go_sem, seval]
 refine fin_at hQ rfl ?_; simp only [go_sem, seval, aF79]; rw [retQ_some]; simp only [oneOr]
 refine ⟨[t0, t1, t2, t3, t4], bad6, rfl, rfl, W6, ?_, fun hb => ?_⟩
 ·exact ((((((((((((hk1.all.trans hk2 fun _ _ h => h).trans hk3 fun _ _ h => h).trans ka fun _ _ _ => trivial).trans kb fun _ _ _ => trivial).trans kc fun _ _ _ => trivial).trans kd fun _ _ _ => trivial).trans w1 fun _ _ h => h).trans w2 fun _ _ h => h).trans w3 fun _ _ h => h).trans w4 fun _ _ h => h).trans hk5 fun _ _ _ => trivial).trans hk6 fun _ _ h => h)
 ·have g6 := f6 hb
  have g4 := f4 g6.1
  have g3 := f3 g4.1
  have g2 := f2 g3.1
  have g1 := f1 g2.1
  refine ⟨(hb2 (hb3 g1.1)).1, fun pz hx0 hx1 hx2 => ?_⟩
  have e1 : m1 = x1 := by rw [g1.2.1, hx0, wrap0]; simp [sumI]
  have e2 : m2 = 0 := by
   rw [g2.2.1]
   have a := pz.bor 3 (by omega)
   have b := pz.bor 1 (by omega)
   have c := pz.pad 3 (by omega)
   have d := pz.pad 1 (by omega)
   simp [sumI] at a b c d ⊢
   omega
  subst e1
  subst e2
  exact hex ⟨(pz.off 3 (by omega)).1, (pz.off 3 (by omega)).2, pz.mar 3 (by omega), pz.wide, pz.mar 1 (by omega), (pz.off 1 (by omega)).1, (pz.off 1 (by omega)).2, rfl, hx1, hx2⟩ pz.l0 pz.m0 g6.2
end
end Go.Proofs.YtegaklgjcicnfaaGreat
namespace Go.Proofs.YtegaklgjcicnfaaGreat
open Go Go.Proofs.YtegaklgjcicnfaaGreat.Abs
theorem LayP.keeps {l : List Nd} {n b : Nat} {S S' S'' : St} {v : Value} (h : LayP l n b S S' v) (hL : Live S') {P : Nat → Prop} (hk : Keeps S' S'' P) (hP : ∀ i, S.next ≤ i → P i) : LayP l n b S S'' v := by
 obtain ⟨L, y, e, t1, t2, c1, c2, k, high, m, cs, rfl, hy, hsl, hf, hm, hp⟩ := h
 exact ⟨L, y, e, t1, t2, c1, c2, k, high, m, cs, rfl, hy, hsl.keeps hL hk fun i hi => hP i (hf i hi), hf, hm, hp⟩
theorem LayP.mono {l : List Nd} {n b : Nat} {S0 S S' : St} {v : Value} (h : LayP l n b S S' v) (h0 : S0.next ≤ S.next) : LayP l n b S0 S' v := by
 obtain ⟨L, y, e, t1, t2, c1, c2, k, high, m, cs, rfl, hy, hsl, hf, hm, hp⟩ := h
 exact ⟨L, y, e, t1, t2, c1, c2, k, high, m, cs, rfl, hy, hsl, fun i hi => Nat.le_trans h0 (hf i hi), hm, hp⟩
section
variable {S S' : St} {hi kp : Nat} {l : List Nd} {wp db dk : Nat} {v0 v1 : Int} {ag : Value} {bad : Bool} {bs ks : List Value}
theorem WorkAt.setKn (h : WorkAt S hi kp l wp db dk v0 v1 ag bad bs ks) {n : Nat} (hn : n < l.length) (b : Bool) : WorkAt (S.set dk ⟨false, ks.set n (.bool b)⟩) hi kp l wp db dk v0 v1 ag bad bs (ks.set n (.bool b)) :=
 { h with
  row := by rw [St.blk_set, if_neg h.n3]; exact h.row
  box := by rw [St.blk_set, if_neg h.n1]; exact h.box
  kn := blk_set_self _ _ _
  kl := by rw [List.length_set]; exact h.kl
  kok := fun j hj => by
   by_cases e : n = j
   ·subst e; exact ⟨b, by rw [List.getElem?_set_self (by rw [h.kl]; exact hj)]⟩
   ·rw [List.getElem?_set_ne e]; exact h.kok j hj
  kin := h.kin.keep fun i hi' => by rw [St.blk_set, if_neg (by have := h.h2; omega)] }
set_option maxHeartbeats 4000000 in
theorem down80 (hok : ∀ x ∈ l, x.Ok) (hform : TForm l) (hl : l.length ≤ 24) (n : Nat) (h0 : 0 < n) (hn : n < l.length) (zs : List Value) (hz : Fl sizesSg zs) (x0 y0 x1 y1 wide : Int) (h : WorkAt S hi kp l wp db dk v0 v1 ag bad bs ks) :
  ACalls Tryz.prog 80 [ptr wp, .int .i64 n, .agg zs.toArray, .agg #[.int .i64 x0, .int .i64 y0, .int .i64 x1, .int .i64 y1], .int .i64 wide] S fun r S' => ∃ xs v kb bad', r = .tuple #[.agg (iV xs).toArray, v] ∧ xs.length = 5 ∧ LayP l n (bd l n) S S' v ∧ WorkAt S' hi kp l wp db dk v0 v1 ag bad' bs (ks.set n (.bool kb)) ∧ Keeps S S' (fun i => i ≠ wp ∧ i ≠ dk) ∧
   (bad' = false → bad = false ∧ (PlainZ l[n].s.cells zs → y0 = 0 → 0 ≤ y1 → y1 ≤ 1099511627776 → xs = [0, 0, y1, 0, 0])) := by
 refine run_of hmix Tryz.func80 cF80 rfl fun hL Q hQ => ?_
 have r0 := rd_of_blk h.row 0
 simp only [workV] at r0
 have hs := sty_fl (hok _ (List.getElem_mem hn)).s
 have z0 : zs.take 2 = [.bool (bg zs 0), .int .i64 (ig zs 1)] := hz.Z 0 rfl rfl
 simp only [go_sem, seval, aF80, hz.N 32, hz.F 32, r0]
 refine cK_of (style55 h.kin hok hn) ?_
 rintro v S1 _ hL1 ⟨rfl, hS1⟩
 obtain rfl := hS1.symm
 generalize hcs : l[n].s.cells = cs at *
 have wl := hL _ _ h.row
 have q1 : (wp = S.next) = False := eq_false (by omega)
 have q2 : (wp = S.next + 1) = False := eq_false (by omega)
 simp only [go_sem, seval, hs.N 48, hs.F 48, hz.N 32, z39, z0, hz.Z 4, hz.Z 8, hz.Z 12, hz.Z 26, hs.I 38, hs.I 40, hz.I 17, hz.I 21, hz.I 29, hz.I 31]
 obtain ⟨Sa, hSa⟩ : ∃ Sa, Sa = S.new ⟨false, iV [y1, IntKind.i64.wrap (0 - y0)]⟩ := ⟨_, rfl⟩
 obtain ⟨Sb, hSb⟩ : ∃ Sb, Sb = Sa.new ⟨false, iV [ig cs 38, ig zs 17, ig zs 21, ig cs 40]⟩ := ⟨_, rfl⟩
 have na : Sa.next = S.next + 1 := by rw [hSa]; rfl
 have hLa : Live Sa := by rw [hSa]; exact hL.new _
 have hLb : Live Sb := by rw [hSb]; exact hLa.new _
 have ka : KeepsAll S Sa := by rw [hSa]; exact Keeps.of_new _ _ _
 have kb : KeepsAll Sa Sb := by rw [hSb]; exact Keeps.of_new _ _ _
 have e : (S.new ⟨false, iV [y1, IntKind.i64.wrap (0 - y0)]⟩).new ⟨false, iV [ig cs 38, ig zs 17, ig zs 21, ig cs 40]⟩ = Sb := by rw [hSb, hSa]
 have xa : Sl Sa 1 (.slice (some ⟨S.next, 0, none⟩) 2 1) 2 (iV [y1, IntKind.i64.wrap (0 - y0)]) := by rw [hSa]; have := sl_new S [y1, IntKind.i64.wrap (0 - y0)]; exact this
 have xb : Sl Sb 1 (.slice (some ⟨S.next + 1, 0, none⟩) 4 1) 4 (iV [ig cs 38, ig zs 17, ig zs 21, ig cs 40]) := by rw [hSb]; have := sl_new Sa [ig cs 38, ig zs 17, ig zs 21, ig cs 40]; rw [na] at this; exact this
 have ya := xa.keeps hLa kb fun _ _ => trivial
 have W0 := (h.keeps hL ka).keeps hLa kb
 have e' := e
 simp only [iV, List.map_cons, List.map_nil] at e'
 rw [e']
 refine cK_of (sum74' _ [y1, IntKind.i64.wrap (0 - y0)] hLb W0 ya (by simp)) ?_
 rintro v U1 _ hU1 ⟨m1, bd1, rfl, W1, w1, _, f1⟩
 simp only [go_sem, seval]
 have yb1 := xb.keeps hLb w1 fun i hi => by simp [Value.blkOf] at hi; show i ≠ wp; omega
 refine cK_of (sum74' _ [ig cs 38, ig zs 17, ig zs 21, ig cs 40] hU1 W1 yb1 (by simp)) ?_
 rintro v U2 _ hU2 ⟨m2, bd2, rfl, W2, w2, _, f2⟩
 simp only [go_sem, seval]
 refine cK_keep [0,1,4,10,11,13,14,16,18,20,35,38,41,43,46,49,66,73,76] fun t1 hk' => ?_; simp only [go_sem, seval] at hk'; have hk := hk'; clear hk'
 refine cK_of (static116 hok hform hl n h0 hn _ _ _ _ W2) ?_
 rintro v U3 _ hU3 ⟨m3, bd3, rfl, W3, w3, f3⟩
 have k3 : Keeps S U3 (fun i => i ≠ wp) := ((((ka.all.trans kb fun _ _ _ => trivial).trans w1 fun _ _ h => h).trans w2 fun _ _ h => h).trans w3 fun _ _ h => h)
 have r4 := rd_of_blk W3.row 4
 simp only [workV] at r4
 simp only [go_sem, seval, hk, z205, r4, z0]
 refine cK_of (known117 _ _ _ _ _ _ U3) ?_
 rintro v S1 _ hL1' ⟨rfl, hS1⟩
 obtain rfl := hS1.symm
 generalize (!bg zs 26 || (!bg zs 0 && !bg zs 4)) = kb
 have hn0 : (0 : Int) ≤ n := by omega
 have hnl : (n : Int) < l.length := by omega
 have hkk := W3.kn
 have hk1 : n + 1 ≤ ks.length := by have := W3.kl; omega
 have W4 := W3.setKn hn kb
 have hn3 := W3.n3
 obtain ⟨U4, hU⟩ : ∃ U4, U4 = U3.set dk ⟨false, ks.set n (.bool kb)⟩ := ⟨_, rfl⟩
 rw [← hU] at W4
 have k4 : Keeps S U4 (fun i => i ≠ wp ∧ i ≠ dk) := by rw [hU]; exact (k3.mono fun i _ h => h.1).set (fun i _ h => h.2) _
 have s0 := rd_of_blk W4.row 0
 have s4 := rd_of_blk W4.row 4
 simp only [workV] at s0 s4
 simp only [go_sem, seval, hk, r4, hn0, hnl, Int.toNat_natCast, Nat.mul_one, hkk, hk1, hn3, Ne.symm hn3]
 rw [← hU]
 have rg : (ks.set n (Value.bool kb))[n]? = some (.bool kb) := List.getElem?_set_self (by omega)
 simp only [go_sem, seval, hk, rg]
 (first | refine cK_keep [0,1,4,10,11,13,14,16,18,20] fun t1 hk' => ?_ | refine lK_keep [0,1,4,10,11,13,14,16,18,20] fun t1 hk' => ?_ | refine iK_keep [0,1,4,10,11,13,14,16,18,20] fun t1 hk' => ?_ | refine hK_keep [0,1,4,10,11,13,14,16,18,20] fun t1 hk' => ?_); simp only [go_sem, seval, hk] at hk'; clear hk; have hk := hk'; clear hk'
 have hL4 : Live U4 := by rw [hU]; exact hU3.set _ _ (hU3 _ _ W3.kn)
 have hiS : hi ≤ U4.next := Nat.le_trans W4.h3 (Nat.le_of_lt (hL4 _ _ W4.row))
 have ef : bd3 = false → bad = false ∧ m1 = sumI [y1, IntKind.i64.wrap (0 - y0)] ∧ m2 = sumI [ig cs 38, ig zs 17, ig zs 21, ig cs 40] := fun hb =>
  ⟨(f1 (f2 (f3 hb)).1).1, (f1 (f2 (f3 hb)).1).2.1, (f2 (f3 hb)).2.1⟩
 have ex : ∀ (want : Int) (xs : List Int) (ok : Bool), (Hz [.int .i64 m1, .bool (bg zs 0), .int .i64 (ig zs 1), .bool (bg zs 8), .int .i64 (ig zs 9), .bool (bg zs 26), .int .i64 (ig zs 27), .bool (bg zs 12), .int .i64 (ig zs 13), .bool (bg zs 4), .int .i64 (ig zs 5), .int .i64 m2, .int .i64 want, .int .i64 m3, .int .i64 (ig zs 29), .int .i64 (ig zs 31)] → ig zs 29 = 0 → ig zs 31 = 1125899906842624 → ok = true → xs = [0, 0, m1, 0, 0]) →
   bd3 = false → ok = true → PlainZ cs zs → y0 = 0 → 0 ≤ y1 → y1 ≤ 1099511627776 → xs = [0, 0, y1, 0, 0] := fun want xs ok hex hb hok' pz hy0 hy1 hy2 => by
  obtain ⟨_, e1, e2⟩ := ef hb
  have e1 : m1 = y1 := by rw [e1, hy0, wrap0]; simp [sumI]
  have e2 : m2 = 0 := by
   rw [e2]
   have a := pz.bor 0 (by omega)
   have b := pz.bor 2 (by omega)
   have c := pz.pad 0 (by omega)
   have d := pz.pad 2 (by omega)
   simp [sumI] at a b c d ⊢
   omega
  subst e1
  subst e2
  exact hex ⟨(pz.off 0 (by omega)).1, (pz.off 0 (by omega)).2, pz.mar 0 (by omega), pz.high, pz.mar 2 (by omega), (pz.off 2 (by omega)).1, (pz.off 2 (by omega)).2, rfl, hy1, hy2⟩ pz.l1 pz.m1 hok'
 cases kb
 ·simp only [go_sem, seval, hk, s0]
  refine cK_of (inside118 hok hl n hn U4 _ _ _ W4.kin hiS) ?_
  rintro v U5 _ hL5 ⟨⟨v', ok1, rfl, hlay⟩, hk5⟩
  have W5 := W4.keeps hL4 hk5
  have hlay' := hlay
  obtain ⟨Lx, yx, e1, a1, a2, c1, c2, kk, high, m, cs', rfl, ⟨ya, yi, yj, rfl⟩, hsl, hf, hm, hp⟩ := hlay'
  obtain ⟨La, Le, rfl⟩ := hsl.slice
  simp only [go_sem, seval, hk, layV]
  refine cK_of (drop119 [.int .i64 m1, .bool (bg zs 0), .int .i64 (ig zs 1), .bool (bg zs 8), .int .i64 (ig zs 9), .bool (bg zs 26), .int .i64 (ig zs 27), .bool (bg zs 12), .int .i64 (ig zs 13), .bool (bg zs 4), .int .i64 (ig zs 5), .int .i64 m2, .int .i64 high, .int .i64 m3, .int .i64 (ig zs 29), .int .i64 (ig zs 31)] U5 (by trivial)) ?_
  rintro v U6 _ hL6 ⟨⟨xs, ok2, rfl, hxl, hex⟩, hk6⟩
  have W6 := W5.keeps hL5 hk6
  obtain ⟨t0, t2, t3, t4, t5, rfl⟩ := len5 hxl
  cases ok1
  all_goals
   simp only [go_sem, seval, hk, iV]
   refine cK_of (is41' _ W6) ?_
   rintro v U7 _ hL7 ⟨bad7, rfl, W7, k7, f7⟩
   simp only [go_sem, seval, hk]
   refine fin_at hQ rfl ?_; simp only [go_sem, seval, aF80, hk]; rw [retQ_some]; simp only [oneOr]
   refine ⟨[t0, t2, t3, t4, t5], _, false, bad7, rfl, rfl, ((hlay.mono k4.1).keeps hL5 hk6 fun _ _ => trivial).keeps hL6 k7 fun i hi' => by omega, W7, ((k4.trans hk5 fun _ _ _ => trivial).trans hk6 fun _ _ _ => trivial).trans k7 fun i _ h => h.1, fun hb => ?_⟩
   first
    | (have := (f7 hb).2; cases this; done)
    | exact ⟨(ef (f7 hb).1).1, ex high _ ok2 hex (f7 hb).1 (f7 hb).2⟩
 ·simp only [go_sem, seval, hk, s0]
  refine cK_of (drop119 [.int .i64 m1, .bool (bg zs 0), .int .i64 (ig zs 1), .bool (bg zs 8), .int .i64 (ig zs 9), .bool (bg zs 26), .int .i64 (ig zs 27), .bool (bg zs 12), .int .i64 (ig zs 13), .bool (bg zs 4), .int .i64 (ig zs 5), .int .i64 m2, .int .i64 0, .int .i64 m3, .int .i64 (ig zs 29), .int .i64 (ig zs 31)] U4 (by trivial)) ?_
  rintro v U5 _ hL5 ⟨⟨xs, ok2, rfl, hxl, hex⟩, hk5⟩
  have W5 := W4.keeps hL4 hk5
  obtain ⟨t0, t2, t3, t4, t5, rfl⟩ := len5 hxl
  simp only [go_sem, seval, hk, iV]
  refine cK_of (is41' _ W5) ?_
  rintro v U6 _ hL6 ⟨bad6, rfl, W6, k6, f6⟩
  have k46 : Keeps S U6 (fun i => i ≠ wp ∧ i ≠ dk) := (k4.trans hk5 fun _ _ _ => trivial).trans k6 fun i _ h => h.1
  have s6 := rd_of_blk W6.row 0
  simp only [workV] at s6
  cases bad6
  case' true =>
   simp only [go_sem, seval, hk]
   refine fin_at hQ rfl ?_; simp only [go_sem, seval, aF80, hk]; rw [retQ_some]; simp only [oneOr]
   exact ⟨[t0, t2, t3, t4, t5], _, true, true, rfl, rfl, layP_nil _ _ _ _ _, W6, k46, fun hb => by cases hb⟩
  simp only [go_sem, seval, hk, s6]
  have hiS6 : hi ≤ U6.next := Nat.le_trans W6.h3 (Nat.le_of_lt (hL6 _ _ W6.row))
  refine cK_of (inside118 hok hl n hn U6 _ _ _ W6.kin hiS6) ?_
  rintro v U7 _ hL7 ⟨⟨v', ok1, rfl, hlay⟩, hk7⟩
  have W7 := W6.keeps hL6 hk7
  have hlay' := hlay
  obtain ⟨Lx, yx, e1, a1, a2, c1, c2, kk, high, m, cs', rfl, ⟨ya, yi, yj, rfl⟩, hsl, hf, hm, hp⟩ := hlay'
  obtain ⟨La, Le, rfl⟩ := hsl.slice
  simp only [go_sem, seval, hk, layV]
  refine cK_of (is41' _ W7) ?_
  rintro v U8 _ hL8 ⟨bad8, rfl, W8, k8, f8⟩
  simp only [go_sem, seval, hk]
  refine fin_at hQ rfl ?_; simp only [go_sem, seval, aF80, hk]; rw [retQ_some]; simp only [oneOr]
  exact ⟨[t0, t2, t3, t4, t5], _, true, bad8, rfl, rfl, (hlay.mono k46.1).keeps hL7 k8 fun i hi' => by omega, W8, (k46.trans hk7 fun _ _ _ => trivial).trans k8 fun i _ h => h.1, fun hb => ⟨(ef (f6 rfl).1).1, ex 0 _ ok2 hex (f6 rfl).1 (f6 rfl).2⟩⟩
end
end Go.Proofs.YtegaklgjcicnfaaGreat
namespace Go.Proofs.YtegaklgjcicnfaaGreat
open Go Go.Proofs.YtegaklgjcicnfaaGreat.Abs
/-- A style: all sides and ends said, 0; paddings 0; nothing else. -/
structure PlainC (cs : List Value) : Prop where
 off : ∀ q, q < 4 → ig cs (2 + q * 2) = 1 ∧ ig cs (2 + q * 2 + 1) = 0
 mar : ∀ q, q < 4 → ig cs (22 + q * 2) = 0
 pad : ∀ q, q < 4 → ig cs (30 + q * 2) = 1 ∧ ig cs (30 + q * 2 + 1) = 0
 w : ig cs 10 = 0
 h : ig cs 12 = 0
 a : ig cs 14 = 0
 b : ig cs 18 = 0
 c : ig cs 16 = 0
 d : ig cs 20 = 0
 bor : ∀ q, q < 4 → ig cs (38 + q) = 0
theorem ig_sub (cs : List Value) (o n k : Nat) (hk : k < n) : ig ((cs.drop o).take n) k = ig cs (o + k) := by
 unfold ig
 rw [List.getElem?_take, if_pos hk, List.getElem?_drop]
theorem bg_sub (cs : List Value) (o n k : Nat) (hk : k < n) : bg ((cs.drop o).take n) k = bg cs (o + k) := by
 unfold bg
 rw [List.getElem?_take, if_pos hk, List.getElem?_drop]
theorem PlainC.z {cs zs : List Value} (h : PlainC cs)
  (h1 : ∀ q, q < 4 → SzP (ig cs (2 + q * 2)) (ig cs (2 + q * 2 + 1)) (bg zs (q * 2)) (ig zs (q * 2 + 1))) (h2 : SidesP ((cs.drop 22).take 8) ((zs.drop 8).take 8)) (h3 : SidesP ((cs.drop 30).take 8) ((zs.drop 16).take 8))
  (h4 : SzP (ig cs 10) (ig cs 11) (bg zs 24) (ig zs 25)) (h5 : SzP (ig cs 12) (ig cs 13) (bg zs 26) (ig zs 27)) (h6 : ig cs 14 = 0 → ig zs 28 = 0) (h7 : ig cs 18 = 0 → ig zs 29 = 0) (h8 : ig cs 16 = 0 → ig zs 30 = 1125899906842624) (h9 : ig cs 20 = 0 → ig zs 31 = 1125899906842624) : PlainZ cs zs where
 off := fun q hq => by
  have := (h1 q hq).2 (h.off q hq).1
  exact ⟨this.1, this.2.trans (h.off q hq).2⟩
 mar := fun q hq => by
  have := (h2 q hq).1
  rw [ig_sub _ _ _ _ (by omega), bg_sub _ _ _ _ (by omega)] at this
  exact this (h.mar q hq)
 pad := fun q hq => by
  have := (h3 q hq).2
  rw [ig_sub _ _ _ _ (by omega), ig_sub _ _ _ _ (by omega), ig_sub _ _ _ _ (by omega)] at this
  exact (this (h.pad q hq).1).2.trans (h.pad q hq).2
 wide := h4.1 h.w
 high := h5.1 h.h
 l0 := h6 h.a
 l1 := h7 h.b
 m0 := h8 h.c
 m1 := h9 h.d
 bor := h.bor
/-- The box of such a one, held by the view. -/
def gbox (v0 v1 : Int) : List Value := .bool true :: iV [0, 0, v0, v1, 0, 0, 0, 0, 0, 0, 0, 0, 0, 0, 0, 0, 0, 0, 0, 0]
section
variable {S S' : St} {hi kp : Nat} {l : List Nd} {wp db dk : Nat} {v0 v1 : Int} {ag : Value} {bad : Bool} {bs ks : List Value}
set_option maxHeartbeats 4000000 in
theorem out47 (hok : ∀ x ∈ l, x.Ok) (hform : TForm l) (htr : Tr (par l) l.length) (hl : l.length ≤ 24) (n : Nat) (h0 : 0 < n) (hn : n < l.length) (h : WorkAt S hi kp l wp db dk v0 v1 ag bad bs ks) :
  ACalls Tryz.prog 47 [ptr wp, .int .i64 n] S fun r S' => ∃ bad' bs' ks', WorkAt S' hi kp l wp db dk v0 v1 ag bad' bs' ks' ∧ Keeps S S' (fun i => i ≠ wp ∧ i ≠ db ∧ i ≠ dk) ∧
   (bad' = false → bad = false ∧ (n + 1 = l.length → holdOf l n = -1 → PlainC l[n].s.cells → 0 ≤ v0 → v0 ≤ 1099511627776 → 0 ≤ v1 → v1 ≤ 1099511627776 → (bs'.drop (n * 21)).take 21 = gbox v0 v1)) := by
 refine run_of hmix Tryz.func47 cF47 rfl fun hL Q hQ => ?_
 have r0 := rd_of_blk h.row 0
 simp only [workV] at r0
 have hs := sty_fl (hok _ (List.getElem_mem hn)).s
 simp only [go_sem, seval, aF47]
 refine cK_of (holder77 hok htr n hn h) ?_
 rintro v S1 _ hL1 ⟨⟨x0, y0, x1, y1, rt, rfl, hat⟩, hS1⟩
 obtain rfl := hS1.symm
 have wl := hL _ _ h.row
 have q1 : (wp = S.next) = False := eq_false (by omega)
 have q2 : (wp = S.next + 1) = False := eq_false (by omega)
 simp only [go_sem, seval, iV, List.map_cons, List.map_nil, r0, q1, q2]
 obtain ⟨Sa, hSa⟩ : ∃ Sa, Sa = S.new ⟨false, iV [x1, IntKind.i64.wrap (0 - x0)]⟩ := ⟨_, rfl⟩
 obtain ⟨Sb, hSb⟩ : ∃ Sb, Sb = Sa.new ⟨false, iV [y1, IntKind.i64.wrap (0 - y0)]⟩ := ⟨_, rfl⟩
 have na : Sa.next = S.next + 1 := by rw [hSa]; rfl
 have hLa : Live Sa := by rw [hSa]; exact hL.new _
 have hLb : Live Sb := by rw [hSb]; exact hLa.new _
 have ka : KeepsAll S Sa := by rw [hSa]; exact Keeps.of_new _ _ _
 have kb : KeepsAll Sa Sb := by rw [hSb]; exact Keeps.of_new _ _ _
 have e' : (S.new ⟨false, iV [x1, IntKind.i64.wrap (0 - x0)]⟩).new ⟨false, iV [y1, IntKind.i64.wrap (0 - y0)]⟩ = Sb := by rw [hSb, hSa]
 have xa : Sl Sa 1 (.slice (some ⟨S.next, 0, none⟩) 2 1) 2 (iV [x1, IntKind.i64.wrap (0 - x0)]) := by rw [hSa]; have := sl_new S [x1, IntKind.i64.wrap (0 - x0)]; exact this
 have xb : Sl Sb 1 (.slice (some ⟨S.next + 1, 0, none⟩) 2 1) 2 (iV [y1, IntKind.i64.wrap (0 - y0)]) := by rw [hSb]; have := sl_new Sa [y1, IntKind.i64.wrap (0 - y0)]; rw [na] at this; exact this
 have ya := xa.keeps hLa kb fun _ _ => trivial
 have W0 := (h.keeps hL ka).keeps hLa kb
 simp only [iV, List.map_cons, List.map_nil] at e'
 rw [e']
 refine cK_of (style55 W0.kin hok hn) ?_
 rintro v S1 _ hL1' ⟨rfl, hS1⟩
 obtain rfl := hS1.symm
 generalize hcs : l[n].s.cells = cs at *
 simp only [go_sem, seval]
 refine cK_of (sum74' _ [x1, IntKind.i64.wrap (0 - x0)] hLb W0 ya (by simp)) ?_
 rintro v U1 _ hU1 ⟨m1, bd1, rfl, W1, w1, _, f1⟩
 simp only [go_sem, seval]
 have yb1 := xb.keeps hLb w1 fun i hi => by simp [Value.blkOf] at hi; show i ≠ wp; omega
 refine cK_of (sum74' _ [y1, IntKind.i64.wrap (0 - y0)] hU1 W1 yb1 (by simp)) ?_
 rintro v U2 _ hU2 ⟨m2, bd2, rfl, W2, w2, _, f2⟩
 simp only [go_sem, seval]
 refine cK_keep [0,1,4,5,6,7,8,9,10,11,12] fun t1 hk' => ?_; simp only [go_sem, seval] at hk'; have hk := hk'; clear hk'
 refine cK_of (sizesOf78 cs _ _ hs W2) ?_
 rintro v U3 _ hU3 ⟨zs, bd3, rfl, hz, W3, w3, f3⟩
 have k3 : Keeps S U3 (fun i => i ≠ wp) := (((ka.all.trans kb fun _ _ _ => trivial).trans w1 fun _ _ h => h).trans w2 fun _ _ h => h).trans w3 fun _ _ h => h
 have s6 := rd_of_blk W3.row 6
 simp only [workV] at s6
 simp only [go_sem, seval, hk, hz.N 32, s6]
 have early : ∀ (S9 : St) (bs9 ks9 : List Value), WorkAt S9 hi kp l wp db dk v0 v1 ag true bs9 ks9 → Keeps S S9 (fun i => i ≠ wp ∧ i ≠ db ∧ i ≠ dk) → ∃ bad' bs' ks', WorkAt S9 hi kp l wp db dk v0 v1 ag bad' bs' ks' ∧ Keeps S S9 (fun i => i ≠ wp ∧ i ≠ db ∧ i ≠ dk) ∧
   (bad' = false → bad = false ∧ (n + 1 = l.length → holdOf l n = -1 → PlainC cs → 0 ≤ v0 → v0 ≤ 1099511627776 → 0 ≤ v1 → v1 ≤ 1099511627776 → (bs'.drop (n * 21)).take 21 = gbox v0 v1)) := fun S9 bs9 ks9 h1 h2 => ⟨true, bs9, ks9, h1, h2, fun hb => by cases hb⟩
 cases bd3
 case' true =>
  simp only [go_sem, seval, hk]
  refine hQ _ _ _ ?_
  rw [k_body_ret]
  simp only [go_sem, seval, aF47]
  rw [retQ_some]
  exact early _ _ _ W3 (k3.mono fun i _ h => h.1)
 obtain ⟨e2, ez1, ez2, ez3, ez4, ez5, ez6, ez7, ez8, ez9⟩ := f3 rfl
 have g2 := f2 e2
 have g1 := f1 g2.1
 simp only [go_sem, seval, hk, hz.N 32, hz.F 32]
 refine cK_keep [0,1,4,5,6,7,8,9,10,11,12] fun t1 hk' => ?_; simp only [go_sem, seval, hk] at hk'; clear hk; have hk := hk'; clear hk'
 refine cK_of (across79 hok hform hl n h0 hn zs hz x0 y0 x1 y1 rt W3) ?_
 rintro v U4 _ hU4 ⟨xs, bd4, rfl, hxl, W4, w4, f4⟩
 obtain ⟨a0, a1, a2, a3, a4, rfl⟩ := len5 hxl
 have s6 := rd_of_blk W4.row 6
 simp only [workV] at s6
 simp only [go_sem, seval, hk, iV, List.map_cons, List.map_nil, s6]
 cases bd4
 case' true =>
  simp only [go_sem, seval, hk]
  refine hQ _ _ _ ?_
  rw [k_body_ret]
  simp only [go_sem, seval, aF47]
  rw [retQ_some]
  exact early _ _ _ W4 ((k3.trans w4 fun _ _ h => h).mono fun i _ h => h.1)
 have g4 := f4 rfl
 simp only [go_sem, seval, hk, hz.N 32, hz.F 32]
 refine cK_keep [0,1,4,5,6,7,8,9,10,11,12] fun t1 hk' => ?_; simp only [go_sem, seval, hk] at hk'; clear hk; have hk := hk'; clear hk'
 refine cK_of (down80 hok hform hl n h0 hn zs hz x0 y0 x1 y1 a2 W4) ?_
 rintro v U5 _ hU5 ⟨ys, v', kb5, bd5, rfl, hyl, hlay, W5, w5, f5⟩
 obtain ⟨b0, b1, b2, b3, b4, rfl⟩ := len5 hyl
 have k5 : Keeps S U5 (fun i => i ≠ wp ∧ i ≠ dk) := ((k3.mono fun i _ h => h.1).trans w4 (fun i _ h => h.1)).trans w5 fun i _ h => h
 obtain ⟨Lx, yx, le1, la1, la2, lc1, lc2, lkk, lhigh, m, cs', rfl, ⟨yya, yi, yj, rfl⟩, hsl, hf, hm, hp⟩ := hlay
 obtain ⟨La, Le, rfl⟩ := hsl.slice
 have s6 := rd_of_blk W5.row 6
 have s0 := rd_of_blk W5.row 0
 simp only [workV] at s6 s0
 simp only [go_sem, seval, hk, iV, layV, List.map_cons, List.map_nil, s6]
 cases bd5
 case' true =>
  simp only [go_sem, seval, hk]
  refine hQ _ _ _ ?_
  rw [k_body_ret]
  simp only [go_sem, seval, aF47]
  rw [retQ_some]
  exact early _ _ _ W5 (k5.mono fun i _ h => ⟨h.1, h.2.2⟩)
 have g5 := f5 rfl
 have wl5 := hU5 _ _ W5.row
 have q1 : (wp = U5.next) = False := eq_false (by omega)
 have q2 : (wp = U5.next + 1) = False := eq_false (by omega)
 simp only [go_sem, seval, hk, s0, q1, q2]
 obtain ⟨Sa, hSa⟩ : ∃ Sa, Sa = U5.new ⟨false, iV [x0, a0, a1]⟩ := ⟨_, rfl⟩
 obtain ⟨Sb, hSb⟩ : ∃ Sb, Sb = Sa.new ⟨false, iV [y0, b0, b1]⟩ := ⟨_, rfl⟩
 have na : Sa.next = U5.next + 1 := by rw [hSa]; rfl
 have hLa : Live Sa := by rw [hSa]; exact hU5.new _
 have hLb : Live Sb := by rw [hSb]; exact hLa.new _
 have ka : KeepsAll U5 Sa := by rw [hSa]; exact Keeps.of_new _ _ _
 have kb : KeepsAll Sa Sb := by rw [hSb]; exact Keeps.of_new _ _ _
 have e' : (U5.new ⟨false, iV [x0, a0, a1]⟩).new ⟨false, iV [y0, b0, b1]⟩ = Sb := by rw [hSb, hSa]
 have xa : Sl Sa 1 (.slice (some ⟨U5.next, 0, none⟩) 3 1) 3 (iV [x0, a0, a1]) := by rw [hSa]; have := sl_new U5 [x0, a0, a1]; exact this
 have xb : Sl Sb 1 (.slice (some ⟨U5.next + 1, 0, none⟩) 3 1) 3 (iV [y0, b0, b1]) := by rw [hSb]; have := sl_new Sa [y0, b0, b1]; rw [na] at this; exact this
 have ya := xa.keeps hLa kb fun _ _ => trivial
 have W6 := (W5.keeps hU5 ka).keeps hLa kb
 simp only [iV, List.map_cons, List.map_nil] at e'
 rw [e']
 refine cK_keep [0,1,4,5,6,7,8,9,10,11,12,80,87,90,92,95,96,97] fun t1 hk' => ?_; simp only [go_sem, seval, hk] at hk'; clear hk; have hk := hk'; clear hk'
 refine cK_of (sum74' _ [x0, a0, a1] hLb W6 ya (by simp)) ?_
 rintro v U7 _ hU7 ⟨mX, bd7, rfl, W7, w7, _, f7⟩
 have xb7 := xb.keeps hLb w7 fun i hi => by simp [Value.blkOf] at hi; show i ≠ wp; omega
 have s0 := rd_of_blk W7.row 0
 simp only [workV] at s0
 simp only [go_sem, seval, hk, s0]
 refine cK_of (sum74' _ [y0, b0, b1] hU7 W7 xb7 (by simp)) ?_
 rintro v U8 _ hU8 ⟨mY, bd8, rfl, W8, w8, _, f8⟩
 have s0 := rd_of_blk W8.row 0
 simp only [workV] at s0
 simp only [go_sem, seval, hk, s0]
 refine cK_of (style55 W8.kin hok hn) ?_
 rintro v S1 _ hL1' ⟨rfl, hS1⟩
 obtain rfl := hS1.symm
 rw [hcs]
 obtain ⟨br0, br1, br2, br3, hbr⟩ := ints4_eq (hs.sub 38 4)
 obtain ⟨pd0, pd1, pd2, pd3, pd4, pd5, pd6, pd7, hpd⟩ := sizes4_eq (hz.sub 16 8)
 simp only [go_sem, seval, hk, hs.N 48, hbr, z51, hz.N 32, hpd]
 refine lK_keep [0,1,9,10,11,12,122,123] fun t1 hk' => ?_; simp only [go_sem, seval, hk] at hk'; clear hk; have hk := hk'; clear hk'
 refine lK_unroll ?_
 simp only [go_sem, seval, hk]
 refine lK_keep [0,1,9,10,11,12,122,123] fun t1 hk' => ?_; simp only [go_sem, seval, hk] at hk'; clear hk; have hk := hk'; clear hk'
 refine lK_unroll ?_
 simp only [go_sem, seval, hk]
 refine lK_keep [0,1,9,10,11,12,122,123] fun t1 hk' => ?_; simp only [go_sem, seval, hk] at hk'; clear hk; have hk := hk'; clear hk'
 refine lK_unroll ?_
 simp only [go_sem, seval, hk]
 refine lK_keep [0,1,9,10,11,12,122,123] fun t1 hk' => ?_; simp only [go_sem, seval, hk] at hk'; clear hk; have hk := hk'; clear hk'
 refine lK_unroll ?_
 simp only [go_sem, seval, hk]
 refine lK_keep [0,1,9,10,11,12,122,123] fun t1 hk' => ?_; simp only [go_sem, seval, hk] at hk'; clear hk; have hk := hk'; clear hk'
 refine lK_unroll ?_
 have s4 := rd_of_blk W8.row 4
 simp only [workV] at s4
 have hn0 : (0 : Int) ≤ n := by omega
 have hnl : (n : Int) < l.length := by omega
 have hk1 : n + 1 ≤ ks.length := by have := h.kl; omega
 have rn : rd U8 dk n = some (.bool kb5) := by rw [rd_of_blk W8.kn]; exact List.getElem?_set_self (by omega)
 simp only [go_sem, seval, hk, s4, hn0, hnl, Int.toNat_natCast, Nat.mul_one, rn]
 refine cK_of (note69 n hn [.bool true, .int .i64 mX, .int .i64 mY, .int .i64 a2, .int .i64 b2, .int .i64 b0, .int .i64 a4, .int .i64 b4, .int .i64 a0, .int .i64 b1, .int .i64 a3, .int .i64 b3, .int .i64 a1, .int .i64 pd1, .int .i64 pd3, .int .i64 pd5, .int .i64 pd7, .int .i64 br0, .int .i64 br1, .int .i64 br2, .int .i64 br3] ⟨by trivial, fun hh => by cases hh⟩ kb5 W8) ?_
 rintro v U9 _ hU9 ⟨bd9, W9, w9, f9⟩
 have lw := hL _ _ h.row
 have lb := hL _ _ h.box
 have lk := hL _ _ h.kn
 have fr : ∀ i, Value.blkOf (.slice La m Le) = some i → i ≠ wp ∧ i ≠ db ∧ i ≠ dk := fun i hi => by have h1 : U4.next ≤ i := hf i hi; have h2 := k3.1; have h3 := w4.1; omega
 have hsl9 := ((((hsl.keeps hU5 ka fun _ _ => trivial).keeps hLa kb fun _ _ => trivial).keeps hLb w7 fun i hi => (fr i hi).1).keeps hU7 w8 fun i hi => (fr i hi).1).keeps hU8 w9 fr
 have hmb : m ≤ 16777216 ∧ (n + 1 = l.length → m = 0) := by
  unfold bd at hm
  have : 2 ^ (l.length - n - 1) ≤ 2 ^ 24 := Nat.pow_le_pow_right (by omega) (by omega)
  refine ⟨by omega, fun e => ?_⟩
  rw [show l.length - n - 1 = 0 by omega] at hm
  omega
 simp only [go_sem, seval, hk]
 refine cK_of (inner43 hok hform hl (.slice La m Le) m n cs' hsl9 fr (by omega) hp W9) ?_
 rintro v U10 _ hU10 ⟨⟨bd10, bs10, ks10, W10, w10, f10⟩, hm0⟩
 refine hQ _ _ _ ?_
 rw [k_body_normal]
 simp only [go_sem, seval, aF47]
 rw [retQ_some]
 refine ⟨bd10, bs10, ks10, W10, ?_, fun hb => ?_⟩
 ·exact (((((((k5.mono fun i _ h => ⟨h.1, h.2.2⟩).trans ka fun _ _ _ => trivial).trans kb fun _ _ _ => trivial).trans w7 fun _ _ h => h.1).trans w8 fun _ _ h => h.1).trans w9 fun _ _ h => h).trans w10 fun _ _ h => h)
 ·have g9 := f9 (f10 hb)
  have g8 := f8 g9
  have g7 := f7 g8.1
  refine ⟨g1.1, fun hlast hh pc p0 p1 p2 p3 => ?_⟩
  have hm' := hmb.2 hlast
  rw [hm0 hm'] at W10
  have hbx := W10.box.symm.trans W9.box
  simp only [Option.some.injEq, Blk.mk.injEq, true_and] at hbx
  rw [hbx, chunk_ow h.bl rfl hn hn, if_pos rfl]
  have hat' := hat hh
  simp only [List.cons.injEq, and_true] at hat'
  obtain ⟨rfl, rfl, rfl, rfl⟩ := hat'
  have pz := pc.z ez1 ez2 ez3 ez4 ez5 ez6 ez7 ez8 ez9
  have ha := g4.2 (hcs.symm ▸ pz) rfl p0 p1
  have hb' := g5.2 (hcs.symm ▸ pz) rfl p2 p3
  simp only [List.cons.injEq, and_true] at ha hb'
  obtain ⟨rfl, rfl, rfl, rfl, rfl⟩ := ha
  obtain ⟨rfl, rfl, rfl, rfl, rfl⟩ := hb'
  have eX : mX = 0 := by rw [g7.2.1]; simp [sumI]
  have eY : mY = 0 := by rw [g8.2.1]; simp [sumI]
  have d0 := pz.pad 0 (by omega)
  have d1 := pz.pad 1 (by omega)
  have d2 := pz.pad 2 (by omega)
  have d3 := pz.pad 3 (by omega)
  have c0 := pz.bor 0 (by omega)
  have c1 := pz.bor 1 (by omega)
  have c2 := pz.bor 2 (by omega)
  have c3 := pz.bor 3 (by omega)
  have hd : ∀ k, k < 8 → ig zs (16 + k) = ig [.bool pd0, .int .i64 pd1, .bool pd2, .int .i64 pd3, .bool pd4, .int .i64 pd5, .bool pd6, .int .i64 pd7] k := fun k hk => by rw [← hpd, ig_sub _ _ _ _ hk]
  have hc : ∀ k, k < 4 → ig cs (38 + k) = ig [.int .i64 br0, .int .i64 br1, .int .i64 br2, .int .i64 br3] k := fun k hk => by rw [← hbr, ig_sub _ _ _ _ hk]
  have e0 : pd1 = 0 := (hd 1 (by omega)).symm.trans d0
  have e1 : pd3 = 0 := (hd 3 (by omega)).symm.trans d1
  have e2 : pd5 = 0 := (hd 5 (by omega)).symm.trans d2
  have e3 : pd7 = 0 := (hd 7 (by omega)).symm.trans d3
  have e4 : br0 = 0 := (hc 0 (by omega)).symm.trans c0
  have e5 : br1 = 0 := (hc 1 (by omega)).symm.trans c1
  have e6 : br2 = 0 := (hc 2 (by omega)).symm.trans c2
  have e7 : br3 = 0 := (hc 3 (by omega)).symm.trans c3
  rw [eX, eY, e0, e1, e2, e3, e4, e5, e6, e7]
  rfl
end
end Go.Proofs.YtegaklgjcicnfaaGreat
