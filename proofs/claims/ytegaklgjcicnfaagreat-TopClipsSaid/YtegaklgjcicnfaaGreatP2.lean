/- The law TopClips: an item covers only points in its border box, the view, and the padding boxes of what clips and holds it. -/
import Derived.Test.YtegaklgjcicnfaaGreatP1
import Derived.Test.YtegaklgjcicnfaaGreatKD
set_option linter.unusedSimpArgs false
set_option linter.unusedVariables false
namespace Go.Proofs.YtegaklgjcicnfaaGreat
open Go Go.Proofs.YtegaklgjcicnfaaGreat.Abs
theorem It.nul' (i : It) : i.cells[0]? = some (.int .i64 i.n) := rfl
/-- An item of a node, told for the law on clips. -/
def ItC (l : List Nd) (bs : List Value) (v0 v1 : Int) (i : It) : Prop := ∃ m : Nat, i.n = m ∧ m < l.length ∧ madeL l m = true ∧ i.r = edgeR bs m ∧ i.c = gR (clipsTo l bs v0 v1 l.length) m ∧ (i.k = 0 ∨ (i.k = 1 ∧ i.h = padR bs m))
theorem its_c {l : List Nd} {bs : List Value} {v0 v1 : Int} {ns : List Nat} (h : ∀ m, m ∈ ns → m < l.length ∧ madeL l m = true) {i : It} (hi : i ∈ itsOf l bs (clipsTo l bs v0 v1 l.length) ns) : ItC l bs v0 v1 i := by
 obtain ⟨n, hn, hi⟩ := List.mem_flatMap.1 hi
 obtain ⟨h1, h2⟩ := h n hn
 unfold itemsOf at hi
 rcases List.mem_append.1 hi with hi | hi
 ·split at hi
  ·rw [List.mem_singleton] at hi; subst hi; exact ⟨n, rfl, h1, h2, rfl, rfl, .inl rfl⟩
  ·cases hi
 ·split at hi
  ·rw [List.mem_singleton] at hi; subst hi; exact ⟨n, rfl, h1, h2, rfl, rfl, .inr ⟨rfl, rfl⟩⟩
  ·cases hi
theorem em_made {l : List Nd} (htr : Tr (par l) l.length) {n : Nat} {ns : List Nat} (h : EmC l n ns) : n < l.length → madeL l n = true → ∀ m ∈ ns, m < l.length ∧ madeL l m = true := by
 induction h with
 | mk n neg pos hp hs hn hz hfc hg ih =>
  intro hnl hm m hmm
  have mb : ∀ a m, m ∈ memb l l.length a → m < l.length ∧ madeL l m = true := fun a m h => by
   unfold memb at h
   simp only [List.mem_filter, List.mem_range, Bool.and_eq_true] at h
   exact ⟨h.1, h.2.1.1⟩
  have pt : ∀ q ∈ neg ++ pos, ∀ m ∈ q.2, m < l.length ∧ madeL l m = true := fun q hq m hm => by
   have h1 := hp.mem_iff.1 (List.mem_map.2 ⟨q, hq, rfl⟩)
   unfold prt at h1
   simp only [List.mem_filter, List.mem_range, Bool.and_eq_true] at h1
   have h2 : madeL l q.1 = true := by have := h1.2.1.1; unfold leadsL at this; simp only [Bool.and_eq_true] at this; exact this.1
   cases hc : formsL l q.1 with
   | true => exact ih q hq hc h1.1 h2 m hm
   | false =>
    rw [hg q hq hc] at hm
    rcases List.mem_cons.1 hm with rfl | hm
    ·exact ⟨h1.1, h2⟩
    ·exact mb _ _ hm
  rw [List.cons_append, List.cons_append] at hmm
  rcases List.mem_cons.1 hmm with rfl | hmm
  ·exact ⟨hnl, hm⟩
  rcases List.mem_append.1 hmm with hmm | hmm
  ·rcases List.mem_append.1 hmm with hmm | hmm
   ·obtain ⟨q, hq, h⟩ := List.mem_flatMap.1 hmm
    exact pt q (List.mem_append_left _ hq) m h
   ·exact mb _ _ hmm
  ·obtain ⟨q, hq, h⟩ := List.mem_flatMap.1 hmm
   exact pt q (List.mem_append_right _ hq) m h
theorem painted_made {l : List Nd} (hf : TForm l) {ns : List Nat} (h : Painted l ns) : ∀ m, m ∈ ns → m < l.length ∧ madeL l m = true := by
 cases hm : madeL l 0 with
 | false => rw [h.1 hm]; simp
 | true => exact em_made hf.1.2.tr (h.2 hm) hf.1.1 hm
set_option maxHeartbeats 4000000 in
theorem clips5 (x : Value) (l : List Nd) (v0 v1 px py : Int) (S : St) (h : Ns S x l) (hok : ∀ x ∈ l, x.Ok) : ACalls Tryz.prog 5 [x, .agg #[.int .i64 v0, .int .i64 v1], .int .i64 px, .int .i64 py] S fun r S' => r = .bool true := by
 refine run_of hmix Tryz.func5 cF5 rfl fun hL Q hQ => ?_
 obtain ⟨xa, xe, rfl⟩ := h.slice
 simp only [go_sem, seval, aF5]
 refine cK_of (awake9 S) ?_
 rintro v S1 _ hL1 ⟨rfl, k1⟩
 have h1 := Sl.keeps hL h k1 fun _ _ => trivial
 simp only [go_sem, seval]
 refine cK_of (may10 _ l 15 S1 h1 hok (by decide)) ?_
 rintro v S2 _ hL2 ⟨rfl, k2⟩
 cases hm : (decide ((l.length : Int) ≤ 15) && (tchk l == 0))
 case' false =>
  simp only [go_sem, seval]
  refine cK_of (awake9 S2) ?_
  rintro v S3 _ hL3 ⟨rfl, k3⟩
  simp only [go_sem, seval]
  refine fin_at hQ rfl ?_; simp only [go_sem, seval, aF5]; rw [retQ_some]; simp only [oneOr]
 have hl15 : l.length ≤ 15 ∧ tchk l = 0 := by simp at hm; omega
 have hf := tform_of hl15.2
 have htr := hf.1.2.tr
 have h2 := Sl.keeps hL1 h1 k2 fun _ _ => trivial
 simp only [go_sem, seval]
 refine cK_of (tree11 _ l v0 v1 S2 h2 hok (by omega)) ?_
 rintro v S3 _ hL3 ⟨k3, b, f, c, e, rfl, hbS, hfS, hcS, hT⟩
 have h3 := Sl.keeps hL2 h2 k3 fun _ _ => trivial
 rcases hT with ⟨he, rfl, rfl, rfl⟩ | ⟨rfl, bs, ns, T⟩
 ·have he' : (e == 0) = false := by simpa using he
  simp only [go_sem, seval]
  refine lK_unroll ?_
  simp only [go_sem, seval, he']
  refine fin_at hQ rfl ?_; simp only [go_sem, seval, aF5]; rw [retQ_some]; simp only [oneOr]
 have hpm := painted_made hf T.pnt
 have hnl : (itsOf l bs (clipsTo l bs v0 v1 l.length) ns).length ≤ 1000000000 := by
  have := itsOf_len l bs (clipsTo l bs v0 v1 l.length) ns
  have := T.nl
  omega
 have hic : ∀ i ∈ itsOf l bs (clipsTo l bs v0 v1 l.length) ns, ItC l bs v0 v1 i := fun i hi => its_c hpm hi
 obtain ⟨its, hits⟩ : ∃ its, its = itsOf l bs (clipsTo l bs v0 v1 l.length) ns := ⟨_, rfl⟩
 have hfull := T.full
 have hbox := T.box
 have hbok := T.bok
 rw [← hits] at hfull hnl hic
 obtain ⟨fa, fe, hfs⟩ := hfull.slice
 subst hfs
 obtain ⟨c0, c1, c2, rfl⟩ := hcS
 obtain ⟨bd, bo, be, hbe, _, hbc⟩ := hbox.ne hf.1.1
 subst hbe
 clear hits T hfS hbS
 have hbx : ∀ j, j < l.length → cellsOf S3 bd (bo + j * 21) 21 = some (bxAt bs j) := fun j hj => by
  rw [cellsOf_of_cells hbc (by omega)]; rfl
 simp only [go_sem, seval]
 refine lK_of (fun t' S' => Live S' ∧ KeepsAll S3 S' ∧ ∃ k : Nat, k ≤ its.length ∧ Slots t' [(0, .slice xa l.length xe), (2, .int .i64 px), (3, .int .i64 py), (5, .agg #[.int .i64 v0, .int .i64 v1]), (9, .agg #[.slice (some ⟨bd, bo, none⟩) l.length be, .slice fa its.length fe, .slice c0 c1 c2]), (10, .int .i64 0), (39, .int .i64 its.length), (40, .int .i64 k)]) (fun t' _ => its.length - (RowKit.intOf (t' 40)).toNat) ?_ ?_
 ·refine ⟨hL3, Keeps.refl _ _, 0, by omega, ?_⟩
  simp only [go_sem, seval, Int.natCast_add, Int.natCast_succ]
 rintro t1 S4 Q1 ⟨hL4, k4, k, hk, hs⟩ _ hN hE
 simp only [slots_cons, slots_nil] at hs
 by_cases hkn : k = its.length
 ·subst hkn
  simp only [go_sem, seval, hs, Int.lt_irrefl]
  refine hE _ _ _ (by simp) ?_
  simp only [go_sem, seval, hs]
  refine fin_at hQ rfl ?_; simp only [go_sem, seval, aF5, hs]; rw [retQ_some]; simp only [oneOr]
 have hs40 := hs.2.2.2.2.2.2.2.1
 have hkl : (k : Int) < its.length := by omega
 have hk' : k < its.length := by omega
 have hk0 : (0 : Int) ≤ k := by omega
 have hw1 : IntKind.i64.wrap ((k : Int) + 1) = ((k + 1 : Nat) : Int) := by rw [wrap64_id (by omega) (by omega)]; omega
 have F4 := hfull.keeps hL3 k4 fun _ _ => trivial
 obtain ⟨fd, fo, fe', hfe, _, hfc⟩ := F4.ne (by omega)
 cases hfe
 have rk := its_at (e := fe) hfc hk'
 obtain ⟨m, e1, q1, q2, e3, e4, e5⟩ := hic (gI its k) (by rw [gI_get hk']; exact List.getElem_mem hk')
 have m0 : (0 : Int) ≤ m := by omega
 have ml : (m : Int) < l.length := by omega
 have bd3 : bd < S3.next := hbox.lt hL3 rfl
 have hbx4 : ∀ (S9 : St), KeepsAll S3 S9 → ∀ j, j < l.length → cellsOf S9 bd (bo + j * 21) 21 = some (bxAt bs j) := fun S9 k9 j hj => by
  rw [cellsOf_congr (k9.2 bd bd3 trivial)]; exact hbx j hj
 have rb := hbx4 S4 k4 m q1
 have hbo := (hbok m q1).1
 obtain ⟨a, ha⟩ : ∃ a, a = gI its k := ⟨_, rfl⟩
 rw [← ha] at rk e1 e3 e4 e5
 obtain ⟨cs, hcs⟩ : ∃ cs, cs = bxAt bs m := ⟨_, rfl⟩
 have e3' : a.r = lawE cs := by rw [e3, hcs]; exact lawE_edge (hbok m q1)
 have e4' : holdsR a.c px py = (holdsR ⟨0, 0, v0, v1⟩ px py && hin l bs px py (holdOf l m)) := by rw [e4]; exact clip_holds htr px py m m (Nat.le_refl _) q1 q2
 have e5' : a.k = 0 ∨ (a.k = 1 ∧ a.h = lawP cs) := by
  rcases e5 with h | ⟨h, h'⟩
  ·exact .inl h
  ·exact .inr ⟨h, by rw [h', hcs]; exact lawP_pad (hbok m q1)⟩
 rw [← hcs] at rb hbo
 have hV : holdsR ⟨0, 0, v0, v1⟩ px py = (decide (px ≥ 0) && (decide (px < v0) && (decide (py ≥ 0) && decide (py < v1)))) := rfl
 obtain ⟨inb, hinb⟩ : ∃ inb, inb = (holdsR ⟨0, 0, v0, v1⟩ px py && holdsR (lawE cs) px py) := ⟨_, rfl⟩
 simp only [go_sem, seval, hs, hkl, hk0, Int.toNat_natCast, rk, It.len, It.full, It.ow, It.nul', e1, m0, ml, rb, hbo.N 21, hbo.F 21, z51]
 refine gK_cut (fun t' S' => S' = S4 ∧ Slots t' [(0, .slice xa l.length xe), (2, .int .i64 px), (3, .int .i64 py), (5, .agg #[.int .i64 v0, .int .i64 v1]), (9, .agg #[.slice (some ⟨bd, bo, none⟩) l.length be, .slice (some ⟨fd, fo, none⟩) its.length fe, .slice c0 c1 c2]), (10, .int .i64 0), (12, .agg a.cells.toArray), (13, .agg cs.toArray), (14, .bool inb), (39, .int .i64 its.length), (40, .int .i64 k)]) ?_ ?_
 ·by_cases g1 : px ≥ 0
  case' neg =>
   have ei : inb = false := by rw [hinb, hV, decide_eq_false g1]; rfl
   simp only [go_sem, seval, g1, decide_eq_false g1]
   simp only [go_sem, seval, Int.natCast_add, Int.natCast_succ, hs, ei]
  by_cases g2 : px < v0
  case' neg =>
   have ei : inb = false := by rw [hinb, hV, decide_eq_false g2]; simp
   simp only [go_sem, seval, g1, g2, decide_eq_false g2, hs]
   simp only [go_sem, seval, Int.natCast_add, Int.natCast_succ, hs, ei]
  by_cases g3 : py ≥ 0
  case' neg =>
   have ei : inb = false := by rw [hinb, hV, decide_eq_false g3]; simp
   simp only [go_sem, seval, g1, g2, g3, decide_eq_false g3, hs]
   simp only [go_sem, seval, Int.natCast_add, Int.natCast_succ, hs, ei]
  by_cases g4 : py < v1
  case' neg =>
   have ei : inb = false := by rw [hinb, hV, decide_eq_false g4]; simp
   simp only [go_sem, seval, g1, g2, g3, g4, decide_eq_false g4, hs]
   simp only [go_sem, seval, Int.natCast_add, Int.natCast_succ, hs, ei]
  have ei : inb = holdsR (lawE cs) px py := by rw [hinb, hV, decide_eq_true g1, decide_eq_true g2, decide_eq_true g3, decide_eq_true g4]; simp
  simp only [go_sem, seval, g1, g2, g3, g4, hs, hbo.N 21, hbo.F 21, hbo.I 1, hbo.I 2, hbo.I 3, hbo.I 14, hbo.I 16, hbo.I 18, hbo.I 20]
  refine cK_of (tall15 cs S4 hbo) ?_
  rintro v S5 _ hL5 ⟨rfl, hS5⟩
  obtain rfl := hS5.symm
  simp only [go_sem, seval, hs]
  refine cK_of (holds14 (lawE cs) px py S4) ?_
  rintro v S5 _ hL5' ⟨rfl, hS5⟩
  obtain rfl := hS5.symm
  simp only [go_sem, seval, hs]
  simp only [go_sem, seval, Int.natCast_add, Int.natCast_succ, hs, ei]
 clear hs
 rintro t2 S5 ⟨hS5, hs⟩
 obtain rfl := hS5
 simp only [slots_cons, slots_nil] at hs
 simp only [go_sem, seval, hs, It.nul', e1]
 refine cK_of (of16 _ (Sl.keeps hL3 h3 k4 fun _ _ => trivial) hok hf htr q1 (by omega)) ?_
 rintro v S6 _ hL6 ⟨rfl, k6⟩
 have K6 : KeepsAll S3 S6 := k4.trans k6 fun _ _ _ => trivial
 have hlt := holdOf_lt' htr q1
 obtain ⟨tot, htot⟩ : ∃ tot, tot = (inb && hin l bs px py (holdOf l m)) := ⟨_, rfl⟩
 simp only [go_sem, seval, hs]
 refine lK_of (fun t' S' => Live S' ∧ KeepsAll S3 S' ∧ ∃ (g : Int) (inn : Bool), -1 ≤ g ∧ g < l.length ∧ (inn && hin l bs px py g) = tot ∧ Slots t' [(0, .slice xa l.length xe), (2, .int .i64 px), (3, .int .i64 py), (5, .agg #[.int .i64 v0, .int .i64 v1]), (9, .agg #[.slice (some ⟨bd, bo, none⟩) l.length be, .slice (some ⟨fd, fo, none⟩) its.length fe, .slice c0 c1 c2]), (10, .int .i64 0), (12, .agg a.cells.toArray), (13, .agg cs.toArray), (14, .bool inn), (15, .int .i64 g), (39, .int .i64 its.length), (40, .int .i64 k)]) (fun t' _ => (RowKit.intOf (t' 15) + 1).toNat) ?_ ?_
 ·refine ⟨hL6, K6, _, inb, by omega, by omega, htot.symm, ?_⟩
  simp only [go_sem, seval, Int.natCast_add, Int.natCast_succ, hs]
 clear hs
 rintro t3 S7 Q3 ⟨hL7, k7, g, inn, hg1, hg2, hgt, hs⟩ _ hN3 hE3
 simp only [slots_cons, slots_nil] at hs
 by_cases hg : g < 0
 ·have hgn : ¬ (0 ≤ g) := by omega
  rw [hin_neg hg, Bool.and_true] at hgt
  subst hgt
  simp only [go_sem, seval, hs, ge_iff_le, hgn]
  refine hE3 _ _ _ (by simp) ?_
  simp only [go_sem, seval, hs, hbo.N 21, hbo.F 21]
  refine cK_keep [0,2,3,5,9,10,12,13,14,39,40] fun t1 hs' => ?_; simp only [go_sem, seval, hs] at hs'; clear hs; have hs := hs'; clear hs'
  refine cK_of (content17 cs S7 hbo) ?_
  rintro v S8 _ hL8 ⟨rfl, hS8⟩
  obtain rfl := hS8.symm
  have hsh : ∀ r, r = (inn && (!(a.k == 1) || !holdsR (lawP cs) px py)) → showsB a px py = r := fun r hr => by
   rw [hr, htot, hinb]
   unfold showsB
   rw [e3', e4']
   rcases e5' with hk0 | ⟨hk1, hh⟩
   ·have : (a.k == 1) = false := by rw [hk0]; rfl
    rw [this]
    cases holdsR (lawE cs) px py <;> cases holdsR ⟨0, 0, v0, v1⟩ px py <;> cases hin l bs px py (holdOf l m) <;> rfl
   ·have : (a.k == 1) = true := by rw [hk1]; rfl
    rw [this, hh]
    cases holdsR (lawE cs) px py <;> cases holdsR ⟨0, 0, v0, v1⟩ px py <;> cases hin l bs px py (holdOf l m) <;> cases holdsR (lawP cs) px py <;> rfl
  have fin : ∀ t9 S9, Live S9 → KeepsAll S3 S9 → Slots t9 [(0, .slice xa l.length xe), (2, .int .i64 px), (3, .int .i64 py), (5, .agg #[.int .i64 v0, .int .i64 v1]), (9, .agg #[.slice (some ⟨bd, bo, none⟩) l.length be, .slice (some ⟨fd, fo, none⟩) its.length fe, .slice c0 c1 c2]), (10, .int .i64 0), (39, .int .i64 its.length), (40, .int .i64 (k + 1 : Nat))] → Q1 .normal t9 S9 := fun t9 S9 hL9 k9 h9 => by
   refine hN _ _ ⟨hL9, k9, k + 1, by omega, h9⟩ ?_
   simp only [slots_cons, slots_nil] at h9
   rw [h9.2.2.2.2.2.2.2.1, hs40]
   simp [RowKit.intOf]
   omega
  obtain ⟨r14, hr14⟩ : ∃ r14, r14 = (inn && (!(a.k == 1) || !holdsR (lawP cs) px py)) := ⟨_, rfl⟩
  have hb : (a.k != 1) = !(a.k == 1) := rfl
  simp only [go_sem, seval, hs, hbo.N 21, hbo.F 21, hbo.I 3, hbo.I 4, hbo.I 13, hbo.I 14, hbo.I 15, hbo.I 16]
  refine gK_cut (fun t' S' => S' = S7 ∧ Slots t' [(0, .slice xa l.length xe), (2, .int .i64 px), (3, .int .i64 py), (5, .agg #[.int .i64 v0, .int .i64 v1]), (9, .agg #[.slice (some ⟨bd, bo, none⟩) l.length be, .slice (some ⟨fd, fo, none⟩) its.length fe, .slice c0 c1 c2]), (10, .int .i64 0), (12, .agg a.cells.toArray), (14, .bool r14), (39, .int .i64 its.length), (40, .int .i64 k)]) ?_ ?_
  ·cases hi : inn
   ·rw [hi, Bool.false_and] at hr14
    simp only [go_sem, seval, hs]
    simp only [go_sem, seval, Int.natCast_add, Int.natCast_succ, hs, hr14]
   cases hk1 : (a.k == 1)
   ·rw [hi, hk1] at hr14
    simp at hr14
    simp only [go_sem, seval, hs, It.one, hb, hk1]
    simp only [go_sem, seval, Int.natCast_add, Int.natCast_succ, hs, hr14]
   ·rw [hi, hk1] at hr14
    simp at hr14
    simp only [go_sem, seval, hs, It.one, hb, hk1]
    refine cK_of (holds14 (lawP cs) px py S7) ?_
    rintro v S8 _ hL8' ⟨rfl, hS8⟩
    obtain rfl := hS8.symm
    simp only [go_sem, seval, hs]
    simp only [go_sem, seval, Int.natCast_add, Int.natCast_succ, hs, hr14]
  clear hs
  rintro t4 S8 ⟨hS8, hs⟩
  obtain rfl := hS8
  simp only [slots_cons, slots_nil] at hs
  simp only [go_sem, seval, hs, It.len, It.full]
  refine cK_of (shows18 a px py S8) ?_
  rintro v S9 _ hL9 ⟨rfl, hS9⟩
  obtain rfl := hS9.symm
  rw [hsh r14 hr14]
  simp only [go_sem, seval, hs, bne_self_eq_false, hw1]
  refine fin _ _ hL7 k7 ?_
  simp only [go_sem, seval, Int.natCast_add, Int.natCast_succ, hs]
 obtain ⟨j, rfl⟩ : ∃ j : Nat, g = j := ⟨g.toNat, by omega⟩
 have hjl : j < l.length := by omega
 have hjl' : (j : Int) < l.length := by omega
 have hj0 : (0 : Int) ≤ j := by omega
 have rj := hbx4 S7 k7 j hjl
 have hbj := (hbok j hjl).1
 obtain ⟨cj, hcj⟩ : ∃ cj, cj = bxAt bs j := ⟨_, rfl⟩
 have hpj : padR bs j = lawP cj := by rw [hcj]; exact lawP_pad (hbok j hjl)
 rw [← hcj] at rj hbj
 rw [hin_pos htr hjl, hpj] at hgt
 have h7 := Sl.keeps hL3 h3 k7 fun _ _ => trivial
 have hltj := holdOf_lt' htr hjl
 simp only [go_sem, seval, hs, ge_iff_le, hj0, hjl', Int.toNat_natCast, rj, hbj.N 21, hbj.F 21, z51]
 refine cK_of (content17 cj S7 hbj) ?_
 rintro v S8 _ hL8 ⟨rfl, hS8⟩
 obtain rfl := hS8.symm
 simp only [go_sem, seval, hs, hbj.N 21, hbj.F 21, hbj.I 3, hbj.I 4, hbj.I 13, hbj.I 14, hbj.I 15, hbj.I 16]
 obtain ⟨inj, hinj⟩ : ∃ inj, inj = (inn && (!(nS l j).clip || holdsR (lawP cj) px py)) := ⟨_, rfl⟩
 refine gK_cut (fun t' S' => S' = S7 ∧ Slots t' [(0, .slice xa l.length xe), (2, .int .i64 px), (3, .int .i64 py), (5, .agg #[.int .i64 v0, .int .i64 v1]), (9, .agg #[.slice (some ⟨bd, bo, none⟩) l.length be, .slice (some ⟨fd, fo, none⟩) its.length fe, .slice c0 c1 c2]), (10, .int .i64 0), (12, .agg a.cells.toArray), (13, .agg cs.toArray), (14, .bool inj), (15, .int .i64 j), (39, .int .i64 its.length), (40, .int .i64 k)]) ?_ ?_
 ·cases hi : inn
  ·rw [hi, Bool.false_and] at hinj
   simp only [go_sem, seval, hs]
   simp only [go_sem, seval, Int.natCast_add, Int.natCast_succ, hs, hinj]
  obtain ⟨ld, lo, le', hle', _, lc⟩ := h7.ne (by omega)
  cases hle'
  have rc := cell_at hok lc hjl (k := 45) (by omega) (nS_ok hok hjl).c.clip
  cases hcl : (nS l j).clip
  ·rw [hi, hcl] at hinj
   simp at hinj
   rw [hcl] at rc
   simp only [go_sem, seval, hs, hj0, hjl', Int.toNat_natCast, rc]
   simp only [go_sem, seval, Int.natCast_add, Int.natCast_succ, hs, hinj]
  ·rw [hi, hcl] at hinj
   simp at hinj
   rw [hcl] at rc
   simp only [go_sem, seval, hs, hj0, hjl', Int.toNat_natCast, rc]
   refine cK_of (holds14 (lawP cj) px py S7) ?_
   rintro v S8 _ hL8' ⟨rfl, hS8⟩
   obtain rfl := hS8.symm
   simp only [go_sem, seval, hs]
   simp only [go_sem, seval, Int.natCast_add, Int.natCast_succ, hs, hinj]
 have hs15 := hs.2.2.2.2.2.2.2.2.2.1
 clear hs
 rintro t4 S8 ⟨hS8, hs⟩
 obtain rfl := hS8
 simp only [slots_cons, slots_nil] at hs
 simp only [go_sem, seval, hs]
 refine cK_of (of16 _ h7 hok hf htr hjl (by omega)) ?_
 rintro v S9 _ hL9 ⟨rfl, k9⟩
 simp only [go_sem, seval, hs]
 refine hN3 _ _ ⟨hL9, k7.trans k9 fun _ _ _ => trivial, holdOf l j, inj, by omega, by omega, ?_, ?_⟩ ?_
 ·rw [← hgt, hinj, Bool.and_assoc]
 ·simp only [go_sem, seval, Int.natCast_add, Int.natCast_succ, hs]
 ·simp only [go_sem, seval, hs]
  rw [hs15]
  simp [RowKit.intOf]
  omega
theorem clips5' (x : Value) (n : Nat) (cs ws : List Value) (px py : Int) (S : St) (hx : Sl S 49 x n cs) (hr : RowsOk ndSh n cs) (hf : FlatOk viewSh ws) : ACalls Tryz.prog 5 [x, .agg ws.toArray, .int .i64 px, .int .i64 py] S fun r S' => r = .bool true := by
 obtain ⟨l, hX, hl⟩ := Ns.of_rows hx hr
 obtain ⟨w0, r0, rfl, ⟨v0, rfl, _⟩, hf1⟩ := flat_cons hf
 obtain ⟨w1, r1, rfl, ⟨v1, rfl, _⟩, hf2⟩ := flat_cons hf1
 obtain rfl := flat_nil hf2
 exact clips5 x l v0 v1 px py S hX hl
end Go.Proofs.YtegaklgjcicnfaaGreat
