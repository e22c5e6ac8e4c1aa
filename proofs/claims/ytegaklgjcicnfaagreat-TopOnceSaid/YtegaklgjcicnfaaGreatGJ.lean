/- One plain box: what it comes to. -/
import Derived.Test.YtegaklgjcicnfaaGreatGI
set_option linter.unusedSimpArgs false
set_option linter.unusedVariables false
namespace Go.Proofs.YtegaklgjcicnfaaGreat
open Go Go.Proofs.YtegaklgjcicnfaaGreat.Abs
theorem cK_run {P : Program} {f : FuncId} {args : List Value} {S : St} {d : Option Nat} {r : ATree} {t : Env} {K : Env → St → Prop} (h : ACalls P f args S fun v S' => treeWp P r (t.put d v) S' K) : cK P f args S d r t K := h
def plainL (h hn back : Int) : List Value := .bool true :: iV [0, 0, 0, 0, 0, 0, 0, 0, 0, 0, 0, h, hn, 0, 0, 0, 0, 0, 0, 0, 0, 0, 0, 0, 0, 0, 0, 0, 0, 1, 0, 1, 0, 1, 0, 1, 0, 0, 0, 0, 0] ++ [.bool false, .bool false, .int .i64 0, .bool false, .int .i64 back, .int .i64 0]
def awE : List Value := [.bool true, .int .i64 0, .bool true, .int .i64 0, .bool true, .int .i64 0, .bool true, .int .i64 0, .bool false, .int .i64 0, .bool false, .int .i64 0, .bool false, .int .i64 0, .bool false, .int .i64 0, .int .i64 0, .int .i64 0, .int .i64 0, .int .i64 0, .bool false, .int .i64 64, .int .i64 0, .int .i64 1125899906842624, .bool true, .bool false, .bool false, .bool false]
set_option maxRecDepth 10000 in
set_option maxHeartbeats 4000000 in
theorem aw101 (b : Int) (S : St) : (ACalls Tryz.prog 101 [.agg #[.int .i64 0, .int .i64 0], .int .i64 b, .bool true] S fun r S' => r = .tuple #[.agg #[.bool true, .int .i64 0], .bool true] ∧ S' = S) ∧ (ACalls Tryz.prog 101 [.agg #[.int .i64 1, .int .i64 0], .int .i64 b, .bool true] S fun r S' => r = .tuple #[.agg #[.bool false, .int .i64 0], .bool true] ∧ S' = S) ∧
  (ACalls Tryz.prog 101 [.agg #[.int .i64 1, .int .i64 64], .int .i64 b, .bool true] S fun r S' => r = .tuple #[.agg #[.bool false, .int .i64 64], .bool true] ∧ S' = S) := by
 refine ⟨?_, ?_, ?_⟩
 all_goals
  refine run_of hmix Tryz.func101 cF101 rfl fun hL Q hQ => ?_
  simp only [go_sem, seval, aF101]
  repeat' first
   | (refine lK_unroll ?_; simp only [go_sem, seval, decide_false, decide_true, and_true])
   | refine ⟨by kernel_rfl, ?_⟩
   | (refine fin_at hQ rfl ?_; simp only [go_sem, seval, decide_false, decide_true, and_true, aF101, aF107]; rw [retQ_some]; simp only [oneOr]; clear hQ; (try simp only [go_sem, seval, decide_false, decide_true, and_true]))
   | (refine cK_run ?_; refine run_of hmix Tryz.func101 cF101 rfl fun hL Q hQ => ?_; simp only [go_sem, seval, aF101, decide_false, decide_true, and_true])
   | (refine cK_run ?_; refine run_of hmix Tryz.func107 cF107 rfl fun hL Q hQ => ?_; simp only [go_sem, seval, aF107, decide_false, decide_true, and_true])
   | fail
set_option maxRecDepth 10000 in
set_option maxHeartbeats 4000000 in
theorem aw99 (S : St) : ACalls Tryz.prog 99 [.agg (plainL 1 64 5).toArray, .int .i64 640, .agg #[.bool false, .int .i64 480], .bool true] S fun r S' => r = .tuple #[.agg awE.toArray, .bool true] ∧ KeepsAll S S' := by
 refine run_of hmix Tryz.func99 cF99 rfl fun hL Q hQ => ?_
 simp only [go_sem, seval, aF99, plainL, iV, List.map_cons, List.map_nil, List.cons_append, List.nil_append, z168]
 repeat' first
  | (refine lK_unroll ?_; simp only [go_sem, seval, decide_false, decide_true, and_true])
  | refine ⟨by kernel_rfl, ?_⟩
  | (refine fin_at hQ rfl ?_; simp only [go_sem, seval, decide_false, decide_true, and_true, aF113, aF101, aF107, aF102, aF103, aF128, aF126, aF148]; rw [retQ_some]; simp only [oneOr]; clear hQ; (try simp only [go_sem, seval, decide_false, decide_true, and_true]))
  | (refine cK_run ?_; refine run_of hmix Tryz.func113 cF113 rfl fun hL Q hQ => ?_; simp only [go_sem, seval, aF113, decide_false, decide_true, and_true])
  | (refine cK_run ?_; refine run_of hmix Tryz.func101 cF101 rfl fun hL Q hQ => ?_; simp only [go_sem, seval, aF101, decide_false, decide_true, and_true])
  | (refine cK_run ?_; refine run_of hmix Tryz.func107 cF107 rfl fun hL Q hQ => ?_; simp only [go_sem, seval, aF107, decide_false, decide_true, and_true])
  | (refine cK_run ?_; refine run_of hmix Tryz.func102 cF102 rfl fun hL Q hQ => ?_; simp only [go_sem, seval, aF102, decide_false, decide_true, and_true])
  | (refine cK_run ?_; refine run_of hmix Tryz.func103 cF103 rfl fun hL Q hQ => ?_; simp only [go_sem, seval, aF103, decide_false, decide_true, and_true])
  | (refine cK_run ?_; refine run_of hmix Tryz.func128 cF128 rfl fun hL Q hQ => ?_; simp only [go_sem, seval, aF128, decide_false, decide_true, and_true])
  | (refine cK_run ?_; refine run_of hmix Tryz.func126 cF126 rfl fun hL Q hQ => ?_; simp only [go_sem, seval, aF126, decide_false, decide_true, and_true])
  | (refine cK_run ?_; refine run_of hmix Tryz.func148 cF148 rfl fun hL Q hQ => ?_; simp only [go_sem, seval, aF148, decide_false, decide_true, and_true])
  | fail
 refine fin_at hQ rfl ?_; simp only [go_sem, seval, aF99]; rw [retQ_some]; simp only [oneOr]
 exact ⟨rfl, (((((Keeps.of_new _ _ _).set (fun i hi _ => by omega) _).set (fun i hi _ => by omega) _).set (fun i hi _ => by omega) _).set (fun i hi _ => by omega) _).set (fun i hi _ => by omega) _⟩
set_option maxRecDepth 10000 in
set_option maxHeartbeats 4000000 in
theorem aw100 (S : St) : (ACalls Tryz.prog 100 [.agg awE.toArray, .int .i64 3, .int .i64 1] S fun r S' => r = .tuple #[.int .i64 0, .bool true] ∧ KeepsAll S S') ∧ (ACalls Tryz.prog 100 [.agg awE.toArray, .int .i64 0, .int .i64 2] S fun r S' => r = .tuple #[.int .i64 0, .bool true] ∧ KeepsAll S S') := by
 refine ⟨?_, ?_⟩
 all_goals
  refine run_of hmix Tryz.func100 cF100 rfl fun hL Q hQ => ?_
  simp only [go_sem, seval, aF100, awE]
  repeat' first
   | (refine lK_unroll ?_; simp only [go_sem, seval, decide_false, decide_true, and_true])
   | refine ⟨by kernel_rfl, ?_⟩
   | (refine fin_at hQ rfl ?_; simp only [go_sem, seval, decide_false, decide_true, and_true, aF109, aF107]; rw [retQ_some]; simp only [oneOr]; clear hQ; (try simp only [go_sem, seval, decide_false, decide_true, and_true]))
   | (refine cK_run ?_; refine run_of hmix Tryz.func109 cF109 rfl fun hL Q hQ => ?_; simp only [go_sem, seval, aF109, decide_false, decide_true, and_true])
   | (refine cK_run ?_; refine run_of hmix Tryz.func107 cF107 rfl fun hL Q hQ => ?_; simp only [go_sem, seval, aF107, decide_false, decide_true, and_true])
   | fail
  refine fin_at hQ rfl ?_; simp only [go_sem, seval, aF100]; rw [retQ_some]; simp only [oneOr]
  exact ⟨rfl, Keeps.of_new _ _ _⟩
set_option maxRecDepth 10000 in
set_option maxHeartbeats 4000000 in
theorem aw104 (S : St) : ACalls Tryz.prog 104 [.agg #[.int .i64 640, .bool true, .int .i64 0, .bool true, .int .i64 0, .bool true, .int .i64 0, .int .i64 0, .bool false, .int .i64 0, .int .i64 1125899906842624]] S fun r S' => r = .tuple #[.agg #[.int .i64 0, .int .i64 640, .int .i64 0], .bool true] ∧ KeepsAll S S' := by
 refine run_of hmix Tryz.func104 cF104 rfl fun hL Q hQ => ?_
 simp only [go_sem, seval, aF104]
 repeat' first
  | (refine lK_unroll ?_; simp only [go_sem, seval, decide_false, decide_true, and_true])
  | refine ⟨by kernel_rfl, ?_⟩
  | (refine fin_at hQ rfl ?_; simp only [go_sem, seval, decide_false, decide_true, and_true, aF107, aF128, aF129, aF150, aF130, aF151, aF152, aF170]; rw [retQ_some]; simp only [oneOr]; clear hQ; (try simp only [go_sem, seval, decide_false, decide_true, and_true]))
  | (refine cK_run ?_; refine run_of hmix Tryz.func107 cF107 rfl fun hL Q hQ => ?_; simp only [go_sem, seval, aF107, decide_false, decide_true, and_true])
  | (refine cK_run ?_; refine run_of hmix Tryz.func128 cF128 rfl fun hL Q hQ => ?_; simp only [go_sem, seval, aF128, decide_false, decide_true, and_true])
  | (refine cK_run ?_; refine run_of hmix Tryz.func129 cF129 rfl fun hL Q hQ => ?_; simp only [go_sem, seval, aF129, decide_false, decide_true, and_true])
  | (refine cK_run ?_; refine run_of hmix Tryz.func150 cF150 rfl fun hL Q hQ => ?_; simp only [go_sem, seval, aF150, decide_false, decide_true, and_true])
  | (refine cK_run ?_; refine run_of hmix Tryz.func130 cF130 rfl fun hL Q hQ => ?_; simp only [go_sem, seval, aF130, decide_false, decide_true, and_true])
  | (refine cK_run ?_; refine run_of hmix Tryz.func151 cF151 rfl fun hL Q hQ => ?_; simp only [go_sem, seval, aF151, decide_false, decide_true, and_true])
  | (refine cK_run ?_; refine run_of hmix Tryz.func152 cF152 rfl fun hL Q hQ => ?_; simp only [go_sem, seval, aF152, decide_false, decide_true, and_true])
  | (refine cK_run ?_; refine run_of hmix Tryz.func170 cF170 rfl fun hL Q hQ => ?_; simp only [go_sem, seval, aF170, decide_false, decide_true, and_true])
  | fail
 refine fin_at hQ rfl ?_; simp only [go_sem, seval, aF104]; rw [retQ_some]; simp only [oneOr]
 refine ⟨by first | trivial | rfl, ?_⟩
 repeat (first | exact Keeps.refl _ _ | exact Keeps.of_new _ _ _ | refine Keeps.set ?_ (fun i hi _ => by omega) _ | refine Keeps.new ?_ _)
end Go.Proofs.YtegaklgjcicnfaaGreat
namespace Go.Proofs.YtegaklgjcicnfaaGreat
open Go Go.Proofs.YtegaklgjcicnfaaGreat.Abs
def awLay : Value := layV (.slice none 0 0) (.slice none 0 0) 0 0 0 0 0 false 0
section
variable {hi kp : Nat} {l : List Nd}
set_option maxRecDepth 10000 in
set_option maxHeartbeats 4000000 in
theorem aw132 (hok : ∀ x ∈ l, x.Ok) (h1 : l.length = 1) (S : St) (hK : KinAt S hi kp l) (hh : hi ≤ S.next) : ACalls Tryz.prog 132 [ptr kp, .int .i64 0, .int .i64 640, .agg #[.bool false, .int .i64 64], .agg awE.toArray, .int .i64 (-1)] S fun r S' => r = .tuple #[awLay, .bool true] ∧ KeepsAll S S' := by
 refine run_of hmix Tryz.func132 cF132 rfl fun hL Q hQ => ?_
 simp only [go_sem, seval, aF132, awE]
 repeat' first
  | (refine lK_unroll ?_; simp only [go_sem, seval, decide_false, decide_true, and_true])
  | refine ⟨by kernel_rfl, ?_⟩
  | (refine fin_at hQ rfl ?_; simp only [go_sem, seval, decide_false, decide_true, and_true, aF67]; rw [retQ_some]; simp only [oneOr]; clear hQ; (try simp only [go_sem, seval, decide_false, decide_true, and_true]))
  | (refine cK_run ?_; refine run_of hmix Tryz.func67 cF67 rfl fun hL Q hQ => ?_; simp only [go_sem, seval, aF67, decide_false, decide_true, and_true])
  | fail
 refine cK_of (flow134 hK hh hok (by omega) (n := 0) (by omega)) ?_
 rintro v S1 _ hL1 hp
 obtain ⟨a, e, rfl⟩ : ∃ a e, v = .slice a 0 e := by
  rcases hp.1 with h | ⟨d, ys, cs, h, _, _, _, _, _, hm, _⟩
  ·exact ⟨_, _, h⟩
  ·cases ys with
   | nil => exact ⟨_, _, h⟩
   | cons y ys =>
    obtain ⟨k, _, h2, h3, _⟩ := hm y (List.mem_cons_self ..)
    omega
 have hk := hp.2
 simp only [go_sem, seval, decide_false, decide_true]
 repeat' first
  | (refine lK_unroll ?_; simp only [go_sem, seval, decide_false, decide_true, and_true])
  | refine ⟨by kernel_rfl, ?_⟩
  | (refine fin_at hQ rfl ?_; simp only [go_sem, seval, decide_false, decide_true, and_true, aF155, aF156, aF109, aF107]; rw [retQ_some]; simp only [oneOr]; clear hQ; (try simp only [go_sem, seval, decide_false, decide_true, and_true]))
  | (refine cK_run ?_; refine run_of hmix Tryz.func155 cF155 rfl fun hL Q hQ => ?_; simp only [go_sem, seval, aF155, decide_false, decide_true, and_true])
  | (refine cK_run ?_; refine run_of hmix Tryz.func156 cF156 rfl fun hL Q hQ => ?_; simp only [go_sem, seval, aF156, decide_false, decide_true, and_true])
  | (refine cK_run ?_; refine run_of hmix Tryz.func109 cF109 rfl fun hL Q hQ => ?_; simp only [go_sem, seval, aF109, decide_false, decide_true, and_true])
  | (refine cK_run ?_; refine run_of hmix Tryz.func107 cF107 rfl fun hL Q hQ => ?_; simp only [go_sem, seval, aF107, decide_false, decide_true, and_true])
  | fail
 refine fin_at hQ rfl ?_; simp only [go_sem, seval, aF132]; rw [retQ_some]; simp only [oneOr]
 refine ⟨by first | trivial | rfl, ?_⟩
 repeat (first | exact hk | refine Keeps.set ?_ (fun i hi _ => by have := hk.1; omega) _ | refine Keeps.new ?_ _)
set_option maxRecDepth 10000 in
set_option maxHeartbeats 4000000 in
theorem aw105 (hok : ∀ x ∈ l, x.Ok) (h1 : l.length = 1) (S : St) (hK : KinAt S hi kp l) (hh : hi ≤ S.next) : ACalls Tryz.prog 105 [ptr kp, .int .i64 0, .agg awE.toArray, .agg #[.int .i64 0, .int .i64 640, .int .i64 0]] S fun r S' => (∃ fs, r = .tuple #[.agg (List.toArray fs), awLay, .bool true] ∧ Fl frameSg fs ∧ fs.take 16 = iV [0, 0, 640, 64, 0, 0, 0, 0, 0, 0, 0, 0, 0, 0, 0, 0]) ∧ KeepsAll S S' := by
 refine run_of hmix Tryz.func105 cF105 rfl fun hL Q hQ => ?_
 have hE : Fl edgeSg awE := trivial
 have e28 : awE.length = 28 := rfl
 simp only [go_sem, seval, aF105, awE]
 repeat' first
  | (refine lK_unroll ?_; simp only [go_sem, seval, decide_false, decide_true, and_true])
  | refine ⟨by kernel_rfl, ?_⟩
  | (refine fin_at hQ rfl ?_; simp only [go_sem, seval, decide_false, decide_true, and_true, aF131]; rw [retQ_some]; simp only [oneOr]; clear hQ; (try simp only [go_sem, seval, decide_false, decide_true, and_true]))
  | (refine cK_run ?_; refine run_of hmix Tryz.func131 cF131 rfl fun hL Q hQ => ?_; simp only [go_sem, seval, aF131, decide_false, decide_true, and_true])
  | fail
 have h132 := aw132 hok h1 S hK hh
 simp only [awE] at h132
 refine cK_of h132 ?_
 rintro v S1 _ hL1 ⟨rfl, hk⟩
 simp only [go_sem, seval, awLay, layV]
 have h100 := (aw100 S1).2
 simp only [awE] at h100
 refine cK_keep [0,1,6,7,8,9,10,11,12,18,19,20] fun t1 hk9' => ?_; simp only [go_sem, seval] at hk9'; have hk9 := hk9'; clear hk9'
 refine cK_of h100 ?_
 rintro v S2 _ hL2 ⟨rfl, hk2⟩
 simp only [go_sem, seval, hk9, z99]
 repeat' first
  | (refine lK_unroll ?_; simp only [go_sem, seval, hk9, z99, decide_false, decide_true, and_true])
  | refine ⟨by kernel_rfl, ?_⟩
  | (refine fin_at hQ rfl ?_; simp only [go_sem, seval, hk9, z99, decide_false, decide_true, and_true, aF109, aF107]; rw [retQ_some]; simp only [oneOr]; clear hQ; (try simp only [go_sem, seval, hk9, z99, decide_false, decide_true, and_true]))
  | (refine cK_run ?_; refine run_of hmix Tryz.func109 cF109 rfl fun hL Q hQ => ?_; simp only [go_sem, seval, aF109, hk9, z99, decide_false, decide_true, and_true])
  | (refine cK_run ?_; refine run_of hmix Tryz.func107 cF107 rfl fun hL Q hQ => ?_; simp only [go_sem, seval, aF107, hk9, z99, decide_false, decide_true, and_true])
  | fail
 (first | refine cK_keep [0,1,6,8,9,10,11,12,16,18,19,20,97,100,103] fun t1 hk9' => ?_ | refine lK_keep [0,1,6,8,9,10,11,12,16,18,19,20,97,100,103] fun t1 hk9' => ?_ | refine iK_keep [0,1,6,8,9,10,11,12,16,18,19,20,97,100,103] fun t1 hk9' => ?_ | refine hK_keep [0,1,6,8,9,10,11,12,16,18,19,20,97,100,103] fun t1 hk9' => ?_); simp only [go_sem, seval, hk9] at hk9'; clear hk9; have hk9 := hk9'; clear hk9'
 repeat' first
  | (refine lK_unroll ?_; simp only [go_sem, seval, hk9, z99, decide_false, decide_true, and_true])
  | refine ⟨by kernel_rfl, ?_⟩
  | (refine fin_at hQ rfl ?_; simp only [go_sem, seval, hk9, z99, decide_false, decide_true, and_true, aF128]; rw [retQ_some]; simp only [oneOr]; clear hQ; (try simp only [go_sem, seval, hk9, z99, decide_false, decide_true, and_true]))
  | (refine cK_run ?_; refine run_of hmix Tryz.func128 cF128 rfl fun hL Q hQ => ?_; simp only [go_sem, seval, aF128, hk9, z99, decide_false, decide_true, and_true])
  | fail
 refine cK_keep [0,1,6,8,9,12,16,18,118,124,125] fun t1 hk9' => ?_; simp only [go_sem, seval, hk9] at hk9'; clear hk9; have hk9 := hk9'; clear hk9'
 have kS : KeepsAll S (S2.new ⟨false, [.int .i64 0, .int .i64 64]⟩) := (hk.trans hk2 fun _ _ _ => trivial).new _
 refine cK_of (flow134 (hK.keeps hh kS) (Nat.le_trans hh kS.1) hok (by omega) (n := 0) (by omega)) ?_
 rintro v S3 _ hL3 hp
 obtain ⟨a, e, rfl⟩ : ∃ a e, v = .slice a 0 e := by
  rcases hp.1 with h | ⟨d, ys, cs, h, _, _, _, _, _, hm, _⟩
  ·exact ⟨_, _, h⟩
  ·cases ys with
   | nil => exact ⟨_, _, h⟩
   | cons y ys =>
    obtain ⟨k, _, h2, h3, _⟩ := hm y (List.mem_cons_self ..)
    omega
 have hk3 := kS.trans hp.2 fun _ _ _ => trivial
 simp only [go_sem, seval, hk9]
 have hch := fun high => child133 awE 0 (.slice none 0 0) 0 0 0 0 0 high false S3 hE
 simp only [awE, pileV] at hch
 refine cK_of (hch _) ?_
 rintro v S4 _ hL4 ⟨⟨ds, rfl, hds⟩, rfl⟩
 obtain ⟨d1, d2, d3, d4, d5, d6, d7, d8, rfl⟩ := child_eq hds
 simp only [go_sem, seval, hk9]
 refine fin_at hQ rfl ?_; simp only [go_sem, seval, aF105, hk9]; rw [retQ_some]; simp only [oneOr]
 exact ⟨⟨[_, _, _, _, _, _, _, _, _, _, _, _, _, _, _, _, _, _, _, _, _, _, _, _, _], rfl, trivial, rfl⟩, hk3⟩
set_option maxRecDepth 10000 in
set_option maxHeartbeats 4000000 in
theorem aw40 (hok : ∀ x ∈ l, x.Ok) (h1 : l.length = 1) (hm : madeL l 0 = true) (hst : ∀ h : 0 < l.length, l[0].s.cells = plainL 1 64 5) (S : St) (hK : KinAt S hi kp l) (hh : hi ≤ S.next) : ACalls Tryz.prog 40 [ptr kp, .int .i64 0, .int .i64 640, .agg #[.bool false, .int .i64 480], .bool false] S fun r S' => (∃ fs, r = .tuple #[.agg (List.toArray fs), awLay, .bool true] ∧ Fl frameSg fs ∧ fs.take 16 = iV [0, 0, 640, 64, 0, 0, 0, 0, 0, 0, 0, 0, 0, 0, 0, 0]) ∧ KeepsAll S S' := by
 have h0 : 0 < l.length := by omega
 have h68 : ACalls Tryz.prog 68 [ptr kp, .int .i64 0, .int .i64 640, .agg #[.bool false, .int .i64 480], .bool false] S fun r S' => (∃ fs, r = .tuple #[.agg (List.toArray fs), awLay, .bool true] ∧ Fl frameSg fs ∧ fs.take 16 = iV [0, 0, 640, 64, 0, 0, 0, 0, 0, 0, 0, 0, 0, 0, 0, 0]) ∧ KeepsAll S S' := by
  refine run_of hmix Tryz.func68 cF68 rfl fun hL Q hQ => ?_
  simp only [go_sem, seval, aF68]
  refine cK_of (style55 hK hok h0) ?_
  rintro v S1 _ hL1 ⟨rfl, hS1⟩
  obtain rfl := hS1.symm
  rw [hst h0]
  simp only [go_sem, seval, plainL, iV, List.map_cons, List.map_nil, List.cons_append, List.nil_append, z39, z168]
  have h99 := aw99 S
  simp only [plainL, iV, List.map_cons, List.map_nil, List.cons_append, List.nil_append] at h99
  refine cK_of h99 ?_
  rintro v S2 _ hL2 ⟨rfl, hk2⟩
  simp only [go_sem, seval, awE, z168]
  refine cK_keep [0,1,2,3,4,8,10,11,13,14,15,18,24] fun t1 hk9' => ?_; simp only [go_sem, seval] at hk9'; have hk9 := hk9'; clear hk9'
  have h100 := (aw100 S2).1
  simp only [awE] at h100
  refine cK_of h100 ?_
  rintro v S3 _ hL3 ⟨rfl, hk3⟩
  simp only [go_sem, seval, hk9]
  refine cK_of (aw101 640 S3).1 ?_
  rintro v S4 _ hL4 ⟨rfl, rfl⟩
  simp only [go_sem, seval, hk9]
  (first | refine cK_keep [0,1,2,4,8,10,11,13,14,15,16,17,18,19,24] fun t1 hk9' => ?_ | refine lK_keep [0,1,2,4,8,10,11,13,14,15,16,17,18,19,24] fun t1 hk9' => ?_ | refine iK_keep [0,1,2,4,8,10,11,13,14,15,16,17,18,19,24] fun t1 hk9' => ?_ | refine hK_keep [0,1,2,4,8,10,11,13,14,15,16,17,18,19,24] fun t1 hk9' => ?_); simp only [go_sem, seval, hk9] at hk9'; clear hk9; have hk9 := hk9'; clear hk9'
  repeat' first
   | (refine lK_unroll ?_; simp only [go_sem, seval, hk9, decide_false, decide_true, and_true])
   | refine ⟨by kernel_rfl, ?_⟩
   | (refine fin_at hQ rfl ?_; simp only [go_sem, seval, hk9, decide_false, decide_true, and_true, aF102, aF103, aF101, aF107, aF128]; rw [retQ_some]; simp only [oneOr]; clear hQ; (try simp only [go_sem, seval, hk9, decide_false, decide_true, and_true]))
   | (refine cK_run ?_; refine run_of hmix Tryz.func102 cF102 rfl fun hL Q hQ => ?_; simp only [go_sem, seval, aF102, hk9, decide_false, decide_true, and_true])
   | (refine cK_run ?_; refine run_of hmix Tryz.func103 cF103 rfl fun hL Q hQ => ?_; simp only [go_sem, seval, aF103, hk9, decide_false, decide_true, and_true])
   | (refine cK_run ?_; refine run_of hmix Tryz.func101 cF101 rfl fun hL Q hQ => ?_; simp only [go_sem, seval, aF101, hk9, decide_false, decide_true, and_true])
   | (refine cK_run ?_; refine run_of hmix Tryz.func107 cF107 rfl fun hL Q hQ => ?_; simp only [go_sem, seval, aF107, hk9, decide_false, decide_true, and_true])
   | (refine cK_run ?_; refine run_of hmix Tryz.func128 cF128 rfl fun hL Q hQ => ?_; simp only [go_sem, seval, aF128, hk9, decide_false, decide_true, and_true])
   | fail
  refine cK_keep [0,1,10,11,14,24] fun t1 hk9' => ?_; simp only [go_sem, seval, hk9] at hk9'; clear hk9; have hk9 := hk9'; clear hk9'
  refine cK_of (aw104 S4) ?_
  rintro v S5 _ hL5 ⟨rfl, hk5⟩
  simp only [go_sem, seval, hk9]
  have kS : KeepsAll S S5 := (hk2.trans hk3 fun _ _ _ => trivial).trans hk5 fun _ _ _ => trivial
  have h105 := aw105 hok h1 S5 (hK.keeps hh kS) (Nat.le_trans hh kS.1)
  simp only [awE] at h105
  refine cK_of h105 ?_
  rintro v S6 _ hL6 ⟨⟨fs, rfl, hf, hf2⟩, hk6⟩
  simp only [go_sem, seval, hk9, awLay, layV, hf.N 25, hf.F 25, z99]
  refine fin_at hQ rfl ?_; simp only [go_sem, seval, aF68, hk9, hf.N 25, hf.F 25, awLay, layV]; rw [retQ_some]; simp only [oneOr]
  exact ⟨⟨fs, rfl, hf, hf2⟩, kS.trans hk6 fun _ _ _ => trivial⟩
 refine run_of hmix Tryz.func40 cF40 rfl fun hL Q hQ => ?_
 simp only [go_sem, seval, aF40]
 refine cK_of (made39 hK h0) ?_
 rintro v S1 _ hL1 ⟨rfl, hS1⟩
 obtain rfl := hS1.symm
 rw [hm]
 simp only [go_sem, seval]
 repeat' first
  | (refine lK_unroll ?_; simp only [go_sem, seval, decide_false, decide_true, and_true])
  | refine ⟨by kernel_rfl, ?_⟩
  | (refine fin_at hQ rfl ?_; simp only [go_sem, seval, decide_false, decide_true, and_true, aF67]; rw [retQ_some]; simp only [oneOr]; clear hQ; (try simp only [go_sem, seval, decide_false, decide_true, and_true]))
  | (refine cK_run ?_; refine run_of hmix Tryz.func67 cF67 rfl fun hL Q hQ => ?_; simp only [go_sem, seval, aF67, decide_false, decide_true, and_true])
  | fail
 refine cK_of h68 ?_
 rintro v S2 _ hL2 ⟨⟨fs, rfl, hf, hf2⟩, hk2⟩
 simp only [go_sem, seval, awLay, layV, hf.N 25, hf.F 25]
 refine fin_at hQ rfl ?_; simp only [go_sem, seval, aF40, hf.N 25, hf.F 25, awLay, layV]; rw [retQ_some]; simp only [oneOr]
 exact ⟨⟨fs, rfl, hf, hf2⟩, hk2⟩
end
end Go.Proofs.YtegaklgjcicnfaaGreat
namespace Go.Proofs.YtegaklgjcicnfaaGreat
open Go Go.Proofs.YtegaklgjcicnfaaGreat.Abs
def awBox : List Value := .bool true :: iV [0, 0, 640, 64, 0, 0, 0, 0, 0, 0, 0, 0, 0, 0, 0, 0, 0, 0, 0, 0]
theorem awBox_ok : BoxOk awBox := ⟨by trivial, fun h => by cases h⟩
section
variable {S S' : St} {hi kp : Nat} {l : List Nd} {wp db dk : Nat} {v0 v1 : Int} {ag : Value} {bs ks : List Value}
set_option maxHeartbeats 1000000 in
theorem note69x (n : Nat) (hn : n < l.length) (b : Bool) (h : WorkAt S hi kp l wp db dk v0 v1 ag false bs ks) : ACalls Tryz.prog 69 [ptr wp, .int .i64 n, .agg awBox.toArray, .bool b] S fun r S' => WorkAt S' hi kp l wp db dk v0 v1 ag false (Go.Proofs.YtegaklgjcicnfaaGreat.Abs.ow bs (n * 21) awBox) (ks.set n (.bool b)) ∧ Keeps S S' (fun i => i ≠ wp ∧ i ≠ db ∧ i ≠ dk) := by
 refine run_of hmix Tryz.func69 cF69 rfl fun hL Q hQ => ?_
 have hc := awBox_ok
 have r3 := rd_of_blk h.row 3
 have r4 := rd_of_blk h.row 4
 simp only [workV] at r3 r4
 have hn0 : (0 : Int) ≤ n := by omega
 have hnl : (n : Int) < l.length := by omega
 have hbb := h.box
 have hkk := h.kn
 have hb1 : n * 21 + 21 ≤ bs.length := by have := h.bl; have : (n + 1) * 21 ≤ l.length * 21 := Nat.mul_le_mul_right _ hn; omega
 have hk1 : n + 1 ≤ ks.length := by have := h.kl; omega
 have hW := h.note hn hc b
 obtain ⟨Sa, hSa⟩ : ∃ Sa, Sa = (S.set db ⟨false, Go.Proofs.YtegaklgjcicnfaaGreat.Abs.ow bs (n * 21) awBox⟩).set dk ⟨false, ks.set n (.bool b)⟩ := ⟨_, rfl⟩
 rw [← hSa] at hW
 have ka : Keeps S Sa (fun i => i ≠ wp ∧ i ≠ db ∧ i ≠ dk) := by rw [hSa]; exact ((Keeps.refl _ _).set (fun i _ h => h.2.1) _).set (fun i _ h => h.2.2) _
 simp only [go_sem, seval, aF69, r3, r4, hn0, hnl, Int.toNat_natCast, Nat.mul_one, hc.1.N 21, hc.1.F 21, hbb, hkk, hb1, hk1, h.n1, Ne.symm h.n1]
 rw [← hSa]
 have he : edgesL awBox = [0, 0, 640, 64] := by decide
 refine cK_of (edges106 awBox Sa hc.1) ?_
 rintro v S1 _ hL1 ⟨rfl, hS1⟩
 obtain rfl := hS1.symm
 rw [he]
 simp only [go_sem, seval, iV, List.map_cons, List.map_nil]
 refine cK_of (fits107 _ _) ?_
 rintro v S1 _ hL1' ⟨rfl, hS1⟩
 obtain rfl := hS1.symm
 rw [show fitB 640 = true by decide]
 simp only [go_sem, seval]
 refine cK_of (fits107 _ _) ?_
 rintro v S1 _ hL1'' ⟨rfl, hS1⟩
 obtain rfl := hS1.symm
 rw [show fitB 64 = true by decide]
 simp only [go_sem, seval]
 refine cK_of (is41 _ hW) ?_
 rintro v S2 _ hL2 ⟨rfl, rfl⟩
 refine hQ _ _ _ ?_
 rw [k_body_normal]
 simp only [go_sem, seval, aF69]
 rw [retQ_some]
 exact ⟨hW.setBad _, ka.set (fun i _ h => h.1) _⟩
theorem put42x (n : Nat) (hn : n < l.length) (fs : List Value) (hf : Fl frameSg fs) (hf2 : fs.take 16 = iV [0, 0, 640, 64, 0, 0, 0, 0, 0, 0, 0, 0, 0, 0, 0, 0]) (h : WorkAt S hi kp l wp db dk v0 v1 ag false bs ks) : ACalls Tryz.prog 42 [ptr wp, .int .i64 n, .agg fs.toArray, .int .i64 0, .int .i64 0, .agg #[.int .i64 0, .int .i64 0, .int .i64 0, .int .i64 0]] S fun r S' => ∃ b, WorkAt S' hi kp l wp db dk v0 v1 ag false (Go.Proofs.YtegaklgjcicnfaaGreat.Abs.ow bs (n * 21) awBox) (ks.set n (.bool b)) ∧ Keeps S S' (fun i => i ≠ wp ∧ i ≠ db ∧ i ≠ dk) := by
 refine run_of hmix Tryz.func42 cF42 rfl fun hL Q hQ => ?_
 have hg : ∀ k, k < 16 → fs[k]? = (iV [0, 0, 640, 64, 0, 0, 0, 0, 0, 0, 0, 0, 0, 0, 0, 0])[k]? := fun k hk => by rw [← hf2, List.getElem?_take, if_pos hk]
 have hd : ∀ o, o + 4 ≤ 16 → (fs.drop o).take 4 = ((iV [0, 0, 640, 64, 0, 0, 0, 0, 0, 0, 0, 0, 0, 0, 0, 0]).drop o).take 4 := fun o ho => by
  apply List.ext_getElem?
  intro i
  rw [List.getElem?_take, List.getElem?_take]
  split
  ·rw [List.getElem?_drop, List.getElem?_drop, hg _ (by omega)]
  ·rfl
 have h4 : (fs.drop 4).take 4 = [.int .i64 0, .int .i64 0, .int .i64 0, .int .i64 0] := hd 4 (by omega)
 have h8 : (fs.drop 8).take 4 = [.int .i64 0, .int .i64 0, .int .i64 0, .int .i64 0] := hd 8 (by omega)
 have h12 : (fs.drop 12).take 4 = [.int .i64 0, .int .i64 0, .int .i64 0, .int .i64 0] := hd 12 (by omega)
 have g2 : fs[2]? = some (.int .i64 640) := hg 2 (by omega)
 have g3 : fs[3]? = some (.int .i64 64) := hg 3 (by omega)
 simp only [go_sem, seval, aF42, hf.N 25, hf.F 25, g2, g3, hf.B 16, h4, h8, h12, z51]
 refine cK_of (note69x n hn (bg fs 16) h) ?_
 rintro v S1 _ hL1 ⟨hW, hk⟩
 simp only [go_sem, seval]
 refine hQ _ _ _ ?_
 rw [k_body_normal]
 simp only [go_sem, seval, aF42]
 rw [retQ_some]
 exact ⟨_, hW, hk⟩
end
set_option maxHeartbeats 4000000 in
theorem aw23 (x : Value) (l : List Nd) (S : St) (h : Ns S x l) (hok : ∀ x ∈ l, x.Ok) (hl1 : l.length = 1) (ht : tchk l = 0) (hmd : madeL l 0 = true) (hst : ∀ h : 0 < l.length, l[0].s.cells = plainL 1 64 5) : ACalls Tryz.prog 23 [x, .agg #[.int .i64 640, .int .i64 480]] S (PlanPX False (fun bs => bxAt bs 0 = awBox) l 640 480 S) := by
 refine run_of hmix Tryz.func23 cF23 rfl fun hL Q hQ => ?_
 obtain ⟨xa, xe, rfl⟩ := h.slice
 have hform := tform_of ht
 have h0 := hform.1.1
 have htr := hform.1.2.tr
 have hn : l.length ≤ 24 := by omega
 have hout : outL l 0 = false := by unfold outL; simp
 have hz0 : ((0 : Int) != 0) = false := by decide
 simp only [go_sem, seval, aF23]
 refine cK_of (of24 _ l S h hok (by omega) ht) ?_
 rintro v S1 _ hL1 ⟨kp, hi, rfl, hK, hh, hSk, k1⟩
 have a0 : (0 : Int) ≤ l.length := by omega
 have a1 : (l.length : Int) * 168 ≤ 1099511627776 := by omega
 have a2 : (l.length : Int) * 1 ≤ 1099511627776 := by omega
 simp only [go_sem, seval, hz0, Int.reduceLT, decide_false, decide_true, a0, a1, a2, Int.le_refl, Int.toNat_natCast, Nat.mul_one, made_false]
 obtain ⟨db, hdb⟩ : ∃ db, db = S1.next := ⟨_, rfl⟩
 obtain ⟨Sa, hSa⟩ : ∃ Sa, Sa = S1.new ⟨false, (madeCells z51.toArray (l.length * 21)).toList⟩ := ⟨_, rfl⟩
 obtain ⟨Sb, hSb⟩ : ∃ Sb, Sb = Sa.new ⟨false, List.replicate l.length (.bool false)⟩ := ⟨_, rfl⟩
 obtain ⟨S2, hS2⟩ : ∃ S2, S2 = Sb.new ⟨false, workV kp 640 480 db (db + 1) l.length (.slice none 0 0) false⟩ := ⟨_, rfl⟩
 have na : Sa.next = db + 1 := by rw [hSa, hdb]; rfl
 have nb : Sb.next = db + 2 := by rw [hSb]; show Sa.next + 1 = _; omega
 have n2 : S2.next = db + 3 := by rw [hS2]; show Sb.next + 1 = _; omega
 have hLa : Live Sa := by rw [hSa]; exact hL1.new _
 have hLb : Live Sb := by rw [hSb]; exact hLa.new _
 have hL2 : Live S2 := by rw [hS2]; exact hLb.new _
 have ka : KeepsAll S1 Sa := by rw [hSa]; exact Keeps.of_new _ _ _
 have kb : KeepsAll Sa Sb := by rw [hSb]; exact Keeps.of_new _ _ _
 have kc : KeepsAll Sb S2 := by rw [hS2]; exact Keeps.of_new _ _ _
 have k12 : KeepsAll S1 S2 := (ka.trans kb fun _ _ _ => trivial).trans kc fun _ _ _ => trivial
 have k2 : KeepsAll S S2 := k1.trans k12 fun _ _ _ => trivial
 have hSdb : S.next ≤ db := by have := k1.1; omega
 have b1 : S2.blk db = some ⟨false, (madeCells z51.toArray (l.length * 21)).toList⟩ := by rw [kc.2 _ (by omega) trivial, kb.2 _ (by omega) trivial, hSa, hdb, St.blk_new, if_pos rfl]
 have b2 : S2.blk (db + 1) = some ⟨false, List.replicate l.length (.bool false)⟩ := by rw [kc.2 _ (by omega) trivial, hSb, ← na, St.blk_new, if_pos rfl]
 have b3 : S2.blk (db + 2) = some ⟨false, workV kp 640 480 db (db + 1) l.length (.slice none 0 0) false⟩ := by rw [hS2, ← nb, St.blk_new, if_pos rfl]
 have W2 : WorkAt S2 hi kp l (db + 2) db (db + 1) 640 480 (.slice none 0 0) false (madeCells z51.toArray (l.length * 21)).toList (List.replicate l.length (.bool false)) :=
  ⟨b3, b1, made_len _, fun j hj => by rw [made_at hj]; exact box_z, b2, List.length_replicate, fun j hj => ⟨false, by rw [List.getElem?_replicate, if_pos hj]⟩, hK.keeps hh k12, by omega, by omega, by omega, by omega, by omega, by omega, ⟨_, _, _, rfl⟩⟩
 have e2 : ((S1.new ⟨false, (madeCells z51.toArray (l.length * 21)).toList⟩).new ⟨false, List.replicate l.length (.bool false)⟩).new ⟨false, [ptr kp, .int .i64 640, .int .i64 480, .slice (some ⟨S1.next, 0, none⟩) l.length 21, .slice (some ⟨S1.next + 1, 0, none⟩) l.length 1, .slice none 0 0, .bool false]⟩ = S2 := by rw [hS2, hSb, hSa, hdb]; rfl
 have e3 : S1.next + 1 + 1 = db + 2 := by omega
 rw [e2]
 refine cK_keep [0,3,6,8,9,10] fun t1 hk' => ?_; simp only [go_sem, seval] at hk'; have hk := hk'; clear hk'
 refine cK_of (made39 W2.kin h0) ?_
 rintro v Sx _ hLx ⟨rfl, hSx⟩
 obtain rfl := hSx.symm
 have hiS : hi ≤ S2.next := by omega
 obtain ⟨wp, hwp⟩ : ∃ wp, wp = db + 2 := ⟨_, rfl⟩
 obtain ⟨dk, hdk⟩ : ∃ dk, dk = db + 1 := ⟨_, rfl⟩
 rw [e3, ← hwp] at hk
 rw [← hwp, ← hdk] at W2
 rw [hmd]
 clear b1 b2 b3 hSa hSb e2 e3
 simp only [go_sem, seval, hk]
 refine cK_of (aw40 hok hl1 hmd hst S2 W2.kin hiS) ?_
 rintro v S3 _ hL3 ⟨⟨fs, rfl, hfl, hf2⟩, k23⟩
 have W3 := W2.keeps hL2 k23
 have n3 := k23.1
 simp only [go_sem, seval, hk, awLay, layV, hfl.N 25, hfl.F 25, z99]
 refine cK_keep [0,6,8,9,10,11,12,13,14] fun t1 hk' => ?_; simp only [go_sem, seval, hk] at hk'; clear hk; have hk := hk'; clear hk'
 refine cK_of (is41 true W3) ?_
 rintro v S4 _ hL4 ⟨rfl, hS4⟩
 have W4 := W3.setBad (false || !true)
 rw [← hS4] at W4
 have w4 : Keeps S3 S4 (· ≠ wp) := by rw [hS4]; exact (Keeps.refl _ _).set (fun i _ h => h) _
 have k4 : Keeps S2 S4 (· < db) := k23.all.trans w4 fun i _ hi => by omega
 have i0 : fs[0]? = some (.int .i64 0) := by have := congrArg (fun l => l[0]?) hf2; simpa [List.getElem?_take, iV] using this
 have i4 : fs[4]? = some (.int .i64 0) := by have := congrArg (fun l => l[4]?) hf2; simpa [List.getElem?_take, iV] using this
 have g4 := hfl.I 4
 have ig4 : ig fs 4 = 0 := by rw [i4] at g4; simpa using g4.symm
 simp only [go_sem, seval, hk, hfl.N 25, hfl.F 25, i0, hfl.I 4, ig4]
 refine cK_of (put42x 0 h0 fs hfl hf2 W4) ?_
 rintro v S5 _ hL5 ⟨bb5, W5, w5⟩
 have k5 : Keeps S2 S5 (· < db) := k4.trans w5 fun i _ hi => by omega
 simp only [go_sem, seval, hk]
 refine cK_of (inner43 hok hform hn (.slice none 0 0) 0 0 [] (.inl ⟨rfl, rfl, rfl⟩) (fun i hi => by simp [Value.blkOf] at hi) (by omega) (fun j hj => by omega) W5) ?_
 rintro v S6 _ hL6 ⟨_, hS6⟩
 obtain rfl := (hS6 rfl).symm
 simp only [go_sem, seval, hk, hl1]
 refine lK_unroll ?_
 simp only [go_sem, seval, hk]
 refine cK_of (out44 W5.kin hok h0) ?_
 rintro v Sx _ hLx' ⟨rfl, hSx⟩
 obtain rfl := hSx.symm
 rw [hout]
 simp only [go_sem, seval, hk]
 refine lK_unroll ?_
 simp only [go_sem, seval, hk]
 have hAg : Ag S5 wp 5 (workV kp 640 480 db dk l.length (.slice none 0 0) (false || !true)) (.slice none 0 0) [] := ⟨W5.row, rfl, Heap.nil, .inl ⟨rfl, rfl⟩⟩
 refine cK_of (next_nil hAg) ?_
 rintro v Sx _ hLx'' ⟨rfl, hSx⟩
 obtain rfl := hSx.symm
 simp only [go_sem, seval, hk, En.cells, En.zero]
 refine lK_keep [8,13,14] fun t1 hk' => ?_; simp only [go_sem, seval, hk] at hk'; clear hk; have hk := hk'; clear hk'
 refine lK_unroll ?_
 have s6 := rd_of_blk W5.row 6
 have s3 := rd_of_blk W5.row 3
 simp only [workV] at s6 s3
 have lw := hL5 _ _ W5.row
 have q1 : (wp = S5.next) = False := eq_false (by omega)
 simp only [go_sem, seval, hk, s6, s3, q1]
 refine fin_at hQ rfl ?_; simp only [go_sem, seval, aF23, hk]; rw [retQ_some]; simp only [oneOr]
 have ldb := hL5 _ _ W5.box
 have kE : Keeps S5 ((S5.new ⟨false, [.int .i64 0, .int .i64 0, .int .i64 0]⟩).set S5.next ⟨false, [.int .i64 0, .int .i64 0, .int .i64 0]⟩) (fun _ => True) := (Keeps.of_new _ _ _).set (fun i hi _ => by omega) _
 refine ⟨(k2.trans k5 fun i hi _ => by omega).trans kE fun _ _ _ => trivial, _, 0, rfl, .inr ⟨rfl, ht, ⟨by omega, by omega, by omega, by omega⟩, db, _, rfl, (kE.2 _ ldb trivial).trans W5.box, W5.bl, W5.bok, fun n hn1 hn2 _ ho => ?_, ?_⟩⟩
 ·obtain rfl : n = 0 := by omega
  rw [hout] at ho
  cases ho
 ·show ((Go.Proofs.YtegaklgjcicnfaaGreat.Abs.ow _ (0 * 21) awBox).drop (0 * 21)).take 21 = awBox
  rw [chunk_ow (made_len _) rfl h0 h0, if_pos rfl]
end Go.Proofs.YtegaklgjcicnfaaGreat
namespace Go.Proofs.YtegaklgjcicnfaaGreat
open Go Go.Proofs.YtegaklgjcicnfaaGreat.Abs
set_option maxHeartbeats 1000000 in
theorem plain21 (S : St) : ACalls Tryz.prog 21 [] S fun r S' => r = .agg (plainL 0 0 0).toArray ∧ S' = S := by
 refine run_of hmix Tryz.func21 cF21 rfl fun hL Q hQ => ?_
 simp only [go_sem, seval, aF21, z39]
 refine lK_keep [0,1,2,4] fun t1 hk' => ?_; simp only [go_sem, seval] at hk'; have hk := hk'; clear hk'
 refine lK_unroll ?_
 simp only [go_sem, seval, hk]
 refine lK_keep [0,1,2,4] fun t1 hk' => ?_; simp only [go_sem, seval, hk] at hk'; clear hk; have hk := hk'; clear hk'
 refine lK_unroll ?_
 simp only [go_sem, seval, hk]
 refine lK_keep [0,1,2,4] fun t1 hk' => ?_; simp only [go_sem, seval, hk] at hk'; clear hk; have hk := hk'; clear hk'
 refine lK_unroll ?_
 simp only [go_sem, seval, hk]
 refine lK_keep [0,1,2,4] fun t1 hk' => ?_; simp only [go_sem, seval, hk] at hk'; clear hk; have hk := hk'; clear hk'
 refine lK_unroll ?_
 simp only [go_sem, seval, hk]
 refine lK_keep [0,1,2,4] fun t1 hk' => ?_; simp only [go_sem, seval, hk] at hk'; clear hk; have hk := hk'; clear hk'
 refine lK_unroll ?_
 simp only [go_sem, seval, hk]
 refine fin_at hQ rfl ?_; simp only [go_sem, seval, aF21, hk]; rw [retQ_some]; simp only [oneOr]
 exact ⟨rfl, trivial⟩
def awS : Sty := ⟨true, 0, [(0, 0), (0, 0), (0, 0), (0, 0), (0, 0), (1, 64), (0, 0), (0, 0), (0, 0), (0, 0), (0, 0), (0, 0), (0, 0), (0, 0), (1, 0), (1, 0), (1, 0), (1, 0)], [0, 0, 0, 0], false, false, 0, false, 5, 0⟩
def awN : Nd := ⟨awS, -1⟩
theorem awS_ok : awS.Ok := ⟨rfl, rfl, by unfold InI64; decide, by unfold InI64; decide, by unfold InI64; decide, by unfold InI64; decide, by unfold InI64; decide, by unfold InI64; decide⟩
theorem aw_ok : ∀ x ∈ [awN], x.Ok := fun x hx => by
 rw [List.mem_singleton] at hx
 subst hx
 exact ⟨awS_ok, by unfold InI64; decide⟩
theorem aw_form : TForm [awN] := by
 refine ⟨⟨by decide, fun i hi => ⟨fun h => rfl, fun h => ?_⟩⟩, fun x hx => ?_⟩
 ·simp at hi; omega
 ·rw [List.mem_singleton] at hx
  subst hx
  refine ⟨fun j hj => ?_, fun k hk => ?_, by decide⟩
  ·have : ∀ j : Fin 18, LenOk j (awS.lens[j.val]'(by have := j.isLt; simp [awS])) := by unfold LenOk; decide
   exact this ⟨j, by simpa [awN, awS] using hj⟩
  ·have : ∀ k : Fin 4, 0 ≤ (awS.border[k.val]'(by have := k.isLt; simp [awS])) := by decide
   exact this ⟨k, by simpa [awN, awS] using hk⟩
theorem aw_lim : ¬ TLim [awN] := by
 rintro (⟨k, hk, h⟩ | h)
 ·simp at hk
  subst hk
  rcases h with h | h
  ·apply h
   show SWithin awS
   refine ⟨fun j hj => ?_, fun k hk => ?_, by decide⟩
   ·have : ∀ j : Fin 18, LenIn (awS.lens[j.val]'(by have := j.isLt; simp [awS])) := by unfold LenIn; decide
    exact this ⟨j, by simpa [awS] using hj⟩
   ·have : ∀ k : Fin 4, (awS.border[k.val]'(by have := k.isLt; simp [awS])) ≤ 1099511627776 := by decide
    exact this ⟨k, by simpa [awS] using hk⟩
  ·have : dep [awN] 0 = 1 := by decide
   omega
 ·simp at h
theorem aw_chk : tchk [awN] = 0 := tchk_ok aw_form aw_lim
theorem aw_made : madeL [awN] 0 = true := by decide
theorem EmC.one {l : List Nd} (htr : Tr (par l) l.length) (h1 : l.length = 1) {ns : List Nat} (h : EmC l 0 ns) : ns = [0] := by
 have hp : prt l l.length 0 = [] := List.eq_nil_iff_forall_not_mem.2 fun m hm => by have := prt_gt htr (Nat.le_refl _) hm; omega
 have hm : memb l l.length 0 = [] := List.eq_nil_iff_forall_not_mem.2 fun m hm => by have := memb_gt htr (Nat.le_refl _) hm; have := memb_lt hm; omega
 cases h with
 | mk _ neg pos h1 =>
  rw [hp] at h1
  have h2 := h1.eq_nil
  simp only [List.map_eq_nil_iff, List.append_eq_nil_iff] at h2
  rw [h2.1, h2.2, hm]
  rfl
theorem aw_clip (bs : List Value) : gR (clipsTo [awN] bs 640 480 1) 0 = ⟨0, 0, 640, 480⟩ := by
 have h1 : holdOf [awN] 0 = -1 := by decide
 show gR [clipOf [awN] bs 640 480 _ 0] 0 = _
 unfold clipOf
 rw [if_neg (by rw [aw_made]; decide), if_pos h1]
 rfl
theorem aw_edge (bs : List Value) (h : bxAt bs 0 = awBox) : edgeR bs 0 = ⟨0, 0, 640, 64⟩ := by
 unfold edgeR
 rw [h]
 rfl
def awIt : It := ⟨0, 0, ⟨0, 0, 640, 64⟩, ⟨0, 0, 0, 0⟩, ⟨0, 0, 640, 480⟩, 5⟩
theorem aw_items (bs : List Value) (h : bxAt bs 0 = awBox) : itsOf [awN] bs (clipsTo [awN] bs 640 480 1) [0] = [awIt] := by
 show itemsOf [awN] bs _ 0 ++ [] = _
 unfold itemsOf
 rw [aw_clip, aw_edge bs h]
 rfl
theorem aw_cull : cullL [awIt] = [awIt] := by rfl
set_option maxHeartbeats 2000000 in
theorem awake9 (S : St) : ACalls Tryz.prog 9 [] S fun r S' => r = .bool true ∧ KeepsAll S S' := by
 refine run_of hmix Tryz.func9 cF9 rfl fun hL Q hQ => ?_
 simp only [go_sem, seval, aF9]
 refine cK_of (plain21 S) ?_
 rintro v S1 _ hL1 ⟨rfl, hS1⟩
 obtain rfl := hS1.symm
 simp only [go_sem, seval, plainL, iV, List.map_cons, List.map_nil, List.cons_append, List.nil_append, z39, z41]
 obtain ⟨S1, hS1⟩ : ∃ S1, S1 = S.new ⟨false, ndCells [awN]⟩ := ⟨_, rfl⟩
 have e1 : ndCells [awN] = [.bool true, .int .i64 0, .int .i64 0, .int .i64 0, .int .i64 0, .int .i64 0, .int .i64 0, .int .i64 0, .int .i64 0, .int .i64 0, .int .i64 0, .int .i64 0, .int .i64 1, .int .i64 64, .int .i64 0, .int .i64 0, .int .i64 0, .int .i64 0, .int .i64 0, .int .i64 0, .int .i64 0, .int .i64 0, .int .i64 0, .int .i64 0, .int .i64 0, .int .i64 0, .int .i64 0, .int .i64 0, .int .i64 0, .int .i64 0, .int .i64 1, .int .i64 0, .int .i64 1, .int .i64 0, .int .i64 1, .int .i64 0, .int .i64 1, .int .i64 0, .int .i64 0, .int .i64 0, .int .i64 0, .int .i64 0, .bool false, .bool false, .int .i64 0, .bool false, .int .i64 5, .int .i64 0, .int .i64 (-1)] := rfl
 have hNs : Ns S1 (.slice (some ⟨S.next, 0, none⟩) 1 49) [awN] := .inr ⟨S.next, 0, 49, rfl, .inr rfl, by rw [hS1, cellsOf_new, if_pos rfl, if_pos (by decide)]; rfl⟩
 have k1 : KeepsAll S S1 := by rw [hS1]; exact Keeps.of_new _ _ _
 rw [← e1, ← hS1]
 have h23 := aw23 _ [awN] S1 hNs aw_ok rfl aw_chk aw_made (fun _ => rfl)
 refine cK_keep [0,1,2,3] fun t1 hk' => ?_; simp only [go_sem, seval] at hk'; have hk := hk'; clear hk'
 refine cK_of (tree11x _ [awN] 640 480 S1 hNs aw_ok (by decide) h23) ?_
 rintro v S2 _ hL2 ⟨k2, b, f, c, e, rfl, ⟨b0, b1, b2, rfl⟩, ⟨f0, f1, f2, rfl⟩, ⟨c0, c1, c2, rfl⟩, hT⟩
 rcases hT with ⟨h, _⟩ | ⟨rfl, bs, ns, T, hX⟩
 ·exact h.elim
 have hX' : bxAt bs 0 = awBox := hX
 have hns : ns = [0] := EmC.one aw_form.1.2.tr rfl (T.pnt.2 aw_made)
 have hits : itsOf [awN] bs (clipsTo [awN] bs 640 480 [awN].length) ns = [awIt] := by rw [hns]; exact aw_items bs hX'
 have hc := T.cull
 rw [hits, aw_cull] at hc
 obtain ⟨d, o, e', he, _, hcc⟩ := hc.ne (by decide)
 cases he
 have hb := T.box
 obtain ⟨d', o', e'', he', _, hbb⟩ := hb.ne (by decide)
 cases he'
 have r1 : cellsOf S2 d (o + 2) 4 = some [.int .i64 0, .int .i64 0, .int .i64 640, .int .i64 64] := by rw [cellsOf_of_cells hcc (by decide)]; rfl
 have r2 : rd S2 d' (o' + 3) = some (.int .i64 640) := by
  rw [rd_of_cells hbb (by decide)]
  have := congrArg (fun l => l[3]?) hX'
  simp only [bxAt, List.getElem?_take, List.getElem?_drop] at this
  simp at this
  exact this
 have hfe : flatEq [true, true, true, true] [.int .i64 0, .int .i64 0, .int .i64 640, .int .i64 64] [.int .i64 0, .int .i64 0, .int .i64 640, .int .i64 64] = some true := by rfl
 simp only [go_sem, seval, hk, r1, hfe, r2]
 refine fin_at hQ rfl ?_; simp only [go_sem, seval, aF9, hk]; rw [retQ_some]; simp only [oneOr]
 exact ⟨trivial, k1.trans k2 fun _ _ _ => trivial⟩
end Go.Proofs.YtegaklgjcicnfaaGreat
