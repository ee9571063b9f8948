/- Weekday and Fits: the walks of both texts and of their laws. -/
import Derived.Test.YtfhlopegmfdkpaaNApi
namespace Go.Proofs.Ytfhlopegmfdkpaa
open Go Go.RowKit
def weekV (d : Int) : Value := if inB 0 d 100000 then .tuple #[.int .i64 (d % 7), .int .i64 0] else .tuple #[.int .i64 0, .int .i64 2]
theorem weekday_any (d : Int) (w : World) : Calls Try.prog 23 #[.int .i64 d] w fun e w' => e = .returned (weekV d) ∧ w = w' := by
  have H := within_any
  cases h : inB 0 d 100000
  · have HV : Hid (weekV d = .tuple #[.int .i64 0, .int .i64 2]) := by show _ = _; unfold weekV; rw [h]; rfl
    go_enter Try.func23, Try.ntmps23
    go_wp2_with (go_at_call 55; refine (within_any _ _ _ _).mono ?_; rintro e w' ⟨rfl, rfl⟩)
    go_ret2
    exact ⟨by rw [HV.out]; rfl, rfl⟩
  · have HV : Hid (weekV d = .tuple #[.int .i64 (d % 7), .int .i64 0]) := by show _ = _; unfold weekV; rw [h]; rfl
    have hd := inB_iff.1 h
    go_enter Try.func23, Try.ntmps23
    go_wp2_with (go_at_call 55; refine (within_any _ _ _ _).mono ?_; rintro e w' ⟨rfl, rfl⟩)
    go_ret2
    exact ⟨by rw [HV.out]; rfl, rfl⟩
theorem refWeekday_any (d : Int) (w : World) : Calls Try.prog 24 #[.int .i64 d] w fun e w' => e = .returned (weekV d) ∧ w = w' := by
  have H := within_any
  cases h : inB 0 d 100000
  · have HV : Hid (weekV d = .tuple #[.int .i64 0, .int .i64 2]) := by show _ = _; unfold weekV; rw [h]; rfl
    go_enter Try.func24, Try.ntmps24
    go_wp2_with (go_at_call 52; refine (from_any _ _ _ _).mono ?_; rintro e w' ⟨rfl, rfl⟩)
    go_ret2
    exact ⟨by rw [HV.out]; rfl, rfl⟩
  · have HV : Hid (weekV d = .tuple #[.int .i64 (d % 7), .int .i64 0]) := by show _ = _; unfold weekV; rw [h]; rfl
    have hd := inB_iff.1 h
    go_enter Try.func24, Try.ntmps24
    go_wp2_with (go_at_call 52; refine (from_any _ _ _ _).mono ?_; rintro e w' ⟨rfl, rfl⟩)
    go_ret2
    exact ⟨by rw [HV.out]; rfl, rfl⟩
set_option maxRecDepth 100000 in
theorem days_walk (d : Int) (w : World) : Calls Try.prog 6 #[.int .i64 d] w fun e w' => e = .returned (.bool true) ∧ Below w.heap.size w w' := by
  obtain ⟨a, b, hv⟩ : ∃ a b, weekV d = .tuple #[.int .i64 a, .int .i64 b] := by
    unfold weekV
    split
    · exact ⟨_, _, rfl⟩
    · exact ⟨_, _, rfl⟩
  go_enter Try.func6, Try.ntmps6
  go_wp2_with fail
  refine (weekday_any d w).mono ?_
  rintro e w' ⟨rfl, rfl⟩
  rw [hv]
  go_wp2_with fail
  refine (refWeekday_any d w).mono ?_
  rintro e w' ⟨rfl, rfl⟩
  rw [hv]
  clear hv
  go_wp2_with fail
  refine (awake_any w).mono ?_
  rintro e W ⟨rfl, hB⟩
  go_wp2_with fail
  go_ret
  exact ⟨rfl, hB⟩
def fitV (j : Job) (n : Nit) : Value := if jobOk j then (if nitOk n then .tuple #[.bool (fitsF j n), .int .i64 0] else .tuple #[.bool false, .int .i64 81]) else .tuple #[.bool false, .int .i64 80]
theorem wrong_one (j : Job) (n : Nit) : wrongF [j] [n] = if jobOk j then (if nitOk n then 0 else 81) else 80 := by
  unfold wrongF jobsOk
  cases jobOk j <;> cases h : nitOk n <;> simp [h, jobsOk]
theorem fitV_form (j : Job) (n : Nit) : ∃ a b, fitV j n = .tuple #[.bool a, .int .i64 b] := by
  unfold fitV
  split
  · split <;> exact ⟨_, _, rfl⟩
  · exact ⟨_, _, rfl⟩
set_option maxRecDepth 100000 in
set_option maxHeartbeats 1000000 in
theorem apiFits_any (j : Job) (n : Nit) (w : World) : Calls Try.prog 21 #[.agg #[.int .i64 j.n, .int .i64 j.road, .int .i64 j.chain, .int .i64 j.first, .int .i64 j.last, .int .i64 j.crew, .bool j.dry, .bool j.warm], .agg #[.int .i64 n.day, .int .i64 n.road, .int .i64 n.lo, .int .i64 n.hi, .int .i64 n.crew, .int .i64 n.pl, .bool n.rain, .bool n.frost]] w fun e w' => e = .returned (fitV j n) ∧ Below w.heap.size w w' := by
  have hB0 := ((Below.refl w.heap.size w).alloc (Nat.le_refl _) (.cells #[.int .i64 j.n, .int .i64 j.road, .int .i64 j.chain, .int .i64 j.first, .int .i64 j.last, .int .i64 j.crew, .bool j.dry, .bool j.warm] 39)).alloc (by simp) (.cells #[.int .i64 n.day, .int .i64 n.road, .int .i64 n.lo, .int .i64 n.hi, .int .i64 n.crew, .int .i64 n.pl, .bool n.rain, .bool n.frost] 37)
  have h0 := (Blk.new w 39 #[.int .i64 j.n, .int .i64 j.road, .int .i64 j.chain, .int .i64 j.first, .int .i64 j.last, .int .i64 j.crew, .bool j.dry, .bool j.warm]).alloc (.cells #[.int .i64 n.day, .int .i64 n.road, .int .i64 n.lo, .int .i64 n.hi, .int .i64 n.crew, .int .i64 n.pl, .bool n.rain, .bool n.frost] 37)
  have h1 := Blk.new (w.alloc (.cells #[.int .i64 j.n, .int .i64 j.road, .int .i64 j.chain, .int .i64 j.first, .int .i64 j.last, .int .i64 j.crew, .bool j.dry, .bool j.warm] 39)) 37 #[.int .i64 n.day, .int .i64 n.road, .int .i64 n.lo, .int .i64 n.hi, .int .i64 n.crew, .int .i64 n.pl, .bool n.rain, .bool n.frost]
  rw [show (w.alloc (.cells #[.int .i64 j.n, .int .i64 j.road, .int .i64 j.chain, .int .i64 j.first, .int .i64 j.last, .int .i64 j.crew, .bool j.dry, .bool j.warm] 39)).heap.size = w.heap.size + 1 by simp] at h1
  have hsz : ((w.alloc (.cells #[.int .i64 j.n, .int .i64 j.road, .int .i64 j.chain, .int .i64 j.first, .int .i64 j.last, .int .i64 j.crew, .bool j.dry, .bool j.warm] 39)).alloc (.cells #[.int .i64 n.day, .int .i64 n.road, .int .i64 n.lo, .int .i64 n.hi, .int .i64 n.crew, .int .i64 n.pl, .bool n.rain, .bool n.frost] 37)).heap.size = w.heap.size + 2 := by simp
  go_enter Try.func21, Try.ntmps21
  go_upto_region 1 with fail
  generalize (w.alloc (.cells #[.int .i64 j.n, .int .i64 j.road, .int .i64 j.chain, .int .i64 j.first, .int .i64 j.last, .int .i64 j.crew, .bool j.dry, .bool j.warm] 39)).alloc (.cells #[.int .i64 n.day, .int .i64 n.road, .int .i64 n.lo, .int .i64 n.hi, .int .i64 n.crew, .int .i64 n.pl, .bool n.rain, .bool n.frost] 37) = W at *
  have p0 := h0.cell_ 0 rfl
  have p1 := h0.cell_ 1 rfl
  have p2 := h0.cell_ 2 rfl
  have p3 := h0.cell_ 3 rfl
  have p4 := h0.cell_ 4 rfl
  have p5 := h0.cell_ 5 rfl
  have p6 := h0.cell_ 6 rfl
  have p7 := h0.cell_ 7 rfl
  have q0 := h1.cell_ 0 rfl
  have q1 := h1.cell_ 1 rfl
  have q2 := h1.cell_ 2 rfl
  have q3 := h1.cell_ 3 rfl
  have q4 := h1.cell_ 4 rfl
  have q5 := h1.cell_ 5 rfl
  have q6 := h1.cell_ 6 rfl
  have q7 := h1.cell_ 7 rfl
  have h2 := (Blk.new W 39 #[.int .i64 j.n, .int .i64 j.road, .int .i64 j.chain, .int .i64 j.first, .int .i64 j.last, .int .i64 j.crew, .bool j.dry, .bool j.warm]).alloc (.cells #[.int .i64 n.day, .int .i64 n.road, .int .i64 n.lo, .int .i64 n.hi, .int .i64 n.crew, .int .i64 n.pl, .bool n.rain, .bool n.frost] 37)
  have h3 := Blk.new (W.alloc (.cells #[.int .i64 j.n, .int .i64 j.road, .int .i64 j.chain, .int .i64 j.first, .int .i64 j.last, .int .i64 j.crew, .bool j.dry, .bool j.warm] 39)) 37 #[.int .i64 n.day, .int .i64 n.road, .int .i64 n.lo, .int .i64 n.hi, .int .i64 n.crew, .int .i64 n.pl, .bool n.rain, .bool n.frost]
  have hB1 := (hB0.alloc hB0.size (.cells #[.int .i64 j.n, .int .i64 j.road, .int .i64 j.chain, .int .i64 j.first, .int .i64 j.last, .int .i64 j.crew, .bool j.dry, .bool j.warm] 39)).alloc (by simp; omega) (.cells #[.int .i64 n.day, .int .i64 n.road, .int .i64 n.lo, .int .i64 n.hi, .int .i64 n.crew, .int .i64 n.pl, .bool n.rain, .bool n.frost] 37)
  have h0' := (h0.alloc (.cells #[.int .i64 j.n, .int .i64 j.road, .int .i64 j.chain, .int .i64 j.first, .int .i64 j.last, .int .i64 j.crew, .bool j.dry, .bool j.warm] 39)).alloc (.cells #[.int .i64 n.day, .int .i64 n.road, .int .i64 n.lo, .int .i64 n.hi, .int .i64 n.crew, .int .i64 n.pl, .bool n.rain, .bool n.frost] 37)
  have h1' := (h1.alloc (.cells #[.int .i64 j.n, .int .i64 j.road, .int .i64 j.chain, .int .i64 j.first, .int .i64 j.last, .int .i64 j.crew, .bool j.dry, .bool j.warm] 39)).alloc (.cells #[.int .i64 n.day, .int .i64 n.road, .int .i64 n.lo, .int .i64 n.hi, .int .i64 n.crew, .int .i64 n.pl, .bool n.rain, .bool n.frost] 37)
  have qa := (h1.alloc (.cells #[.int .i64 j.n, .int .i64 j.road, .int .i64 j.chain, .int .i64 j.first, .int .i64 j.last, .int .i64 j.crew, .bool j.dry, .bool j.warm] 39)).cell_ 0 rfl
  have qb := (h1.alloc (.cells #[.int .i64 j.n, .int .i64 j.road, .int .i64 j.chain, .int .i64 j.first, .int .i64 j.last, .int .i64 j.crew, .bool j.dry, .bool j.warm] 39)).cell_ 1 rfl
  have qc := (h1.alloc (.cells #[.int .i64 j.n, .int .i64 j.road, .int .i64 j.chain, .int .i64 j.first, .int .i64 j.last, .int .i64 j.crew, .bool j.dry, .bool j.warm] 39)).cell_ 2 rfl
  have qd := (h1.alloc (.cells #[.int .i64 j.n, .int .i64 j.road, .int .i64 j.chain, .int .i64 j.first, .int .i64 j.last, .int .i64 j.crew, .bool j.dry, .bool j.warm] 39)).cell_ 3 rfl
  have qe := (h1.alloc (.cells #[.int .i64 j.n, .int .i64 j.road, .int .i64 j.chain, .int .i64 j.first, .int .i64 j.last, .int .i64 j.crew, .bool j.dry, .bool j.warm] 39)).cell_ 4 rfl
  have qf := (h1.alloc (.cells #[.int .i64 j.n, .int .i64 j.road, .int .i64 j.chain, .int .i64 j.first, .int .i64 j.last, .int .i64 j.crew, .bool j.dry, .bool j.warm] 39)).cell_ 5 rfl
  have qg := (h1.alloc (.cells #[.int .i64 j.n, .int .i64 j.road, .int .i64 j.chain, .int .i64 j.first, .int .i64 j.last, .int .i64 j.crew, .bool j.dry, .bool j.warm] 39)).cell_ 6 rfl
  have qh := (h1.alloc (.cells #[.int .i64 j.n, .int .i64 j.road, .int .i64 j.chain, .int .i64 j.first, .int .i64 j.last, .int .i64 j.crew, .bool j.dry, .bool j.warm] 39)).cell_ 7 rfl
  rw [show (W.alloc (.cells #[.int .i64 j.n, .int .i64 j.road, .int .i64 j.chain, .int .i64 j.first, .int .i64 j.last, .int .i64 j.crew, .bool j.dry, .bool j.warm] 39)).heap.size = w.heap.size + 3 by simp; omega] at h3
  rw [hsz] at h2
  go_wp2_with fail
  clear qa qb qc qd qe qf qg qh
  clear p0 p1 p2 p3 p4 p5 p6 p7 q0 q1 q2 q3 q4 q5 q6 q7
  have hSJ : Slc Job.enc 8 _ _ (some ⟨w.heap.size + 2, 0, none⟩) [j] := slc_one h2 (fun _ => rfl) rfl
  have hSN : Slc Nit.enc 8 _ _ (some ⟨w.heap.size + 3, 0, none⟩) [n] := slc_one h3 (fun _ => rfl) rfl
  clear h0 h1 h2 h3 hB0
  generalize (W.alloc (.cells #[.int .i64 j.n, .int .i64 j.road, .int .i64 j.chain, .int .i64 j.first, .int .i64 j.last, .int .i64 j.crew, .bool j.dry, .bool j.warm] 39)).alloc (.cells #[.int .i64 n.day, .int .i64 n.road, .int .i64 n.lo, .int .i64 n.hi, .int .i64 n.crew, .int .i64 n.pl, .bool n.rain, .bool n.frost] 37) = W2 at *
  refine (checked_any (some ⟨w.heap.size + 2, 0, none⟩) 1 [j] (some ⟨w.heap.size + 3, 0, none⟩) 1 [n] W2 hSJ hSN (by simp) (by simp)).mono ?_
  rintro e W3 ⟨rfl, hb⟩
  have g0 := h0'.below hb h0'.lt
  have g1 := h1'.below hb h1'.lt
  have hB3 := hB1.trans (hb.mono hB1.size)
  clear h0' h1' hB1 hb hSJ hSN hsz
  rw [wrong_one]
  cases hj : jobOk j
  · have HV : Hid (fitV j n = .tuple #[.bool false, .int .i64 80]) := by show _ = _; unfold fitV; rw [hj]; rfl
    clear hj
    dsimp only
    go_wp2_with fail
    go_ret2
    exact ⟨by rw [HV.out]; rfl, hB3⟩
  · cases hn : nitOk n
    · have HV : Hid (fitV j n = .tuple #[.bool false, .int .i64 81]) := by show _ = _; unfold fitV; rw [hj, hn]; rfl
      clear hj hn
      dsimp only
      go_wp2_with fail
      go_ret2
      exact ⟨by rw [HV.out]; rfl, hB3⟩
    · have HV : Hid (fitV j n = .tuple #[.bool (fitsF j n), .int .i64 0]) := by show _ = _; unfold fitV; rw [hj, hn]; rfl
      clear hj hn
      dsimp only
      have p0 := g0.cell_ 0 rfl
      have p1 := g0.cell_ 1 rfl
      have p2 := g0.cell_ 2 rfl
      have p3 := g0.cell_ 3 rfl
      have p4 := g0.cell_ 4 rfl
      have p5 := g0.cell_ 5 rfl
      have p6 := g0.cell_ 6 rfl
      have p7 := g0.cell_ 7 rfl
      have q0 := g1.cell_ 0 rfl
      have q1 := g1.cell_ 1 rfl
      have q2 := g1.cell_ 2 rfl
      have q3 := g1.cell_ 3 rfl
      have q4 := g1.cell_ 4 rfl
      have q5 := g1.cell_ 5 rfl
      have q6 := g1.cell_ 6 rfl
      have q7 := g1.cell_ 7 rfl
      go_wp2_with fail
      refine (fits_any j n _).mono ?_
      rintro e W4 ⟨rfl, hb4⟩
      clear p0 p1 p2 p3 p4 p5 p6 p7 q0 q1 q2 q3 q4 q5 q6 q7
      go_wp2_with fail
      go_ret2
      exact ⟨by rw [HV.out]; rfl, hB3.trans (hb4.mono hB3.size)⟩
set_option maxRecDepth 100000 in
set_option maxHeartbeats 1000000 in
theorem refApiFits_any (j : Job) (n : Nit) (w : World) : Calls Try.prog 22 #[.agg #[.int .i64 j.n, .int .i64 j.road, .int .i64 j.chain, .int .i64 j.first, .int .i64 j.last, .int .i64 j.crew, .bool j.dry, .bool j.warm], .agg #[.int .i64 n.day, .int .i64 n.road, .int .i64 n.lo, .int .i64 n.hi, .int .i64 n.crew, .int .i64 n.pl, .bool n.rain, .bool n.frost]] w fun e w' => e = .returned (fitV j n) ∧ Below w.heap.size w w' := by
  have hB0 := ((Below.refl w.heap.size w).alloc (Nat.le_refl _) (.cells #[.int .i64 j.n, .int .i64 j.road, .int .i64 j.chain, .int .i64 j.first, .int .i64 j.last, .int .i64 j.crew, .bool j.dry, .bool j.warm] 39)).alloc (by simp) (.cells #[.int .i64 n.day, .int .i64 n.road, .int .i64 n.lo, .int .i64 n.hi, .int .i64 n.crew, .int .i64 n.pl, .bool n.rain, .bool n.frost] 37)
  have h0 := (Blk.new w 39 #[.int .i64 j.n, .int .i64 j.road, .int .i64 j.chain, .int .i64 j.first, .int .i64 j.last, .int .i64 j.crew, .bool j.dry, .bool j.warm]).alloc (.cells #[.int .i64 n.day, .int .i64 n.road, .int .i64 n.lo, .int .i64 n.hi, .int .i64 n.crew, .int .i64 n.pl, .bool n.rain, .bool n.frost] 37)
  have h1 := Blk.new (w.alloc (.cells #[.int .i64 j.n, .int .i64 j.road, .int .i64 j.chain, .int .i64 j.first, .int .i64 j.last, .int .i64 j.crew, .bool j.dry, .bool j.warm] 39)) 37 #[.int .i64 n.day, .int .i64 n.road, .int .i64 n.lo, .int .i64 n.hi, .int .i64 n.crew, .int .i64 n.pl, .bool n.rain, .bool n.frost]
  rw [show (w.alloc (.cells #[.int .i64 j.n, .int .i64 j.road, .int .i64 j.chain, .int .i64 j.first, .int .i64 j.last, .int .i64 j.crew, .bool j.dry, .bool j.warm] 39)).heap.size = w.heap.size + 1 by simp] at h1
  go_enter Try.func22, Try.ntmps22
  go_upto_region 1 with fail
  generalize (w.alloc (.cells #[.int .i64 j.n, .int .i64 j.road, .int .i64 j.chain, .int .i64 j.first, .int .i64 j.last, .int .i64 j.crew, .bool j.dry, .bool j.warm] 39)).alloc (.cells #[.int .i64 n.day, .int .i64 n.road, .int .i64 n.lo, .int .i64 n.hi, .int .i64 n.crew, .int .i64 n.pl, .bool n.rain, .bool n.frost] 37) = W at *
  have p0 := h0.cell_ 0 rfl
  have p1 := h0.cell_ 1 rfl
  have p2 := h0.cell_ 2 rfl
  have p3 := h0.cell_ 3 rfl
  have p4 := h0.cell_ 4 rfl
  have p5 := h0.cell_ 5 rfl
  have p6 := h0.cell_ 6 rfl
  have p7 := h0.cell_ 7 rfl
  have q0 := h1.cell_ 0 rfl
  have q1 := h1.cell_ 1 rfl
  have q2 := h1.cell_ 2 rfl
  have q3 := h1.cell_ 3 rfl
  have q4 := h1.cell_ 4 rfl
  have q5 := h1.cell_ 5 rfl
  have q6 := h1.cell_ 6 rfl
  have q7 := h1.cell_ 7 rfl
  go_wp2_with fail
  refine (refJob_any j _).mono ?_
  rintro e W ⟨rfl, hb⟩
  clear p0 p1 p2 p3 p4 p5 p6 p7 q0 q1 q2 q3 q4 q5 q6 q7
  replace h0 := h0.below hb h0.lt
  replace h1 := h1.below hb h1.lt
  replace hB0 := hB0.trans (hb.mono hB0.size)
  clear hb
  have p0 := h0.cell_ 0 rfl
  have p1 := h0.cell_ 1 rfl
  have p2 := h0.cell_ 2 rfl
  have p3 := h0.cell_ 3 rfl
  have p4 := h0.cell_ 4 rfl
  have p5 := h0.cell_ 5 rfl
  have p6 := h0.cell_ 6 rfl
  have p7 := h0.cell_ 7 rfl
  have q0 := h1.cell_ 0 rfl
  have q1 := h1.cell_ 1 rfl
  have q2 := h1.cell_ 2 rfl
  have q3 := h1.cell_ 3 rfl
  have q4 := h1.cell_ 4 rfl
  have q5 := h1.cell_ 5 rfl
  have q6 := h1.cell_ 6 rfl
  have q7 := h1.cell_ 7 rfl
  cases hj : jobOk j
  · have HV : Hid (fitV j n = .tuple #[.bool false, .int .i64 80]) := by show _ = _; unfold fitV; rw [hj]; rfl
    clear hj
    go_wp2_with fail
    go_ret2
    exact ⟨by rw [HV.out]; rfl, hB0⟩
  · have HJ := hide hj
    clear hj
    go_wp2_with fail
    refine (refNight_any n _).mono ?_
    rintro e W ⟨rfl, hb⟩
    clear p0 p1 p2 p3 p4 p5 p6 p7 q0 q1 q2 q3 q4 q5 q6 q7
    replace h0 := h0.below hb h0.lt
    replace h1 := h1.below hb h1.lt
    replace hB0 := hB0.trans (hb.mono hB0.size)
    clear hb
    have p0 := h0.cell_ 0 rfl
    have p1 := h0.cell_ 1 rfl
    have p2 := h0.cell_ 2 rfl
    have p3 := h0.cell_ 3 rfl
    have p4 := h0.cell_ 4 rfl
    have p5 := h0.cell_ 5 rfl
    have p6 := h0.cell_ 6 rfl
    have p7 := h0.cell_ 7 rfl
    have q0 := h1.cell_ 0 rfl
    have q1 := h1.cell_ 1 rfl
    have q2 := h1.cell_ 2 rfl
    have q3 := h1.cell_ 3 rfl
    have q4 := h1.cell_ 4 rfl
    have q5 := h1.cell_ 5 rfl
    have q6 := h1.cell_ 6 rfl
    have q7 := h1.cell_ 7 rfl
    cases hn : nitOk n
    · have HV : Hid (fitV j n = .tuple #[.bool false, .int .i64 81]) := by show _ = _; unfold fitV; rw [HJ.out, hn]; rfl
      clear hn
      go_wp2_with fail
      go_ret2
      exact ⟨by rw [HV.out]; rfl, hB0⟩
    · have HV : Hid (fitV j n = .tuple #[.bool (fitsF j n), .int .i64 0]) := by show _ = _; unfold fitV; rw [HJ.out, hn]; rfl
      clear hn
      go_wp2_with fail
      refine (refFits_any j n _).mono ?_
      rintro e W ⟨rfl, hb⟩
      clear p0 p1 p2 p3 p4 p5 p6 p7 q0 q1 q2 q3 q4 q5 q6 q7
      replace h0 := h0.below hb h0.lt
      replace h1 := h1.below hb h1.lt
      replace hB0 := hB0.trans (hb.mono hB0.size)
      clear hb
      have p0 := h0.cell_ 0 rfl
      have p1 := h0.cell_ 1 rfl
      have p2 := h0.cell_ 2 rfl
      have p3 := h0.cell_ 3 rfl
      have p4 := h0.cell_ 4 rfl
      have p5 := h0.cell_ 5 rfl
      have p6 := h0.cell_ 6 rfl
      have p7 := h0.cell_ 7 rfl
      have q0 := h1.cell_ 0 rfl
      have q1 := h1.cell_ 1 rfl
      have q2 := h1.cell_ 2 rfl
      have q3 := h1.cell_ 3 rfl
      have q4 := h1.cell_ 4 rfl
      have q5 := h1.cell_ 5 rfl
      have q6 := h1.cell_ 6 rfl
      have q7 := h1.cell_ 7 rfl
      go_wp2_with fail
      go_ret2
      exact ⟨by rw [HV.out]; rfl, hB0⟩
set_option maxRecDepth 100000 in
set_option maxHeartbeats 1000000 in
theorem fits_walk (j : Job) (n : Nit) (w : World) : Calls Try.prog 5 #[.agg #[.int .i64 j.n, .int .i64 j.road, .int .i64 j.chain, .int .i64 j.first, .int .i64 j.last, .int .i64 j.crew, .bool j.dry, .bool j.warm], .agg #[.int .i64 n.day, .int .i64 n.road, .int .i64 n.lo, .int .i64 n.hi, .int .i64 n.crew, .int .i64 n.pl, .bool n.rain, .bool n.frost]] w fun e w' => e = .returned (.bool true) ∧ Below w.heap.size w w' := by
  obtain ⟨a, b, hv⟩ := fitV_form j n
  have hB0 := ((Below.refl w.heap.size w).alloc (Nat.le_refl _) (.cells #[.int .i64 j.n, .int .i64 j.road, .int .i64 j.chain, .int .i64 j.first, .int .i64 j.last, .int .i64 j.crew, .bool j.dry, .bool j.warm] 39)).alloc (by simp) (.cells #[.int .i64 n.day, .int .i64 n.road, .int .i64 n.lo, .int .i64 n.hi, .int .i64 n.crew, .int .i64 n.pl, .bool n.rain, .bool n.frost] 37)
  have h0 := (Blk.new w 39 #[.int .i64 j.n, .int .i64 j.road, .int .i64 j.chain, .int .i64 j.first, .int .i64 j.last, .int .i64 j.crew, .bool j.dry, .bool j.warm]).alloc (.cells #[.int .i64 n.day, .int .i64 n.road, .int .i64 n.lo, .int .i64 n.hi, .int .i64 n.crew, .int .i64 n.pl, .bool n.rain, .bool n.frost] 37)
  have h1 := Blk.new (w.alloc (.cells #[.int .i64 j.n, .int .i64 j.road, .int .i64 j.chain, .int .i64 j.first, .int .i64 j.last, .int .i64 j.crew, .bool j.dry, .bool j.warm] 39)) 37 #[.int .i64 n.day, .int .i64 n.road, .int .i64 n.lo, .int .i64 n.hi, .int .i64 n.crew, .int .i64 n.pl, .bool n.rain, .bool n.frost]
  rw [show (w.alloc (.cells #[.int .i64 j.n, .int .i64 j.road, .int .i64 j.chain, .int .i64 j.first, .int .i64 j.last, .int .i64 j.crew, .bool j.dry, .bool j.warm] 39)).heap.size = w.heap.size + 1 by simp] at h1
  have HV := hide hv
  clear hv
  go_enter Try.func5, Try.ntmps5
  go_upto_region 1 with fail
  generalize (w.alloc (.cells #[.int .i64 j.n, .int .i64 j.road, .int .i64 j.chain, .int .i64 j.first, .int .i64 j.last, .int .i64 j.crew, .bool j.dry, .bool j.warm] 39)).alloc (.cells #[.int .i64 n.day, .int .i64 n.road, .int .i64 n.lo, .int .i64 n.hi, .int .i64 n.crew, .int .i64 n.pl, .bool n.rain, .bool n.frost] 37) = W at *
  have p0 := h0.cell_ 0 rfl
  have p1 := h0.cell_ 1 rfl
  have p2 := h0.cell_ 2 rfl
  have p3 := h0.cell_ 3 rfl
  have p4 := h0.cell_ 4 rfl
  have p5 := h0.cell_ 5 rfl
  have p6 := h0.cell_ 6 rfl
  have p7 := h0.cell_ 7 rfl
  have q0 := h1.cell_ 0 rfl
  have q1 := h1.cell_ 1 rfl
  have q2 := h1.cell_ 2 rfl
  have q3 := h1.cell_ 3 rfl
  have q4 := h1.cell_ 4 rfl
  have q5 := h1.cell_ 5 rfl
  have q6 := h1.cell_ 6 rfl
  have q7 := h1.cell_ 7 rfl
  go_wp2_with fail
  refine (apiFits_any j n _).mono ?_
  rintro e W ⟨rfl, hb⟩
  clear p0 p1 p2 p3 p4 p5 p6 p7 q0 q1 q2 q3 q4 q5 q6 q7
  replace h0 := h0.below hb h0.lt
  replace h1 := h1.below hb h1.lt
  replace hB0 := hB0.trans (hb.mono hB0.size)
  clear hb
  have p0 := h0.cell_ 0 rfl
  have p1 := h0.cell_ 1 rfl
  have p2 := h0.cell_ 2 rfl
  have p3 := h0.cell_ 3 rfl
  have p4 := h0.cell_ 4 rfl
  have p5 := h0.cell_ 5 rfl
  have p6 := h0.cell_ 6 rfl
  have p7 := h0.cell_ 7 rfl
  have q0 := h1.cell_ 0 rfl
  have q1 := h1.cell_ 1 rfl
  have q2 := h1.cell_ 2 rfl
  have q3 := h1.cell_ 3 rfl
  have q4 := h1.cell_ 4 rfl
  have q5 := h1.cell_ 5 rfl
  have q6 := h1.cell_ 6 rfl
  have q7 := h1.cell_ 7 rfl
  rw [HV.out]
  go_wp2_with fail
  refine (refApiFits_any j n _).mono ?_
  rintro e W ⟨rfl, hb⟩
  clear p0 p1 p2 p3 p4 p5 p6 p7 q0 q1 q2 q3 q4 q5 q6 q7
  replace h0 := h0.below hb h0.lt
  replace h1 := h1.below hb h1.lt
  replace hB0 := hB0.trans (hb.mono hB0.size)
  clear hb
  have p0 := h0.cell_ 0 rfl
  have p1 := h0.cell_ 1 rfl
  have p2 := h0.cell_ 2 rfl
  have p3 := h0.cell_ 3 rfl
  have p4 := h0.cell_ 4 rfl
  have p5 := h0.cell_ 5 rfl
  have p6 := h0.cell_ 6 rfl
  have p7 := h0.cell_ 7 rfl
  have q0 := h1.cell_ 0 rfl
  have q1 := h1.cell_ 1 rfl
  have q2 := h1.cell_ 2 rfl
  have q3 := h1.cell_ 3 rfl
  have q4 := h1.cell_ 4 rfl
  have q5 := h1.cell_ 5 rfl
  have q6 := h1.cell_ 6 rfl
  have q7 := h1.cell_ 7 rfl
  rw [HV.out]
  go_wp2_with fail
  refine (awake_any _).mono ?_
  rintro e W ⟨rfl, hb⟩
  clear p0 p1 p2 p3 p4 p5 p6 p7 q0 q1 q2 q3 q4 q5 q6 q7
  replace h0 := h0.below hb h0.lt
  replace h1 := h1.below hb h1.lt
  replace hB0 := hB0.trans (hb.mono hB0.size)
  clear hb
  have p0 := h0.cell_ 0 rfl
  have p1 := h0.cell_ 1 rfl
  have p2 := h0.cell_ 2 rfl
  have p3 := h0.cell_ 3 rfl
  have p4 := h0.cell_ 4 rfl
  have p5 := h0.cell_ 5 rfl
  have p6 := h0.cell_ 6 rfl
  have p7 := h0.cell_ 7 rfl
  have q0 := h1.cell_ 0 rfl
  have q1 := h1.cell_ 1 rfl
  have q2 := h1.cell_ 2 rfl
  have q3 := h1.cell_ 3 rfl
  have q4 := h1.cell_ 4 rfl
  have q5 := h1.cell_ 5 rfl
  have q6 := h1.cell_ 6 rfl
  have q7 := h1.cell_ 7 rfl
  go_wp2_with fail
  go_ret
  exact ⟨rfl, hB0⟩
end Go.Proofs.Ytfhlopegmfdkpaa
