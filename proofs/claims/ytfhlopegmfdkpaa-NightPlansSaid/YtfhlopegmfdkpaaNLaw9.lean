/- Best, Most, Plan of the reference; the law NightPlans: the walk. -/
import Derived.Test.YtfhlopegmfdkpaaNRefBest
namespace Go.Proofs.Ytfhlopegmfdkpaa
open Go Go.RowKit
theorem pre_nil {C : List (List Int)} {cap : List Int} (hcap : CapOk cap) : PreOk C cap [] := by
  refine ⟨Nat.zero_le _, by simp, fun i v hv => by simp at hv, fun k hk => ?_⟩
  have := (hcap.getD_ k).1
  show ((List.count (k : Int) [] : Nat) : Int) ≤ _
  simpa using this
set_option maxRecDepth 100000 in
set_option maxHeartbeats 1000000 in
theorem refApiBest_any (AJ : Option Addr) (cJ : Nat) (js : List Job) (AN : Option Addr) (cN : Nat) (ns : List Nit) (w : World) (hJ : Slc Job.enc 8 w w.heap.size AJ js) (hN : Slc Nit.enc 8 w w.heap.size AN ns) (hl1 : js.length ≤ 1000) (hl2 : ns.length ≤ 1000) :
    Calls Try.prog 33 #[.slice AJ js.length cJ, .slice AN ns.length cN] w (ApiBestPost js ns w) := by
  go_enter Try.func33, Try.ntmps33
  go_wp2_with fail
  refine (refWrong_any AJ cJ js AN cN ns w hJ hN hl1 hl2).mono ?_
  rintro e W ⟨rfl, hB⟩
  rcases wrong_cases js ns with h0 | h0 | h0
  · have HV : Hid (BestV js ns []) := ⟨fun h => by omega, fun _ => rfl⟩
    have HW := hide h0
    rw [h0]
    clear h0
    go_wp2_with fail
    go_ret2
    exact ⟨none, 0, [], by rw [HW.out]; rfl, hB, Slc.nil_, HV.out⟩
  · have HV : Hid (BestV js ns []) := ⟨fun h => by omega, fun _ => rfl⟩
    have HW := hide h0
    rw [h0]
    clear h0
    go_wp2_with fail
    go_ret2
    exact ⟨none, 0, [], by rw [HW.out]; rfl, hB, Slc.nil_, HV.out⟩
  · obtain ⟨_, f1, f2, f3⟩ := wrong_facts h0
    have HW := hide h0
    rw [h0]
    clear h0
    go_wp2_with fail
    refine (refBest_any AJ cJ js AN cN ns (by omega) (by omega) js.length [] none 0 W (by simp) ((hJ.below hB).more hB.size) ((hN.below hB).more hB.size) Slc.nil_ (pre_nil (cap_ok f3))).mono ?_
    rintro e W2 ⟨A, c, N, rfl, hB2, hS, hV⟩
    have HV : Hid (BestV js ns N) := ⟨fun _ => hV.best, fun h => absurd HW.out h⟩
    have hBB : Below w.heap.size w W2 := hB.trans (hB2.mono hB.size)
    clear hV
    go_wp2_with fail
    go_ret2
    exact ⟨A, c, N, by rw [HW.out]; rfl, hBB, hS, HV.out⟩
theorem best_len {js : List Job} {ns : List Nit} {N : List Int} (h : BestV js ns N) : N.length ≤ js.length := by
  by_cases h0 : wrongF js ns = 0
  · rw [(h.1 h0).pl.len, choose_len]; exact Nat.le_refl _
  · rw [h.2 h0]; simp
theorem best_one {js : List Job} {ns : List Nit} {N M : List Int} (h : BestV js ns N) (g : BestV js ns M) : N = M := by
  by_cases h0 : wrongF js ns = 0
  · exact (h.1 h0).one (g.1 h0)
  · rw [h.2 h0, g.2 h0]
theorem best_done {js : List Job} {ns : List Nit} {N : List Int} {n : Nat} (h : BestV js ns N) (g : MostV js ns n) : n = doneN N := by
  by_cases h0 : wrongF js ns = 0
  · exact (g.1 h0).one (h.1 h0).most_
  · rw [h.2 h0, g.2 h0]; rfl
theorem best_plan {js : List Job} {ns : List Nit} {N L : List Int} {E : Int} (h : BestV js ns N) (g : PlanV js ns L E) :
    (wrongF js ns ≠ 0 ∧ L = [] ∧ E = wrongF js ns) ∨ (wrongF js ns = 0 ∧ doneN N < js.length ∧ L = [] ∧ E = 24) ∨ (wrongF js ns = 0 ∧ ¬ doneN N < js.length ∧ L = N ∧ E = 0) := by
  by_cases h0 : wrongF js ns = 0
  · obtain ⟨M, h1, h2⟩ := g.2 h0
    have h3 := h.1 h0
    obtain rfl := h1.one h3
    have h4 := (pl_short h3.pl).1
    rw [choose_len] at h4
    rcases h2 with ⟨h5, h6⟩ | ⟨h5, h6⟩
    · exact .inr (.inl ⟨h0, h4.2 h5, h6⟩)
    · exact .inr (.inr ⟨h0, fun h7 => h5 (h4.1 h7), h6⟩)
  · exact .inl ⟨h0, (g.1 h0).1, (g.1 h0).2⟩
set_option maxRecDepth 100000 in
set_option maxHeartbeats 1000000 in
theorem refMost_any (AJ : Option Addr) (cJ : Nat) (js : List Job) (AN : Option Addr) (cN : Nat) (ns : List Nit) (w : World) (hJ : Slc Job.enc 8 w w.heap.size AJ js) (hN : Slc Nit.enc 8 w w.heap.size AN ns) (hl1 : js.length ≤ 1000) (hl2 : ns.length ≤ 1000) :
    Calls Try.prog 29 #[.slice AJ js.length cJ, .slice AN ns.length cN] w fun e w' => ∃ N, e = .returned (.tuple #[.int .i64 (doneN N), .int .i64 (wrongF js ns)]) ∧ BestV js ns N ∧ Below w.heap.size w w' := by
  go_enter Try.func29, Try.ntmps29
  go_wp2_with fail
  refine (refApiBest_any AJ cJ js AN cN ns w hJ hN hl1 hl2).mono ?_
  rintro e W ⟨A, c, N, rfl, hB, hS, hV⟩
  have HV := hide hV
  have hl := best_len hV
  clear hV
  obtain ⟨E, hE⟩ : ∃ E, E = wrongF js ns := ⟨_, rfl⟩
  have HE := hide hE
  rw [← hE]
  clear hE
  go_wp2_with fail
  refine (refDone0_any A c N W hS (by omega)).mono ?_
  rintro e W2 ⟨rfl, hb⟩
  go_wp2_with fail
  go_ret2
  exact ⟨N, by rw [← HE.out]; rfl, HV.out, hB.trans (hb.mono hB.size)⟩
/-- what Plan of the reference returns, for the best plan N -/
def RPlanPost (js : List Job) (ns : List Nit) (w : World) (e : Ending) (w' : World) : Prop :=
  ∃ A c L E N, e = .returned (.tuple #[.slice A L.length c, .int .i64 E]) ∧ Below w.heap.size w w' ∧ Slc intEnc 1 w' w'.heap.size A L ∧ BestV js ns N ∧
    ((wrongF js ns ≠ 0 ∧ L = [] ∧ E = wrongF js ns) ∨ (wrongF js ns = 0 ∧ doneN N < js.length ∧ L = [] ∧ E = 24) ∨ (wrongF js ns = 0 ∧ ¬ doneN N < js.length ∧ L = N ∧ E = 0))
set_option maxRecDepth 100000 in
set_option maxHeartbeats 1000000 in
theorem refPlan_any (AJ : Option Addr) (cJ : Nat) (js : List Job) (AN : Option Addr) (cN : Nat) (ns : List Nit) (w : World) (hJ : Slc Job.enc 8 w w.heap.size AJ js) (hN : Slc Nit.enc 8 w w.heap.size AN ns) (hl1 : js.length ≤ 1000) (hl2 : ns.length ≤ 1000) :
    Calls Try.prog 31 #[.slice AJ js.length cJ, .slice AN ns.length cN] w (RPlanPost js ns w) := by
  go_enter Try.func31, Try.ntmps31
  go_wp2_with fail
  refine (refApiBest_any AJ cJ js AN cN ns w hJ hN hl1 hl2).mono ?_
  rintro e W ⟨A, c, N, rfl, hB, hS, hV⟩
  have hl := best_len hV
  by_cases h0 : wrongF js ns = 0
  · have HV := hide (And.intro h0 hV)
    rw [h0]
    clear hV h0
    go_wp2_with fail
    refine (refDone0_any A c N W hS (by omega)).mono ?_
    rintro e W2 ⟨rfl, hb⟩
    have hB2 := hB.trans (hb.mono hB.size)
    have hS2 : Slc intEnc 1 W2 W2.heap.size A N := hS.on hb
    by_cases hd : doneN N < js.length
    · have hd' : (doneN N : Int) < (js.length : Int) := by omega
      have HD := hide hd
      clear hd hb
      go_wp2_with fail
      go_ret2
      exact ⟨none, 0, [], 24, N, rfl, hB2, Slc.nil_, HV.out.2, .inr (.inl ⟨HV.out.1, HD.out, rfl, rfl⟩)⟩
    · have hd' : ¬ (doneN N : Int) < (js.length : Int) := by omega
      have HD := hide hd
      clear hd hb
      go_wp2_with fail
      go_ret2
      exact ⟨A, c, N, 0, N, rfl, hB2, hS2, HV.out.2, .inr (.inr ⟨HV.out.1, HD.out, rfl, rfl⟩)⟩
  · have HV := hide (And.intro h0 hV)
    have h0' : (wrongF js ns == 0) = false := by simpa using h0
    have h1' : (wrongF js ns != 0) = true := by simp [h0]
    clear hV h0
    obtain ⟨E, hE⟩ : ∃ E, E = wrongF js ns := ⟨_, rfl⟩
    have HE := hide hE
    rw [← hE] at h0' h1'
    rw [← hE]
    clear hE
    go_wp2_with fail
    go_ret2
    exact ⟨none, 0, [], E, N, rfl, hB, Slc.nil_, HV.out.2, .inl ⟨HV.out.1, rfl, HE.out⟩⟩
set_option maxRecDepth 100000 in
set_option maxHeartbeats 4000000 in
theorem nplans_walk (s : Sea) (w : World) (hS : SeaAt w s) :
    Calls Try.prog 8 #[.agg #[.slice s.aJ s.js.length s.cJ, .slice s.aN s.ns.length s.cN]] w fun e w' => e = .returned (.bool true) ∧ Below w.heap.size w w' := by
  obtain ⟨js, ns, aJ, cJ, aN, cN⟩ := s
  obtain ⟨hJ, hN, lj, ln⟩ := hS
  dsimp only at *
  unfold maxLen at lj ln
  have hk := Blk.new w 25 #[.slice aJ js.length cJ, .slice aN ns.length cN]
  have hB := (Below.refl w.heap.size w).alloc (Nat.le_refl _) (.cells #[.slice aJ js.length cJ, .slice aN ns.length cN] 25)
  go_enter Try.func8, Try.ntmps8
  go_wp2_with fail
  generalize w.alloc (.cells #[.slice aJ js.length cJ, .slice aN ns.length cN] 25) = W at *
  have c0 := hk.cell_ 0 rfl
  have c1 := hk.cell_ 1 rfl
  go_wp2_with fail
  refine (wide_any aJ cJ js aN cN ns 5 4 _).mono ?_
  rintro e W ⟨rfl, hb⟩
  clear c0 c1
  replace hk := hk.below hb hk.lt
  replace hB := hB.trans (hb.mono hB.size)
  clear hb
  have c0 := hk.cell_ 0 rfl
  have c1 := hk.cell_ 1 rfl
  cases hw : wideB js ns 5 4
  case true =>
    go_wp2_with fail
    refine (awake_any _).mono ?_
    rintro e W ⟨rfl, hb⟩
    clear c0 c1
    replace hk := hk.below hb hk.lt
    replace hB := hB.trans (hb.mono hB.size)
    clear hb
    have c0 := hk.cell_ 0 rfl
    have c1 := hk.cell_ 1 rfl
    go_wp2_with fail
    go_ret
    exact ⟨rfl, hB⟩
  obtain ⟨w1, w2⟩ := wideB_false (a := 5) (b := 4) hw
  clear hw
  go_wp2_with fail
  refine (apiMost_any aJ cJ js aN cN ns _ (hJ.on hB) (hN.on hB) (by omega) (by omega)).mono ?_
  rintro e W ⟨n, rfl, hb, hV⟩
  clear c0 c1
  replace hk := hk.below hb hk.lt
  replace hB := hB.trans (hb.mono hB.size)
  clear hb
  have c0 := hk.cell_ 0 rfl
  have c1 := hk.cell_ 1 rfl
  have HM := hide hV
  clear hV
  go_wp2_with fail
  refine (refMost_any aJ cJ js aN cN ns _ (hJ.on hB) (hN.on hB) (by omega) (by omega)).mono ?_
  rintro e W ⟨N, rfl, hV, hb⟩
  clear c0 c1
  replace hk := hk.below hb hk.lt
  replace hB := hB.trans (hb.mono hB.size)
  clear hb
  have c0 := hk.cell_ 0 rfl
  have c1 := hk.cell_ 1 rfl
  have HN := hide hV
  have hNl := best_len hV
  clear hV
  obtain rfl : n = doneN N := best_done HN.out HM.out
  clear HM
  go_wp2_with fail
  refine (apiPlan_any aJ cJ js aN cN ns _ (hJ.on hB) (hN.on hB) (by omega) (by omega)).mono ?_
  rintro e W ⟨A1, q1, L1, E1, rfl, hb, hS1, hV⟩
  clear c0 c1
  replace hk := hk.below hb hk.lt
  replace hB := hB.trans (hb.mono hB.size)
  clear hb
  have c0 := hk.cell_ 0 rfl
  have c1 := hk.cell_ 1 rfl
  have HP := hide (best_plan HN.out hV)
  clear hV
  go_wp2_with fail
  refine (refPlan_any aJ cJ js aN cN ns _ (hJ.on hB) (hN.on hB) (by omega) (by omega)).mono ?_
  rintro e W ⟨A2, q2, L2, E2, N2, rfl, hb, hS2, hV, hV2⟩
  clear c0 c1
  replace hk := hk.below hb hk.lt
  replace hS1 := Slc.on hS1 hb
  replace hB := hB.trans (hb.mono hB.size)
  clear hb
  have c0 := hk.cell_ 0 rfl
  have c1 := hk.cell_ 1 rfl
  obtain rfl := best_one HN.out hV
  obtain ⟨rfl, rfl, hLl⟩ : L1 = L2 ∧ E1 = E2 ∧ L1.length ≤ js.length := by
    rcases HP.out with ⟨h1, rfl, rfl⟩ | ⟨h1, h2, rfl, rfl⟩ | ⟨h1, h2, rfl, rfl⟩ <;> rcases hV2 with ⟨g1, rfl, rfl⟩ | ⟨g1, g2, rfl, rfl⟩ | ⟨g1, g2, rfl, rfl⟩
    all_goals first | exact ⟨rfl, rfl, by simp⟩ | exact ⟨rfl, rfl, hNl⟩ | (exfalso; omega)
  clear hV hV2 HP
  go_wp2_with fail
  refine (apiBest_any aJ cJ js aN cN ns _ (hJ.on hB) (hN.on hB) (by omega) (by omega)).mono ?_
  rintro e W ⟨A3, q3, N3, rfl, hb, hS3, hV⟩
  clear c0 c1
  replace hk := hk.below hb hk.lt
  replace hS1 := Slc.on hS1 hb
  replace hS2 := Slc.on hS2 hb
  replace hB := hB.trans (hb.mono hB.size)
  clear hb
  have c0 := hk.cell_ 0 rfl
  have c1 := hk.cell_ 1 rfl
  obtain rfl := best_one HN.out hV
  clear hV
  go_wp2_with fail
  refine (refApiBest_any aJ cJ js aN cN ns _ (hJ.on hB) (hN.on hB) (by omega) (by omega)).mono ?_
  rintro e W ⟨A4, q4, N4, rfl, hb, hS4, hV⟩
  clear c0 c1
  replace hk := hk.below hb hk.lt
  replace hS1 := Slc.on hS1 hb
  replace hS2 := Slc.on hS2 hb
  replace hS3 := Slc.on hS3 hb
  replace hB := hB.trans (hb.mono hB.size)
  clear hb
  have c0 := hk.cell_ 0 rfl
  have c1 := hk.cell_ 1 rfl
  obtain rfl := best_one HN.out hV
  clear hV HN
  generalize wrongF js ns = E at *
  generalize doneN N = D at *
  go_wp2_with fail
  refine (same_yes A1 q1 L1 A2 q2 _ _ _ hS1 hS2 (by omega)).mono ?_
  rintro e W ⟨rfl, hb⟩
  clear c0 c1
  replace hk := hk.below hb hk.lt
  replace hS1 := Slc.on hS1 hb
  replace hS2 := Slc.on hS2 hb
  replace hS3 := Slc.on hS3 hb
  replace hS4 := Slc.on hS4 hb
  replace hB := hB.trans (hb.mono hB.size)
  clear hb
  have c0 := hk.cell_ 0 rfl
  have c1 := hk.cell_ 1 rfl
  go_wp2_with fail
  refine (same_yes A3 q3 N A4 q4 _ _ _ hS3 hS4 (by omega)).mono ?_
  rintro e W ⟨rfl, hb⟩
  clear c0 c1
  replace hk := hk.below hb hk.lt
  replace hS1 := Slc.on hS1 hb
  replace hS2 := Slc.on hS2 hb
  replace hS3 := Slc.on hS3 hb
  replace hS4 := Slc.on hS4 hb
  replace hB := hB.trans (hb.mono hB.size)
  clear hb
  have c0 := hk.cell_ 0 rfl
  have c1 := hk.cell_ 1 rfl
  go_wp2_with fail
  refine (awake_any _).mono ?_
  rintro e W ⟨rfl, hb⟩
  clear c0 c1
  replace hk := hk.below hb hk.lt
  replace hS1 := Slc.on hS1 hb
  replace hS2 := Slc.on hS2 hb
  replace hS3 := Slc.on hS3 hb
  replace hS4 := Slc.on hS4 hb
  replace hB := hB.trans (hb.mono hB.size)
  clear hb
  have c0 := hk.cell_ 0 rfl
  have c1 := hk.cell_ 1 rfl
  go_wp2_with fail
  go_ret
  exact ⟨rfl, hB⟩
end Go.Proofs.Ytfhlopegmfdkpaa
