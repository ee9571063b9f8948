/- TopEither: the walk. -/
import Derived.Test.YtkcfalehebacpaaNShort2
import Derived.Test.YtkcfalehebacpaaNLaw2
import Derived.Test.YtkcfalehebacpaaNPlan
namespace Go.Proofs.Ytkcfalehebacpaa
open Go Go.RowKit
theorem refRight_is (AJ : Option Addr) (cJ : Nat) (js : List Job) (AN : Option Addr) (cN : Nat) (ns : List Nit) (A : Option Addr) (c : Nat) (pl : List Int) (w : World) (hJ : Slc Job.enc 8 w w.heap.size AJ js) (hN : Slc Nit.enc 8 w w.heap.size AN ns) (hS : Slc intEnc 1 w w.heap.size A pl)
    (hl1 : js.length ≤ 1000) (hl2 : ns.length ≤ 1000) (hl3 : pl.length ≤ 1000) {b : Bool} {E : Int} (hb : rOk js ns pl = b) (hE : rErr js ns pl = E) :
    Calls Try.prog 14 #[.slice AJ js.length cJ, .slice AN ns.length cN, .slice A pl.length c] w fun e w' => e = .returned (.tuple #[.bool b, .int .i64 E]) ∧ Below w.heap.size w w' := by
  subst hb hE; exact refApiRight_any AJ cJ js AN cN ns A c pl w hJ hN hS hl1 hl2 hl3
theorem refDone_is (AJ : Option Addr) (cJ : Nat) (js : List Job) (AN : Option Addr) (cN : Nat) (ns : List Nit) (A : Option Addr) (c : Nat) (pl : List Int) (w : World) (hJ : Slc Job.enc 8 w w.heap.size AJ js) (hN : Slc Nit.enc 8 w w.heap.size AN ns) (hS : Slc intEnc 1 w w.heap.size A pl)
    (hl1 : js.length ≤ 1000) (hl2 : ns.length ≤ 1000) (hl3 : pl.length ≤ 1000) {d : Nat} {E : Int} (hd : dVal js ns pl = d) (hE : pErr js ns pl = E) :
    Calls Try.prog 15 #[.slice AJ js.length cJ, .slice AN ns.length cN, .slice A pl.length c] w fun e w' => e = .returned (.tuple #[.int .i64 d, .int .i64 E]) ∧ Below w.heap.size w w' := by
  subst hd hE; exact refDone_any AJ cJ js AN cN ns A c pl w hJ hN hS hl1 hl2 hl3
theorem isSh_is (AJ : Option Addr) (cJ : Nat) (js : List Job) (AN : Option Addr) (cN : Nat) (ns : List Nit) (A : Option Addr) (c : Nat) (l : List Int) (w : World) (hJ : Slc Job.enc 8 w w.heap.size AJ js) (hN : Slc Nit.enc 8 w w.heap.size AN ns) (hS : Slc intEnc 1 w w.heap.size A l)
    (hl1 : js.length ≤ 1000) (hl2 : ns.length ≤ 1000) (hl3 : l.length ≤ 1000) {b : Bool} {E : Int} (hb : isSh js ns l = b) (hE : wrongF js ns = E) :
    Calls Try.prog 11 #[.slice AJ js.length cJ, .slice AN ns.length cN, .slice A l.length c] w fun e w' => e = .returned (.tuple #[.bool b, .int .i64 E]) ∧ Below w.heap.size w w' := by
  subst hb hE; exact isSh_any AJ cJ js AN cN ns A c l w hJ hN hS hl1 hl2 hl3
theorem idx_is (AJ : Option Addr) (cJ n : Nat) (A : Option Addr) (c B : Nat) (l : List Int) (w : World) (hS : Slc intEnc 1 w B A l) (hl : l.length ≤ 1000) {b : Bool} (hb : idxF n (-1) l = b) :
    Calls Try.prog 12 #[.slice AJ n cJ, .slice A l.length c] w fun e w' => e = .returned (.bool b) ∧ w = w' := by
  subst hb; exact indexes_any AJ cJ n A c B l w hS hl
/-- what the plan and the shortage say together -/
theorem either_yes {js : List Job} {ns : List Nit} {n : Nat} {L : List Int} {P : List Int} {E : Int} (hcap : CapOk (capOf ns)) (h0 : wrongF js ns = 0) (hn : IsMost (chooseL ns js) (capOf ns) n) (hs : isSh js ns L = true) (hP : PlanV js ns P E) : n < js.length ∧ E = 24 ∧ P = [] ∧ idxF js.length (-1) L = true ∧ placesF js ns L < L.length ∧ (n : Int) ≤ (js.length : Int) - L.length + placesF js ns L := by
  unfold isSh at hs
  rw [if_pos h0] at hs
  unfold shortB at hs
  rw [Bool.and_eq_true, decide_eq_true_eq] at hs
  have hb := most_bound hcap hn hs.1
  have hlt : n < js.length := by omega
  obtain ⟨N, hN, h⟩ := hP.2 h0
  obtain rfl := hn.one hN.most_
  have hps := (pl_short hN.pl).1
  rw [choose_len] at hps
  rcases h with ⟨h1, h2, h3⟩ | ⟨h1, h2, h3⟩
  · exact ⟨hlt, h3, h2, hs.1, hs.2, hb⟩
  · exact absurd (hps.1 hlt) h1
theorem either_no {js : List Job} {ns : List Nit} {n : Nat} {P : List Int} {E : Int} (h0 : wrongF js ns = 0) (hn : IsMost (chooseL ns js) (capOf ns) n) (ha : IsMost (chooseL ns js) (capOf ns) js.length) (hP : PlanV js ns P E) : n = js.length ∧ E = 0 ∧ P.length = js.length ∧ rErr js ns P = 0 ∧ rOk js ns P = true ∧ pErr js ns P = 0 ∧ dVal js ns P = js.length := by
  obtain rfl := hn.one ha
  obtain ⟨N, hN, h⟩ := hP.2 h0
  have hd := ha.one hN.most_
  have hps := (pl_short hN.pl).1
  rw [choose_len] at hps
  rcases h with ⟨h1, h2, h3⟩ | ⟨h1, h2, h3⟩
  · have := hps.2 h1
    omega
  · subst h2
    obtain ⟨e1, e2, e3, e4⟩ := pl_errs h0 hN.pl
    exact ⟨rfl, h3, by rw [hN.pl.len, choose_len], e1, e2, e3, by rw [e4, ← hd]⟩
set_option maxRecDepth 100000 in
set_option maxHeartbeats 4000000 in
theorem either_walk (s : Sea) (A : Option Addr) (c : Nat) (l : List Int) (w : World) (hS : SeaAt w s) (hL : Slc intEnc 1 w w.heap.size A l) (hll : l.length ≤ maxLen) :
    Calls Try.prog 3 #[.agg #[.slice s.aJ s.js.length s.cJ, .slice s.aN s.ns.length s.cN], .slice A l.length c] w fun e w' => e = .returned (.bool true) ∧ Below w.heap.size w w' := by
  obtain ⟨js, ns, aJ, cJ, aN, cN⟩ := s
  obtain ⟨hJ, hN, lj, ln⟩ := hS
  dsimp only at *
  unfold maxLen at lj ln hll
  have hk := Blk.new w 25 #[.slice aJ js.length cJ, .slice aN ns.length cN]
  have hB := (Below.refl w.heap.size w).alloc (Nat.le_refl _) (.cells #[.slice aJ js.length cJ, .slice aN ns.length cN] 25)
  go_enter Try.func3, Try.ntmps3
  go_wp2_with fail
  generalize w.alloc (.cells #[.slice aJ js.length cJ, .slice aN ns.length cN] 25) = W at *
  have c0 := hk.cell_ 0 rfl
  have c1 := hk.cell_ 1 rfl
  go_wp2_with fail
  refine (wide_any aJ cJ js aN cN ns 40 40 _).mono ?_
  rintro e W ⟨rfl, hb⟩
  clear c0 c1
  replace hk := hk.below hb hk.lt
  replace hB := hB.trans (hb.mono hB.size)
  clear hb
  have c0 := hk.cell_ 0 rfl
  have c1 := hk.cell_ 1 rfl
  cases hw : wideB js ns 40 40
  case true =>
    go_wp2_with fail
    refine (awake_any _).mono ?_
    rintro e W ⟨rfl, hb⟩
    clear c0 c1
    replace hk := hk.below hb hk.lt
    replace hB := hB.trans (hb.mono hB.size)
    clear hb
    have c0 := hk.cell_ 0 rfl
    have c1 := hk.cell_ 1 rfl
    go_wp2_with fail
    go_ret
    exact ⟨rfl, hB⟩
  obtain ⟨w1, w2⟩ := wideB_false (a := 40) (b := 40) hw
  clear hw
  by_cases hl : (40 : Int) < (l.length : Int)
  · go_wp2_with fail
    refine (awake_any _).mono ?_
    rintro e W ⟨rfl, hb⟩
    clear c0 c1
    replace hk := hk.below hb hk.lt
    replace hB := hB.trans (hb.mono hB.size)
    clear hb
    have c0 := hk.cell_ 0 rfl
    have c1 := hk.cell_ 1 rfl
    go_wp2_with fail
    go_ret
    exact ⟨rfl, hB⟩
  have hl40 : l.length ≤ 40 := by omega
  go_wp2_with fail
  refine (refValid_any aJ cJ js aN cN ns _ (hJ.on hB) (hN.on hB) (by omega) (by omega)).mono ?_
  rintro e W ⟨rfl, hb⟩
  clear c0 c1
  replace hk := hk.below hb hk.lt
  replace hB := hB.trans (hb.mono hB.size)
  clear hb
  have c0 := hk.cell_ 0 rfl
  have c1 := hk.cell_ 1 rfl
  cases hv : validB js ns
  case false =>
    go_wp2_with fail
    refine (awake_any _).mono ?_
    rintro e W ⟨rfl, hb⟩
    clear c0 c1
    replace hk := hk.below hb hk.lt
    replace hB := hB.trans (hb.mono hB.size)
    clear hb
    have c0 := hk.cell_ 0 rfl
    have c1 := hk.cell_ 1 rfl
    go_wp2_with fail
    go_ret
    exact ⟨rfl, hB⟩
  have h0 := valid_zero hv
  obtain ⟨_, _, _, f3⟩ := wrong_facts h0
  have H0 := hide (And.intro h0 f3)
  clear h0 f3 hv
  go_wp2_with fail
  refine (apiMost_any aJ cJ js aN cN ns _ (hJ.on hB) (hN.on hB) (by omega) (by omega)).mono ?_
  rintro e W ⟨n, rfl, hb, hV⟩
  clear c0 c1
  replace hk := hk.below hb hk.lt
  replace hB := hB.trans (hb.mono hB.size)
  clear hb
  have c0 := hk.cell_ 0 rfl
  have c1 := hk.cell_ 1 rfl
  have HM := hide (hV.1 H0.out.1)
  clear hV
  rw [H0.out.1]
  go_wp2_with fail
  refine (apiPlan_any aJ cJ js aN cN ns _ (hJ.on hB) (hN.on hB) (by omega) (by omega)).mono ?_
  rintro e W ⟨A1, cp1, P, E, rfl, hb, hSP, hPV⟩
  clear c0 c1
  replace hk := hk.below hb hk.lt
  replace hB := hB.trans (hb.mono hB.size)
  clear hb
  have c0 := hk.cell_ 0 rfl
  have c1 := hk.cell_ 1 rfl
  have HP := hide hPV
  clear hPV
  go_wp2_with fail
  refine (shortage_any aJ cJ js aN cN ns _ (hJ.on hB) (hN.on hB) (by omega) (by omega)).mono ?_
  rintro e W ⟨A2, cp2, L, b, rfl, hb, hSS, hLl, hno, hyes, hall⟩
  clear c0 c1
  replace hk := hk.below hb hk.lt
  replace hSP := Slc.on hSP hb
  replace hB := hB.trans (hb.mono hB.size)
  clear hb
  have c0 := hk.cell_ 0 rfl
  have c1 := hk.cell_ 1 rfl
  rw [H0.out.1]
  cases b with
  | true =>
    have hs := (hyes rfl).1
    obtain ⟨g1, rfl, rfl, g4, g5, g6⟩ := either_yes (cap_ok H0.out.2) H0.out.1 HM.out hs HP.out
    have g1' : (n : Int) < (js.length : Int) := by omega
    have gpb := places_bound (js := js) (l := L) H0.out.2
    obtain ⟨u, hu⟩ : ∃ u, placesF js ns L = u := ⟨_, rfl⟩
    have gpb' : 0 ≤ u ∧ u ≤ 100 * ns.length := by rw [← hu]; exact gpb
    rw [hu] at g5 g6
    have HU := hide hu
    have HG4 := hide g4
    have HSH := hide hs
    have e3 : IntKind.i64.wrap ((js.length : Int) - (L.length : Int)) = (js.length : Int) - (L.length : Int) := IntWalk.i64_in _ (by omega)
    have e4 : IntKind.i64.wrap ((js.length : Int) - (L.length : Int) + u) = (js.length : Int) - (L.length : Int) + u := IntWalk.i64_in _ (by omega)
    have hn1 : (0 : Int) ≤ (n : Int) := by omega
    have g5d : decide ((L.length : Int) ≤ u) = false := decide_eq_false (by omega)
    have g5n : ¬ (L.length : Int) ≤ u := by omega
    clear hno hyes hall hs g4 gpb hu
    go_wp2_with fail
    refine (isSh_is aJ cJ js aN cN ns A2 cp2 L _ (hJ.on hB) (hN.on hB) hSS (by omega) (by omega) hLl HSH.out H0.out.1).mono ?_
    rintro e W ⟨rfl, hb⟩
    clear c0 c1
    replace hk := hk.below hb hk.lt
    replace hSP := Slc.on hSP hb
    replace hSS := Slc.on hSS hb
    replace hB := hB.trans (hb.mono hB.size)
    clear hb
    have c0 := hk.cell_ 0 rfl
    have c1 := hk.cell_ 1 rfl
    go_wp2_with fail
    refine (idx_is aJ cJ js.length A2 cp2 _ L _ hSS hLl HG4.out).mono ?_
    rintro e W' ⟨rfl, rfl⟩
    have HJ := hJ.on hB
    have HN := hN.on hB
    have HS := hSS
    go_wp2_with fail
    refine wp_region_quiet (C := fun w' => ∃ u : Since W, w' = u.w) (by kernel_rfl) (by kernel_rfl) (Since.start W) ?_
    dsimp only
    have y_c0 := Since.cell c0
    have y_c1 := Since.cell c1
    clear c0 c1
    repeat (go_big_quiet_step ((go_at_call 13; exact Since.calls (places_is aJ cJ js aN cN ns A2 cp2 L _ (HJ.on (Since.h _)) (HN.on (Since.h _)) (HS.on (Since.h _)) (by omega) (by omega) H0.out.2 HG4.out HU.out))))
    refine wpQuiet_nil ?_
    rintro W ⟨⟨_, hb⟩, rfl⟩
    try dsimp only at hb ⊢
    clear y_c0 y_c1
    replace hk := hk.below hb hk.lt
    replace hSP := Slc.on hSP hb
    replace hSS := Slc.on hSS hb
    replace hB := hB.trans (hb.mono hB.size)
    clear hb
    have c0 := hk.cell_ 0 rfl
    have c1 := hk.cell_ 1 rfl
    clear HJ HN HS hSS hSP
    obtain ⟨bi, hi⟩ : ∃ b, idxF js.length (-1) l = b := ⟨_, rfl⟩
    have HI := hide hi
    clear hi
    have HJ := hJ.on hB
    have HN := hN.on hB
    have HL := hL.on hB
    cases bi
    case false =>
      go_wp2_with fail
      refine wp_region_quiet (C := fun w' => ∃ u : Since W, w' = u.w) (by kernel_rfl) (by kernel_rfl) (Since.start W) ?_
      dsimp only
      have y_c0 := Since.cell c0
      have y_c1 := Since.cell c1
      clear c0 c1
      repeat (go_big_quiet_step ((go_at_call 12; exact Since.calls_same (idx_is aJ cJ js.length A c _ l _ (HL.on (Since.h _)) (by omega) HI.out))))
      refine wpQuiet_nil ?_
      rintro W ⟨⟨_, hb⟩, rfl⟩
      try dsimp only at hb ⊢
      clear y_c0 y_c1
      replace hk := hk.below hb hk.lt
      replace hB := hB.trans (hb.mono hB.size)
      clear hb
      have c0 := hk.cell_ 0 rfl
      have c1 := hk.cell_ 1 rfl
      go_wp2_with fail
      refine (awake_any _).mono ?_
      rintro e W ⟨rfl, hb⟩
      clear c0 c1
      replace hk := hk.below hb hk.lt
      replace hB := hB.trans (hb.mono hB.size)
      clear hb
      have c0 := hk.cell_ 0 rfl
      have c1 := hk.cell_ 1 rfl
      go_wp2_with fail
      go_ret
      exact ⟨rfl, hB⟩
    have hmb := most_bound (cap_ok H0.out.2) HM.out HI.out
    have hpb := places_bound (js := js) (l := l) H0.out.2
    obtain ⟨v, hv⟩ : ∃ v, placesF js ns l = v := ⟨_, rfl⟩
    have hpb' : 0 ≤ v ∧ v ≤ 100 * ns.length := by rw [← hv]; exact hpb
    have HV := hide hv
    rw [hv] at hmb
    have e1 : IntKind.i64.wrap ((js.length : Int) - (l.length : Int)) = (js.length : Int) - (l.length : Int) := IntWalk.i64_in _ (by omega)
    have e2 : IntKind.i64.wrap ((js.length : Int) - (l.length : Int) + v) = (js.length : Int) - (l.length : Int) + v := IntWalk.i64_in _ (by omega)
    have hn0 : (0 : Int) ≤ (js.length : Int) := by omega
    clear hpb hv
    go_wp2_with fail
    refine wp_region_quiet (C := fun w' => ∃ u : Since W, w' = u.w) (by kernel_rfl) (by kernel_rfl) (Since.start W) ?_
    dsimp only
    have y_c0 := Since.cell c0
    have y_c1 := Since.cell c1
    clear c0 c1
    repeat (go_big_quiet_step ((first | (go_at_call 12; exact Since.calls_same (idx_is aJ cJ js.length A c _ l _ (HL.on (Since.h _)) (by omega) HI.out)) | (go_at_call 13; exact Since.calls (places_is aJ cJ js aN cN ns A c l _ (HJ.on (Since.h _)) (HN.on (Since.h _)) (HL.on (Since.h _)) (by omega) (by omega) H0.out.2 HI.out HV.out)))))
    refine wpQuiet_nil ?_
    rintro W ⟨⟨_, hb⟩, rfl⟩
    try dsimp only at hb ⊢
    clear y_c0 y_c1
    replace hk := hk.below hb hk.lt
    replace hB := hB.trans (hb.mono hB.size)
    clear hb
    have c0 := hk.cell_ 0 rfl
    have c1 := hk.cell_ 1 rfl
    go_wp2_with fail
    refine (awake_any _).mono ?_
    rintro e W ⟨rfl, hb⟩
    clear c0 c1
    replace hk := hk.below hb hk.lt
    replace hB := hB.trans (hb.mono hB.size)
    clear hb
    have c0 := hk.cell_ 0 rfl
    have c1 := hk.cell_ 1 rfl
    go_wp2_with fail
    go_ret
    exact ⟨rfl, hB⟩
  | false =>
    obtain rfl := hno rfl
    obtain ⟨rfl, rfl, g3, g4, g5, g6, g7⟩ := either_no H0.out.1 HM.out (hall rfl H0.out.1) HP.out
    have HG := hide (And.intro g4 (And.intro g5 (And.intro g6 g7)))
    have g3' : P.length ≤ 1000 := by omega
    clear hno hyes hall g3 g4 g5 g6 g7
    go_wp2_with fail
    refine (refRight_is aJ cJ js aN cN ns A1 cp1 P _ (hJ.on hB) (hN.on hB) hSP (by omega) (by omega) g3' HG.out.2.1 HG.out.1).mono ?_
    rintro e W ⟨rfl, hb⟩
    clear c0 c1
    replace hk := hk.below hb hk.lt
    replace hSP := Slc.on hSP hb
    replace hSS := Slc.on hSS hb
    replace hB := hB.trans (hb.mono hB.size)
    clear hb
    have c0 := hk.cell_ 0 rfl
    have c1 := hk.cell_ 1 rfl
    go_wp2_with fail
    refine (refDone_is aJ cJ js aN cN ns A1 cp1 P _ (hJ.on hB) (hN.on hB) hSP (by omega) (by omega) g3' HG.out.2.2.2 HG.out.2.2.1).mono ?_
    rintro e W ⟨rfl, hb⟩
    clear c0 c1
    replace hk := hk.below hb hk.lt
    replace hSP := Slc.on hSP hb
    replace hSS := Slc.on hSS hb
    replace hB := hB.trans (hb.mono hB.size)
    clear hb
    have c0 := hk.cell_ 0 rfl
    have c1 := hk.cell_ 1 rfl
    clear hSS hSP
    obtain ⟨bi, hi⟩ : ∃ b, idxF js.length (-1) l = b := ⟨_, rfl⟩
    have HI := hide hi
    clear hi
    have HJ := hJ.on hB
    have HN := hN.on hB
    have HL := hL.on hB
    cases bi
    case false =>
      go_wp2_with fail
      refine wp_region_quiet (C := fun w' => ∃ u : Since W, w' = u.w) (by kernel_rfl) (by kernel_rfl) (Since.start W) ?_
      dsimp only
      have y_c0 := Since.cell c0
      have y_c1 := Since.cell c1
      clear c0 c1
      repeat (go_big_quiet_step ((go_at_call 12; exact Since.calls_same (idx_is aJ cJ js.length A c _ l _ (HL.on (Since.h _)) (by omega) HI.out))))
      refine wpQuiet_nil ?_
      rintro W ⟨⟨_, hb⟩, rfl⟩
      try dsimp only at hb ⊢
      clear y_c0 y_c1
      replace hk := hk.below hb hk.lt
      replace hB := hB.trans (hb.mono hB.size)
      clear hb
      have c0 := hk.cell_ 0 rfl
      have c1 := hk.cell_ 1 rfl
      go_wp2_with fail
      refine (awake_any _).mono ?_
      rintro e W ⟨rfl, hb⟩
      clear c0 c1
      replace hk := hk.below hb hk.lt
      replace hB := hB.trans (hb.mono hB.size)
      clear hb
      have c0 := hk.cell_ 0 rfl
      have c1 := hk.cell_ 1 rfl
      go_wp2_with fail
      go_ret
      exact ⟨rfl, hB⟩
    have hmb := most_bound (cap_ok H0.out.2) HM.out HI.out
    have hpb := places_bound (js := js) (l := l) H0.out.2
    obtain ⟨v, hv⟩ : ∃ v, placesF js ns l = v := ⟨_, rfl⟩
    have hpb' : 0 ≤ v ∧ v ≤ 100 * ns.length := by rw [← hv]; exact hpb
    have HV := hide hv
    rw [hv] at hmb
    have e1 : IntKind.i64.wrap ((js.length : Int) - (l.length : Int)) = (js.length : Int) - (l.length : Int) := IntWalk.i64_in _ (by omega)
    have e2 : IntKind.i64.wrap ((js.length : Int) - (l.length : Int) + v) = (js.length : Int) - (l.length : Int) + v := IntWalk.i64_in _ (by omega)
    have hn0 : (0 : Int) ≤ (js.length : Int) := by omega
    clear hpb hv
    go_wp2_with fail
    refine wp_region_quiet (C := fun w' => ∃ u : Since W, w' = u.w) (by kernel_rfl) (by kernel_rfl) (Since.start W) ?_
    dsimp only
    have y_c0 := Since.cell c0
    have y_c1 := Since.cell c1
    clear c0 c1
    repeat (go_big_quiet_step ((first | (go_at_call 12; exact Since.calls_same (idx_is aJ cJ js.length A c _ l _ (HL.on (Since.h _)) (by omega) HI.out)) | (go_at_call 13; exact Since.calls (places_is aJ cJ js aN cN ns A c l _ (HJ.on (Since.h _)) (HN.on (Since.h _)) (HL.on (Since.h _)) (by omega) (by omega) H0.out.2 HI.out HV.out)))))
    refine wpQuiet_nil ?_
    rintro W ⟨⟨_, hb⟩, rfl⟩
    try dsimp only at hb ⊢
    clear y_c0 y_c1
    replace hk := hk.below hb hk.lt
    replace hB := hB.trans (hb.mono hB.size)
    clear hb
    have c0 := hk.cell_ 0 rfl
    have c1 := hk.cell_ 1 rfl
    go_wp2_with fail
    refine (awake_any _).mono ?_
    rintro e W ⟨rfl, hb⟩
    clear c0 c1
    replace hk := hk.below hb hk.lt
    replace hB := hB.trans (hb.mono hB.size)
    clear hb
    have c0 := hk.cell_ 0 rfl
    have c1 := hk.cell_ 1 rfl
    go_wp2_with fail
    go_ret
    exact ⟨rfl, hB⟩
end Go.Proofs.Ytkcfalehebacpaa
