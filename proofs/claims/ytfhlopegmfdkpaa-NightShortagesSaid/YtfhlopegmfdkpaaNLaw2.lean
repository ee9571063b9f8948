/- NightBounds: the walk. -/
import Derived.Test.YtfhlopegmfdkpaaNBounds
import Derived.Test.YtfhlopegmfdkpaaNOpen
namespace Go.Proofs.Ytfhlopegmfdkpaa
open Go Go.RowKit
theorem valid_zero {js : List Job} {ns : List Nit} (h : validB js ns = true) : wrongF js ns = 0 := of_decide_eq_true h
theorem places_is (AJ : Option Addr) (cJ : Nat) (js : List Job) (AN : Option Addr) (cN : Nat) (ns : List Nit) (AL : Option Addr) (cL : Nat) (l : List Int) (w : World) (hJ : Slc Job.enc 8 w w.heap.size AJ js) (hN : Slc Nit.enc 8 w w.heap.size AN ns) (hL : Slc intEnc 1 w w.heap.size AL l)
    (hl2 : ns.length ≤ 1000) (hl3 : l.length ≤ 1000) (hn : ∀ n ∈ ns, nitOk n = true) (hl : idxF js.length (-1) l = true) {v : Int} (hv : placesF js ns l = v) :
    Calls Try.prog 19 #[.slice AJ js.length cJ, .slice AN ns.length cN, .slice AL l.length cL] w fun e w' => e = .returned (.int .i64 v) ∧ Below w.heap.size w w' := by
  subst hv; exact places_any AJ cJ js AN cN ns AL cL l w hJ hN hL hl2 hl3 hn hl
theorem Slc.on {α : Type} {enc : α → List Value} {sz : Nat} {w w' : World} {A : Option Addr} {xs : List α} (h : Slc enc sz w w.heap.size A xs) (hb : Below w.heap.size w w') : Slc enc sz w' w'.heap.size A xs := (h.below hb).more hb.size
set_option maxRecDepth 100000 in
set_option maxHeartbeats 4000000 in
theorem bounds_walk (s : Sea) (A : Option Addr) (c : Nat) (l : List Int) (w : World) (hS : SeaAt w s) (hL : Slc intEnc 1 w w.heap.size A l) (hll : l.length ≤ maxLen) :
    Calls Try.prog 3 #[.agg #[.slice s.aJ s.js.length s.cJ, .slice s.aN s.ns.length s.cN], .slice A l.length c] w fun e w' => e = .returned (.bool true) ∧ Below w.heap.size w w' := by
  obtain ⟨js, ns, aJ, cJ, aN, cN⟩ := s
  obtain ⟨hJ, hN, lj, ln⟩ := hS
  dsimp only at *
  unfold maxLen at lj ln hll
  have hk := Blk.new w 25 #[.slice aJ js.length cJ, .slice aN ns.length cN]
  have hB := (Below.refl w.heap.size w).alloc (Nat.le_refl _) (.cells #[.slice aJ js.length cJ, .slice aN ns.length cN] 25)
  go_enter Try.func3, Try.ntmps3
  go_wp2_with fail
  generalize w.alloc (.cells #[.slice aJ js.length cJ, .slice aN ns.length cN] 25) = W at *
  have c0 := hk.cell_ 0 rfl
  have c1 := hk.cell_ 1 rfl
  go_wp2_with fail
  refine (wide_any aJ cJ js aN cN ns 30 30 _).mono ?_
  rintro e W ⟨rfl, hb⟩
  clear c0 c1
  replace hk := hk.below hb hk.lt
  replace hB := hB.trans (hb.mono hB.size)
  clear hb
  have c0 := hk.cell_ 0 rfl
  have c1 := hk.cell_ 1 rfl
  cases hw : wideB js ns 30 30
  case true =>
    go_wp2_with fail
    refine (awake_any _).mono ?_
    rintro e W ⟨rfl, hb⟩
    clear c0 c1
    replace hk := hk.below hb hk.lt
    replace hB := hB.trans (hb.mono hB.size)
    clear hb
    have c0 := hk.cell_ 0 rfl
    have c1 := hk.cell_ 1 rfl
    go_wp2_with fail
    go_ret
    exact ⟨rfl, hB⟩
  obtain ⟨w1, w2⟩ := wideB_false (a := 30) (b := 30) hw
  clear hw
  by_cases hl : (30 : Int) < (l.length : Int)
  · go_wp2_with fail
    refine (awake_any _).mono ?_
    rintro e W ⟨rfl, hb⟩
    clear c0 c1
    replace hk := hk.below hb hk.lt
    replace hB := hB.trans (hb.mono hB.size)
    clear hb
    have c0 := hk.cell_ 0 rfl
    have c1 := hk.cell_ 1 rfl
    go_wp2_with fail
    go_ret
    exact ⟨rfl, hB⟩
  have hl30 : l.length ≤ 30 := by omega
  go_wp2_with fail
  refine (refValid_any aJ cJ js aN cN ns _ (hJ.on hB) (hN.on hB) (by omega) (by omega)).mono ?_
  rintro e W ⟨rfl, hb⟩
  clear c0 c1
  replace hk := hk.below hb hk.lt
  replace hB := hB.trans (hb.mono hB.size)
  clear hb
  have c0 := hk.cell_ 0 rfl
  have c1 := hk.cell_ 1 rfl
  cases hv : validB js ns
  case false =>
    go_wp2_with fail
    refine (awake_any _).mono ?_
    rintro e W ⟨rfl, hb⟩
    clear c0 c1
    replace hk := hk.below hb hk.lt
    replace hB := hB.trans (hb.mono hB.size)
    clear hb
    have c0 := hk.cell_ 0 rfl
    have c1 := hk.cell_ 1 rfl
    go_wp2_with fail
    go_ret
    exact ⟨rfl, hB⟩
  have h0 := valid_zero hv
  obtain ⟨_, _, _, f3⟩ := wrong_facts h0
  have H0 := hide (And.intro h0 f3)
  clear h0 f3 hv
  go_wp2_with fail
  refine (indexes_any aJ cJ js.length A c _ l _ (hL.on hB) (by omega)).mono ?_
  rintro e W' ⟨rfl, rfl⟩
  cases hi : idxF js.length (-1) l
  case false =>
    go_wp2_with fail
    refine (awake_any _).mono ?_
    rintro e W ⟨rfl, hb⟩
    clear c0 c1
    replace hk := hk.below hb hk.lt
    replace hB := hB.trans (hb.mono hB.size)
    clear hb
    have c0 := hk.cell_ 0 rfl
    have c1 := hk.cell_ 1 rfl
    go_wp2_with fail
    go_ret
    exact ⟨rfl, hB⟩
  have HI := hide hi
  clear hi
  go_wp2_with fail
  refine (apiMost_any aJ cJ js aN cN ns _ (hJ.on hB) (hN.on hB) (by omega) (by omega)).mono ?_
  rintro e W ⟨n, rfl, hb, hV⟩
  clear c0 c1
  replace hk := hk.below hb hk.lt
  replace hB := hB.trans (hb.mono hB.size)
  clear hb
  have c0 := hk.cell_ 0 rfl
  have c1 := hk.cell_ 1 rfl
  rw [H0.out.1]
  have hmb := most_bound (cap_ok H0.out.2) (hV.1 H0.out.1) HI.out
  have hpb := places_bound (js := js) (l := l) H0.out.2
  obtain ⟨v, hv⟩ : ∃ v, placesF js ns l = v := ⟨_, rfl⟩
  have hpb' : 0 ≤ v ∧ v ≤ 100 * ns.length := by rw [← hv]; exact hpb
  have HV := hide hv
  rw [hv] at hmb
  have e1 : IntKind.i64.wrap ((js.length : Int) - (l.length : Int)) = (js.length : Int) - (l.length : Int) := IntWalk.i64_in _ (by omega)
  have e2 : IntKind.i64.wrap ((js.length : Int) - (l.length : Int) + v) = (js.length : Int) - (l.length : Int) + v := IntWalk.i64_in _ (by omega)
  have hn0 : (0 : Int) ≤ (n : Int) := by omega
  have HJ := hJ.on hB
  have HN := hN.on hB
  have HL := hL.on hB
  clear hV hpb hv
  go_wp2_with fail
  refine wp_region_quiet (C := fun w' => ∃ u : Since W, w' = u.w) (by kernel_rfl) (by kernel_rfl) (Since.start W) ?_
  dsimp only
  have y_c0 := Since.cell c0
  have y_c1 := Since.cell c1
  clear c0 c1
  repeat (go_big_quiet_step ((first | (go_at_call 19; exact Since.calls (places_is aJ cJ js aN cN ns A c l _ (HJ.on (Since.h _)) (HN.on (Since.h _)) (HL.on (Since.h _)) (by omega) (by omega) H0.out.2 HI.out HV.out)) | (go_at_call 17; exact Since.calls (awake_any _)))))
  refine wpQuiet_nil ?_
  rintro W ⟨⟨_, hb⟩, rfl⟩
  try dsimp only at hb ⊢
  clear y_c0 y_c1
  replace hk := hk.below hb hk.lt
  replace hB := hB.trans (hb.mono hB.size)
  clear hb
  have c0 := hk.cell_ 0 rfl
  have c1 := hk.cell_ 1 rfl
  go_wp2_with fail
  go_ret
  exact ⟨rfl, hB⟩
end Go.Proofs.Ytfhlopegmfdkpaa
