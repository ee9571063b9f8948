/- CutPrices: the walk. -/
import Derived.Test.YtecaaimaeaocbaaDoorKAwake
import Derived.Test.YtecaaimaeaocbaaDoorKRefPrices
namespace Go.Proofs.YtecaaimaeaocbaaDoor
open Go Go.RowKit
/-- Wide, for no plan -/
theorem wideNil_any (L K : Int) (A : Option Addr) (c : Nat) (l : List Ask) (w : World) (hl : l.length ≤ maxLen) :
    Calls Tryd.prog 17 #[.agg #[.int .i64 L, .int .i64 K, .slice A l.length c], .slice none 0 0] w fun e w' => e = .returned (.bool (decide (30 < l.length))) ∧ Below w.heap.size w w' := by
  unfold maxLen at hl
  have hk := Blk.new w 24 #[.int .i64 L, .int .i64 K, .slice A l.length c]
  have hB := (Below.refl w.heap.size w).alloc (Nat.le_refl _) (.cells #[.int .i64 L, .int .i64 K, .slice A l.length c] 24)
  by_cases h : 30 < l.length
  · have h' : (30 : Int) < (l.length : Int) := by omega
    have HV : Hid (decide (30 < l.length) = true) := decide_eq_true h
    clear h
    go_enter Tryd.func17, Tryd.ntmps17
    go_upto_region 1 with fail
    generalize w.alloc (.cells #[.int .i64 L, .int .i64 K, .slice A l.length c] 24) = W at *
    have c0 := hk.cell_ 0 rfl
    have c1 := hk.cell_ 1 rfl
    have c2 := hk.cell_ 2 rfl
    go_wp2_with fail
    go_ret
    exact ⟨ret_bool HV.out.symm, hB⟩
  · have h' : ¬ (30 : Int) < (l.length : Int) := by omega
    have HV : Hid (decide (30 < l.length) = false) := decide_eq_false h
    clear h
    go_enter Tryd.func17, Tryd.ntmps17
    go_upto_region 1 with fail
    generalize w.alloc (.cells #[.int .i64 L, .int .i64 K, .slice A l.length c] 24) = W at *
    have c0 := hk.cell_ 0 rfl
    have c1 := hk.cell_ 1 rfl
    have c2 := hk.cell_ 2 rfl
    go_wp2_with fail
    refine wp_loop_rounds 1 ?_
    rw [rounds_succ]
    go_wp2_with fail
    go_ret
    exact ⟨ret_bool HV.out.symm, hB⟩
set_option maxRecDepth 100000 in
set_option maxHeartbeats 2000000 in
theorem prices_walk (L K : Int) (A : Option Addr) (c : Nat) (l : List Ask) (AP : Option Addr) (cP : Nat) (ps : List Int) (w : World) (hS : Slc Ask.enc 2 w w.heap.size A l) (hP : Slc intEnc 1 w w.heap.size AP ps) (hl : l.length ≤ maxLen) (hl2 : ps.length ≤ maxLen) :
    Calls Tryd.prog 3 #[.agg #[.int .i64 L, .int .i64 K, .slice A l.length c], .slice AP ps.length cP] w fun e w' => e = .returned (.bool true) ∧ Below w.heap.size w w' := by
  have hk := Blk.new w 24 #[.int .i64 L, .int .i64 K, .slice A l.length c]
  have hB := (Below.refl w.heap.size w).alloc (Nat.le_refl _) (.cells #[.int .i64 L, .int .i64 K, .slice A l.length c] 24)
  go_enter Tryd.func3, Tryd.ntmps3
  go_upto_region 1 with fail
  generalize w.alloc (.cells #[.int .i64 L, .int .i64 K, .slice A l.length c] 24) = W at *
  have c0 := hk.cell_ 0 rfl
  have c1 := hk.cell_ 1 rfl
  have c2 := hk.cell_ 2 rfl
  go_wp2_with fail
  refine (wideNil_any L K A c l _ hl).mono ?_
  rintro e W ⟨rfl, hb⟩
  clear c0 c1 c2
  replace hk := hk.below hb hk.lt
  replace hB := hB.trans (hb.mono hB.size)
  clear hb
  have c0 := hk.cell_ 0 rfl
  have c1 := hk.cell_ 1 rfl
  have c2 := hk.cell_ 2 rfl
  cases hw : decide (30 < l.length)
  case true =>
    clear hw
    go_wp2_with fail
    refine (kawake_any _).mono ?_
    rintro e W ⟨rfl, hb⟩
    clear c0 c1 c2
    replace hk := hk.below hb hk.lt
    replace hB := hB.trans (hb.mono hB.size)
    clear hb
    have c0 := hk.cell_ 0 rfl
    have c1 := hk.cell_ 1 rfl
    have c2 := hk.cell_ 2 rfl
    go_wp2_with fail
    go_ret
    exact ⟨rfl, hB⟩
  have hl30 : ¬ 30 < l.length := of_decide_eq_false hw
  clear hw hl
  unfold maxLen at hl2
  by_cases hp : (30 : Int) < (ps.length : Int)
  · go_wp2_with fail
    refine (kawake_any _).mono ?_
    rintro e W ⟨rfl, hb⟩
    clear c0 c1 c2
    replace hk := hk.below hb hk.lt
    replace hB := hB.trans (hb.mono hB.size)
    clear hb
    have c0 := hk.cell_ 0 rfl
    have c1 := hk.cell_ 1 rfl
    have c2 := hk.cell_ 2 rfl
    go_wp2_with fail
    go_ret
    exact ⟨rfl, hB⟩
  go_wp2_with fail
  refine (apiDear_any L K A c l AP cP ps _ (hS.on hB) (hP.on hB) (by omega)).mono ?_
  rintro e W ⟨rfl, hb⟩
  clear c0 c1 c2
  replace hk := hk.below hb hk.lt
  replace hB := hB.trans (hb.mono hB.size)
  clear hb
  have c0 := hk.cell_ 0 rfl
  have c1 := hk.cell_ 1 rfl
  have c2 := hk.cell_ 2 rfl
  go_wp2_with fail
  refine (refDear_any L K A c l AP cP ps _ (hS.on hB) (hP.on hB) (by omega)).mono ?_
  rintro e W ⟨rfl, hb⟩
  clear c0 c1 c2
  replace hk := hk.below hb hk.lt
  replace hB := hB.trans (hb.mono hB.size)
  clear hb
  have c0 := hk.cell_ 0 rfl
  have c1 := hk.cell_ 1 rfl
  have c2 := hk.cell_ 2 rfl
  go_wp2_with fail
  refine (apiBound_any L K A c l AP cP ps _ (hS.on hB) (hP.on hB) (by omega)).mono ?_
  rintro e W ⟨rfl, hb⟩
  clear c0 c1 c2
  replace hk := hk.below hb hk.lt
  replace hB := hB.trans (hb.mono hB.size)
  clear hb
  have c0 := hk.cell_ 0 rfl
  have c1 := hk.cell_ 1 rfl
  have c2 := hk.cell_ 2 rfl
  go_wp2_with fail
  refine (refBound_any L K A c l AP cP ps _ (hS.on hB) (hP.on hB) (by omega)).mono ?_
  rintro e W ⟨rfl, hb⟩
  clear c0 c1 c2
  replace hk := hk.below hb hk.lt
  replace hB := hB.trans (hb.mono hB.size)
  clear hb
  have c0 := hk.cell_ 0 rfl
  have c1 := hk.cell_ 1 rfl
  have c2 := hk.cell_ 2 rfl
  generalize dD L K l ps = d at *
  generalize dE L K l ps = E at *
  generalize bB L K l ps = b at *
  go_wp2_with fail
  refine (kawake_any _).mono ?_
  rintro e W ⟨rfl, hb⟩
  clear c0 c1 c2
  replace hk := hk.below hb hk.lt
  replace hB := hB.trans (hb.mono hB.size)
  clear hb
  have c0 := hk.cell_ 0 rfl
  have c1 := hk.cell_ 1 rfl
  have c2 := hk.cell_ 2 rfl
  go_wp2_with fail
  go_ret
  exact ⟨rfl, hB⟩
end Go.Proofs.YtecaaimaeaocbaaDoor
