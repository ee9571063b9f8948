/- The laws SheetRolls and SheetClears: the walks. -/
import Derived.Test.YtcffjleecklhcaaAwake
import Derived.Test.YtcffjleecklhcaaRefClear
import Derived.Test.YtcffjleecklhcaaRegion
namespace Go.Proofs.Ytcffjleecklhcaa
open Go.RowKit

set_option maxHeartbeats 2000000 in
theorem clears_walk (l n : Int) (A : Option Addr) (c : Nat) (fs : List Pt) (w : World) (hl : l ≤ 9223372036854775807) (hm : fs.length ≤ 9223372036854775807) (hS : Slc Pt.enc 2 w w.heap.size A fs) (hI : ∀ x ∈ fs, -9223372036854775808 ≤ x.a ∧ x.a ≤ 9223372036854775807) :
    Calls Try.prog 4 #[.int .i64 l, .slice A fs.length c, .int .i64 n] w fun e w' => e = .returned (.bool true) ∧ Below w.heap.size w w' := by
  have HI := hide hI
  clear hI
  by_cases h40 : 40 < fs.length
  · go_enter Try.func4, Try.ntmps4
    go_wp2_with (go_at_call 6; refine (awake_any _).mono ?_; rintro e w' ⟨rfl, hb⟩)
    go_ret
    exact ⟨rfl, hb⟩
  · obtain ⟨x, b, hx⟩ : ∃ x b, clearVal l fs n = .tuple #[.int .i64 x, .bool b] := ⟨_, _, rfl⟩
    have HX := hide hx
    clear hx
    go_enter Try.func4, Try.ntmps4
    go_wp2_with fail
    refine (clear_any l n A c fs _ (by omega) (by omega) hS).mono ?_
    rintro e w1 ⟨rfl, hb1⟩
    rw [HX.out]
    go_wp2_with fail
    refine (refClear_any l n A c fs _ (by omega) (by omega) ((hS.below hb1).more hb1.size) HI.out).mono ?_
    rintro e w2 ⟨rfl, hb2⟩
    rw [HX.out]
    go_wp2_with (go_at_call 6; refine (awake_any _).mono ?_; rintro e w' ⟨rfl, hb⟩)
    go_ret
    have b2 := hb1.trans (hb2.mono hb1.size)
    exact ⟨rfl, b2.trans (hb.mono b2.size)⟩

set_option maxHeartbeats 2000000 in
theorem rolls_walk (id grade colour lot made width len : Int) (A : Option Addr) (c : Nat) (fs : List Pt) (mw ml l0 l1 l2 : Int) (w : World) (hm : fs.length ≤ 9223372036854775807) (hS : Slc Pt.enc 2 w w.heap.size A fs) :
    Calls Try.prog 3 #[.agg #[.int .i64 id, .int .i64 grade, .int .i64 colour, .int .i64 lot, .int .i64 made, .int .i64 width, .int .i64 len, .slice A fs.length c], .agg #[.int .i64 mw, .int .i64 ml, .int .i64 l0, .int .i64 l1, .int .i64 l2]] w fun e w' => e = .returned (.bool true) ∧ Below w.heap.size w w' := by
  by_cases h40 : 40 < fs.length
  · go_enter Try.func3, Try.ntmps3
    go_wp2_with fail
    refine (awake_any _).mono ?_
    rintro e w' ⟨rfl, hb⟩
    go_wp2
    go_ret
    exact ⟨rfl, ((((Below.refl _ _).alloc (Nat.le_refl _) _).alloc (by simp) _)).trans (hb.mono (by simp; omega))⟩
  · go_enter Try.func3, Try.ntmps3
    go_wp2_with fail
    have hr := (Blk.new w 24 #[.int .i64 id, .int .i64 grade, .int .i64 colour, .int .i64 lot, .int .i64 made, .int .i64 width, .int .i64 len, .slice A fs.length c]).alloc (.cells #[.int .i64 mw, .int .i64 ml, .int .i64 l0, .int .i64 l1, .int .i64 l2] 27)
    have hl := Blk.new (w.alloc (.cells #[.int .i64 id, .int .i64 grade, .int .i64 colour, .int .i64 lot, .int .i64 made, .int .i64 width, .int .i64 len, .slice A fs.length c] 24)) 27 #[.int .i64 mw, .int .i64 ml, .int .i64 l0, .int .i64 l1, .int .i64 l2]
    have hw : Below w.heap.size w ((w.alloc (.cells #[.int .i64 id, .int .i64 grade, .int .i64 colour, .int .i64 lot, .int .i64 made, .int .i64 width, .int .i64 len, .slice A fs.length c] 24)).alloc (.cells #[.int .i64 mw, .int .i64 ml, .int .i64 l0, .int .i64 l1, .int .i64 l2] 27)) := ((Below.refl _ _).alloc (Nat.le_refl _) _).alloc (by simp) _
    rw [World.size_alloc] at hl
    generalize ((w.alloc (.cells #[.int .i64 id, .int .i64 grade, .int .i64 colour, .int .i64 lot, .int .i64 made, .int .i64 width, .int .i64 len, .slice A fs.length c] 24)).alloc (.cells #[.int .i64 mw, .int .i64 ml, .int .i64 l0, .int .i64 l1, .int .i64 l2] 27)) = W at *
    have hS2 := (hS.below hw).more hw.size
    refine wp_region_quiet (C := fun w' => ∃ u : Since W, w' = u.w) (by kernel_rfl) (by kernel_rfl) (Since.start W) ?_
    dsimp only
    have x0 := Since.cell (hr.cell_ 0 rfl)
    have x1 := Since.cell (hr.cell_ 1 rfl)
    have x2 := Since.cell (hr.cell_ 2 rfl)
    have x3 := Since.cell (hr.cell_ 3 rfl)
    have x4 := Since.cell (hr.cell_ 4 rfl)
    have x5 := Since.cell (hr.cell_ 5 rfl)
    have x6 := Since.cell (hr.cell_ 6 rfl)
    have x7 := Since.cell (hr.cell_ 7 rfl)
    have y0 := Since.cell (hl.cell_ 0 rfl)
    have y1 := Since.cell (hl.cell_ 1 rfl)
    have y2 := Since.cell (hl.cell_ 2 rfl)
    have y3 := Since.cell (hl.cell_ 3 rfl)
    have y4 := Since.cell (hl.cell_ 4 rfl)
    have hlen : fs.length ≤ 100000 := by omega
    repeat (go_big_quiet_step ((first
      | (go_at_call 7; refine Since.calls (validRoll_any _ _ _ _ _ _ _ _ _ _ _ ?_ hlen); exact (hS2.below (Since.h _)).more (Since.h _).size)
      | (go_at_call 8; refine Since.calls (refValidRoll_any _ _ _ _ _ _ _ _ _ _ _ ?_ hlen); exact (hS2.below (Since.h _)).more (Since.h _).size)
      | (go_at_call 9; exact Since.calls (validRules_any _ _ _ _ _ _))
      | (go_at_call 10; exact Since.calls (refValidRules_any _ _ _ _ _ _))
      | (go_at_call 6; exact Since.calls (awake_any _)))))
    refine wpQuiet_nil ?_
    rintro _ ⟨u, rfl⟩
    go_wp2
    go_ret
    exact ⟨rfl, hw.trans (u.h.mono hw.size)⟩
end Go.Proofs.Ytcffjleecklhcaa
