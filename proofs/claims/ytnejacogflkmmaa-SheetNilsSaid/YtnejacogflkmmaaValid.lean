/- Valid rolls and rules: the walks of both texts. -/
import Derived.Test.YtnejacogflkmmaaRows
import Derived.Test.YtnejacogflkmmaaData
import Derived.WalkLawsBesides
import Derived.WalkSpells
import Derived.Outline
import Derived.BigQuiet
import Derived.Deep.QuietTactic
namespace Go.Proofs.Ytnejacogflkmmaa
open Go.RowKit
theorem within_any (a n b : Int) (w : World) : Calls Try.prog 40 #[.int .i64 a, .int .i64 n, .int .i64 b] w fun e w' => e = .returned (.bool (inB a n b)) ∧ w = w' := by
  have hb : inB a n b = (decide (a ≤ n) && decide (n ≤ b)) := rfl
  have H := hide hb
  clear hb
  by_cases h1 : a ≤ n
  · go_enter Try.func40, Try.ntmps40
    go_wp2
    all_goals go_ret; rw [H.out]; simp [*]; try omega
  · go_enter Try.func40, Try.ntmps40
    go_wp2
    go_ret; rw [H.out]; simp; omega
theorem from_any (a n b : Int) (w : World) : Calls Try.prog 41 #[.int .i64 a, .int .i64 n, .int .i64 b] w fun e w' => e = .returned (.bool (inB a n b)) ∧ w = w' := by
  have hb : inB a n b = (decide (a ≤ n) && decide (n ≤ b)) := rfl
  have H := hide hb
  clear hb
  by_cases h1 : a ≤ n
  · go_enter Try.func41, Try.ntmps41
    go_wp2
    all_goals go_ret; rw [H.out]; simp [*]; try omega
  · go_enter Try.func41, Try.ntmps41
    go_wp2
    go_ret; rw [H.out]; simp; omega

set_option maxHeartbeats 1000000 in
theorem validRoll_any (id grade colour lot made width len : Int) (A : Option Addr) (c : Nat) (fs : List Pt) (w : World) (hS : Slc Pt.enc 2 w w.heap.size A fs) (hlen : fs.length ≤ 100000) :
    Calls Try.prog 13 #[.agg #[.int .i64 id, .int .i64 grade, .int .i64 colour, .int .i64 lot, .int .i64 made, .int .i64 width, .int .i64 len, .slice A fs.length c]] w fun e w' =>
      e = .returned (.bool (validRoll ⟨id, grade, colour, lot, made, width, len, fs⟩)) ∧ Below w.heap.size w w' := by
  cases h0 : inB 1 id 1000000000
  · go_enter Try.func13, Try.ntmps13
    go_wp2_with (go_at_call 40; refine (within_any _ _ _ _).mono ?_; rintro e w' ⟨rfl, rfl⟩)
    go_ret
    exact ⟨ret_bool (by simp [validRoll, h0]), (Below.refl _ _).alloc (Nat.le_refl _) _⟩
  cases h1 : inB 1 grade 3
  · go_enter Try.func13, Try.ntmps13
    go_wp2_with (go_at_call 40; refine (within_any _ _ _ _).mono ?_; rintro e w' ⟨rfl, rfl⟩)
    go_ret
    exact ⟨ret_bool (by simp [validRoll, h0, h1]), (Below.refl _ _).alloc (Nat.le_refl _) _⟩
  cases h2 : inB 1 colour 7
  · go_enter Try.func13, Try.ntmps13
    go_wp2_with (go_at_call 40; refine (within_any _ _ _ _).mono ?_; rintro e w' ⟨rfl, rfl⟩)
    go_ret
    exact ⟨ret_bool (by simp [validRoll, h0, h1, h2]), (Below.refl _ _).alloc (Nat.le_refl _) _⟩
  cases h3 : inB 1 lot 1000000000
  · go_enter Try.func13, Try.ntmps13
    go_wp2_with (go_at_call 40; refine (within_any _ _ _ _).mono ?_; rintro e w' ⟨rfl, rfl⟩)
    go_ret
    exact ⟨ret_bool (by simp [validRoll, h0, h1, h2, h3]), (Below.refl _ _).alloc (Nat.le_refl _) _⟩
  cases h4 : inB 0 made 100000
  · go_enter Try.func13, Try.ntmps13
    go_wp2_with (go_at_call 40; refine (within_any _ _ _ _).mono ?_; rintro e w' ⟨rfl, rfl⟩)
    go_ret
    exact ⟨ret_bool (by simp [validRoll, h0, h1, h2, h3, h4]), (Below.refl _ _).alloc (Nat.le_refl _) _⟩
  cases h5 : inB 1 width 150
  · go_enter Try.func13, Try.ntmps13
    go_wp2_with (go_at_call 40; refine (within_any _ _ _ _).mono ?_; rintro e w' ⟨rfl, rfl⟩)
    go_ret
    exact ⟨ret_bool (by simp [validRoll, h0, h1, h2, h3, h4, h5]), (Below.refl _ _).alloc (Nat.le_refl _) _⟩
  cases h6 : inB 1 len 6000
  · go_enter Try.func13, Try.ntmps13
    go_wp2_with (go_at_call 40; refine (within_any _ _ _ _).mono ?_; rintro e w' ⟨rfl, rfl⟩)
    go_ret
    exact ⟨ret_bool (by simp [validRoll, h0, h1, h2, h3, h4, h5, h6]), (Below.refl _ _).alloc (Nat.le_refl _) _⟩
  by_cases h7 : 16 < fs.length
  · go_enter Try.func13, Try.ntmps13
    go_wp2_with (go_at_call 40; refine (within_any _ _ _ _).mono ?_; rintro e w' ⟨rfl, rfl⟩)
    go_ret
    exact ⟨ret_bool (by simp [validRoll]; omega), (Below.refl _ _).alloc (Nat.le_refl _) _⟩
  have hv : validRoll ⟨id, grade, colour, lot, made, width, len, fs⟩ = spansOk len 0 fs := by simp [validRoll, h0, h1, h2, h3, h4, h5, h6]; omega
  have HV := hide hv
  clear hv
  go_enter Try.func13, Try.ntmps13
  go_wp2_with (go_at_call 40; refine (within_any _ _ _ _).mono ?_; rintro e w' ⟨rfl, rfl⟩)
  go_loopw [3, 43] (fun a i wr => ∃ (last : Int) (k : Nat), k ≤ fs.length ∧ a = .int .i64 last ∧ i = .int .i64 k ∧ spansOk len 0 fs = spansOk len last (fs.drop k) ∧ Blk wr w.heap.size 24 #[.int .i64 id, .int .i64 grade, .int .i64 colour, .int .i64 lot, .int .i64 made, .int .i64 width, .int .i64 len, .slice A fs.length c] ∧ Below w.heap.size w wr) (fun _ i _ => (fs.length - (intOf i).toNat))
  case atStart => exact ⟨0, 0, Nat.zero_le _, rfl, rfl, rfl, Blk.new _ _ _, (Below.refl _ _).alloc (Nat.le_refl _) _⟩
  case round =>
    obtain ⟨last, k, hk, rfl, rfl, hs, hblk, hbel⟩ := hrel
    have HS := hide hs
    clear hs
    by_cases hlt : k < fs.length
    · obtain ⟨f, t, bb, off, hx, rfl, hb, c0, c1⟩ := pts_at (hS.below hbel) hlt
      have HX := hide hx
      clear hx
      have hc6 := hblk.cell_ 6 rfl
      have hz := hblk.lt
      go_wp2
      all_goals first
        | (go_ret; exact ⟨ret_bool (by rw [HV.out, HS.out]; exact (spansOk_bad HX.out (by omega)).symm), hbel.alloc hbel.size _⟩)
        | (go_roundw
           case rel => exact ⟨t, k + 1, by omega, rfl, by go_num, by rw [HS.out]; exact spansOk_good HX.out (by omega), hblk.alloc _, hbel.alloc hbel.size _⟩
           case measure => simp [intOf]; omega)
    · obtain rfl : k = fs.length := by omega
      go_wp2
      go_ret
      exact ⟨ret_bool (by rw [HV.out, HS.out]; simp [spansOk]), hbel⟩
end Go.Proofs.Ytnejacogflkmmaa
