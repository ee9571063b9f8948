/- Parts of the proofs of this seat: Valid, Rules, Clear. Each part says what it proves; no condition beyond those stated there. -/
import Derived.Test.YtpeokpnjnmgloaaRows
import Derived.WalkLawsBesides
import Derived.WalkSpells
import Derived.Outline
import Derived.BigQuiet
import Derived.Deep.QuietTactic
import Derived.Test.YtpeokpnjnmgloaaM1

/- Valid rolls and rules: the walks of both texts. -/
namespace Go.Proofs.Ytpeokpnjnmgloaa
open Go.RowKit
theorem within_any (a n b : Int) (w : World) : Calls Try.prog 28 #[.int .i64 a, .int .i64 n, .int .i64 b] w fun e w' => e = .returned (.bool (inB a n b)) ∧ w = w' := by
  have hb : inB a n b = (decide (a ≤ n) && decide (n ≤ b)) := rfl
  have H := hide hb
  clear hb
  by_cases h1 : a ≤ n
  · go_enter Try.func28, Try.ntmps28
    go_wp2
    all_goals go_ret; rw [H.out]; simp [*]; try omega
  · go_enter Try.func28, Try.ntmps28
    go_wp2
    go_ret; rw [H.out]; simp; omega
theorem from_any (a n b : Int) (w : World) : Calls Try.prog 12 #[.int .i64 a, .int .i64 n, .int .i64 b] w fun e w' => e = .returned (.bool (inB a n b)) ∧ w = w' := by
  have hb : inB a n b = (decide (a ≤ n) && decide (n ≤ b)) := rfl
  have H := hide hb
  clear hb
  by_cases h1 : a ≤ n
  · go_enter Try.func12, Try.ntmps12
    go_wp2
    all_goals go_ret; rw [H.out]; simp [*]; try omega
  · go_enter Try.func12, Try.ntmps12
    go_wp2
    go_ret; rw [H.out]; simp; omega

set_option maxHeartbeats 1000000 in
theorem validRoll_any (id grade colour lot made width len : Int) (A : Option Addr) (c : Nat) (fs : List Pt) (w : World) (hS : Slc Pt.enc 2 w w.heap.size A fs) (hlen : fs.length ≤ 100000) :
    Calls Try.prog 17 #[.agg #[.int .i64 id, .int .i64 grade, .int .i64 colour, .int .i64 lot, .int .i64 made, .int .i64 width, .int .i64 len, .slice A fs.length c]] w fun e w' =>
      e = .returned (.bool (validRoll ⟨id, grade, colour, lot, made, width, len, fs⟩)) ∧ Below w.heap.size w w' := by
  cases h0 : inB 1 id 1000000000
  · go_enter Try.func17, Try.ntmps17
    go_wp2_with (go_at_call 28; refine (within_any _ _ _ _).mono ?_; rintro e w' ⟨rfl, rfl⟩)
    go_ret
    exact ⟨ret_bool (by simp [validRoll, h0]), (Below.refl _ _).alloc (Nat.le_refl _) _⟩
  cases h1 : inB 1 grade 3
  · go_enter Try.func17, Try.ntmps17
    go_wp2_with (go_at_call 28; refine (within_any _ _ _ _).mono ?_; rintro e w' ⟨rfl, rfl⟩)
    go_ret
    exact ⟨ret_bool (by simp [validRoll, h0, h1]), (Below.refl _ _).alloc (Nat.le_refl _) _⟩
  cases h2 : inB 1 colour 7
  · go_enter Try.func17, Try.ntmps17
    go_wp2_with (go_at_call 28; refine (within_any _ _ _ _).mono ?_; rintro e w' ⟨rfl, rfl⟩)
    go_ret
    exact ⟨ret_bool (by simp [validRoll, h0, h1, h2]), (Below.refl _ _).alloc (Nat.le_refl _) _⟩
  cases h3 : inB 1 lot 1000000000
  · go_enter Try.func17, Try.ntmps17
    go_wp2_with (go_at_call 28; refine (within_any _ _ _ _).mono ?_; rintro e w' ⟨rfl, rfl⟩)
    go_ret
    exact ⟨ret_bool (by simp [validRoll, h0, h1, h2, h3]), (Below.refl _ _).alloc (Nat.le_refl _) _⟩
  cases h4 : inB 0 made 100000
  · go_enter Try.func17, Try.ntmps17
    go_wp2_with (go_at_call 28; refine (within_any _ _ _ _).mono ?_; rintro e w' ⟨rfl, rfl⟩)
    go_ret
    exact ⟨ret_bool (by simp [validRoll, h0, h1, h2, h3, h4]), (Below.refl _ _).alloc (Nat.le_refl _) _⟩
  cases h5 : inB 1 width 150
  · go_enter Try.func17, Try.ntmps17
    go_wp2_with (go_at_call 28; refine (within_any _ _ _ _).mono ?_; rintro e w' ⟨rfl, rfl⟩)
    go_ret
    exact ⟨ret_bool (by simp [validRoll, h0, h1, h2, h3, h4, h5]), (Below.refl _ _).alloc (Nat.le_refl _) _⟩
  cases h6 : inB 1 len 6000
  · go_enter Try.func17, Try.ntmps17
    go_wp2_with (go_at_call 28; refine (within_any _ _ _ _).mono ?_; rintro e w' ⟨rfl, rfl⟩)
    go_ret
    exact ⟨ret_bool (by simp [validRoll, h0, h1, h2, h3, h4, h5, h6]), (Below.refl _ _).alloc (Nat.le_refl _) _⟩
  by_cases h7 : 16 < fs.length
  · go_enter Try.func17, Try.ntmps17
    go_wp2_with (go_at_call 28; refine (within_any _ _ _ _).mono ?_; rintro e w' ⟨rfl, rfl⟩)
    go_ret
    exact ⟨ret_bool (by simp [validRoll]; omega), (Below.refl _ _).alloc (Nat.le_refl _) _⟩
  have hv : validRoll ⟨id, grade, colour, lot, made, width, len, fs⟩ = spansOk len 0 fs := by simp [validRoll, h0, h1, h2, h3, h4, h5, h6]; omega
  have HV := hide hv
  clear hv
  go_enter Try.func17, Try.ntmps17
  go_wp2_with (go_at_call 28; refine (within_any _ _ _ _).mono ?_; rintro e w' ⟨rfl, rfl⟩)
  go_loopw [3, 43] (fun a i wr => ∃ (last : Int) (k : Nat), k ≤ fs.length ∧ a = .int .i64 last ∧ i = .int .i64 k ∧ spansOk len 0 fs = spansOk len last (fs.drop k) ∧ Blk wr w.heap.size 36 #[.int .i64 id, .int .i64 grade, .int .i64 colour, .int .i64 lot, .int .i64 made, .int .i64 width, .int .i64 len, .slice A fs.length c] ∧ Below w.heap.size w wr) (fun _ i _ => (fs.length - (intOf i).toNat))
  case atStart => exact ⟨0, 0, Nat.zero_le _, rfl, rfl, rfl, Blk.new _ _ _, (Below.refl _ _).alloc (Nat.le_refl _) _⟩
  case round =>
    obtain ⟨last, k, hk, rfl, rfl, hs, hblk, hbel⟩ := hrel
    have HS := hide hs
    clear hs
    by_cases hlt : k < fs.length
    · obtain ⟨f, t, bb, off, hx, rfl, hb, c0, c1⟩ := pts_at (hS.below hbel) hlt
      have HX := hide hx
      clear hx
      have hc6 := hblk.cell_ 6 rfl
      have hz := hblk.lt
      go_wp2
      all_goals first
        | (go_ret; exact ⟨ret_bool (by rw [HV.out, HS.out]; exact (spansOk_bad HX.out (by omega)).symm), hbel.alloc hbel.size _⟩)
        | (go_roundw
           case rel => exact ⟨t, k + 1, by omega, rfl, by go_num, by rw [HS.out]; exact spansOk_good HX.out (by omega), hblk.alloc _, hbel.alloc hbel.size _⟩
           case measure => simp [intOf]; omega)
    · obtain rfl : k = fs.length := by omega
      go_wp2
      go_ret
      exact ⟨ret_bool (by rw [HV.out, HS.out]; simp [spansOk]), hbel⟩
end Go.Proofs.Ytpeokpnjnmgloaa

/- Valid rules: the walks of both texts. -/
namespace Go.Proofs.Ytpeokpnjnmgloaa
open Go.RowKit
set_option maxHeartbeats 1000000 in
theorem validRules_any (mw ml l0 l1 l2 : Int) (w : World) :
    Calls Try.prog 15 #[.agg #[.int .i64 mw, .int .i64 ml, .int .i64 l0, .int .i64 l1, .int .i64 l2]] w fun e w' => e = .returned (.bool (validRules ⟨mw, ml, l0, l1, l2⟩)) ∧ Below w.heap.size w w' := by
  have i0 : ∀ w, (Instr.index 22 (.agg #[.int .i64 l0, .int .i64 l1, .int .i64 l2]) (.int .i64 0)).run Try.prog w = .ok (.int .i64 l0) w := fun _ => by kernel_rfl
  have i1 : ∀ w, (Instr.index 22 (.agg #[.int .i64 l0, .int .i64 l1, .int .i64 l2]) (.int .i64 1)).run Try.prog w = .ok (.int .i64 l1) w := fun _ => by kernel_rfl
  have i2 : ∀ w, (Instr.index 22 (.agg #[.int .i64 l0, .int .i64 l1, .int .i64 l2]) (.int .i64 2)).run Try.prog w = .ok (.int .i64 l2) w := fun _ => by kernel_rfl
  have HV : Hid (validRules ⟨mw, ml, l0, l1, l2⟩ = (inB 0 l0 100000 && inB 0 l1 100000 && inB 0 l2 100000 && inB 1 mw 1000 && inB 1 ml 1000)) := rfl
  cases h0 : inB 0 l0 100000
  · go_enter Try.func15, Try.ntmps15
    go_wp2
    refine wp_loop_rounds 4 ?_
    rw [rounds_succ]
    go_wp2_with (go_at_call 28; refine (within_any _ _ _ _).mono ?_; rintro e w' ⟨rfl, rfl⟩)
    go_ret
    exact ⟨ret_bool (by rw [HV.out]; simp [h0]), (Below.refl _ _).alloc (Nat.le_refl _) _⟩
  cases h1 : inB 0 l1 100000
  · go_enter Try.func15, Try.ntmps15
    go_wp2
    refine wp_loop_rounds 4 ?_
    rw [rounds_succ]
    go_wp2_with (go_at_call 28; refine (within_any _ _ _ _).mono ?_; rintro e w' ⟨rfl, rfl⟩)
    rw [rounds_succ]
    go_wp2_with (go_at_call 28; refine (within_any _ _ _ _).mono ?_; rintro e w' ⟨rfl, rfl⟩)
    go_ret
    exact ⟨ret_bool (by rw [HV.out]; simp [h0, h1]), (Below.refl _ _).alloc (Nat.le_refl _) _⟩
  cases h2 : inB 0 l2 100000
  · go_enter Try.func15, Try.ntmps15
    go_wp2
    refine wp_loop_rounds 4 ?_
    rw [rounds_succ]
    go_wp2_with (go_at_call 28; refine (within_any _ _ _ _).mono ?_; rintro e w' ⟨rfl, rfl⟩)
    rw [rounds_succ]
    go_wp2_with (go_at_call 28; refine (within_any _ _ _ _).mono ?_; rintro e w' ⟨rfl, rfl⟩)
    rw [rounds_succ]
    go_wp2_with (go_at_call 28; refine (within_any _ _ _ _).mono ?_; rintro e w' ⟨rfl, rfl⟩)
    go_ret
    exact ⟨ret_bool (by rw [HV.out]; simp [h0, h1, h2]), (Below.refl _ _).alloc (Nat.le_refl _) _⟩
  cases h3 : inB 1 mw 1000
  · go_enter Try.func15, Try.ntmps15
    go_wp2
    refine wp_loop_rounds 4 ?_
    rw [rounds_succ]
    go_wp2_with (go_at_call 28; refine (within_any _ _ _ _).mono ?_; rintro e w' ⟨rfl, rfl⟩)
    rw [rounds_succ]
    go_wp2_with (go_at_call 28; refine (within_any _ _ _ _).mono ?_; rintro e w' ⟨rfl, rfl⟩)
    rw [rounds_succ]
    go_wp2_with (go_at_call 28; refine (within_any _ _ _ _).mono ?_; rintro e w' ⟨rfl, rfl⟩)
    rw [rounds_succ]
    go_wp2_with (go_at_call 28; refine (within_any _ _ _ _).mono ?_; rintro e w' ⟨rfl, rfl⟩)
    go_ret
    exact ⟨ret_bool (by rw [HV.out]; simp [h0, h1, h2, h3]), (Below.refl _ _).alloc (Nat.le_refl _) _⟩
  cases h4 : inB 1 ml 1000
  · go_enter Try.func15, Try.ntmps15
    go_wp2
    refine wp_loop_rounds 4 ?_
    rw [rounds_succ]
    go_wp2_with (go_at_call 28; refine (within_any _ _ _ _).mono ?_; rintro e w' ⟨rfl, rfl⟩)
    rw [rounds_succ]
    go_wp2_with (go_at_call 28; refine (within_any _ _ _ _).mono ?_; rintro e w' ⟨rfl, rfl⟩)
    rw [rounds_succ]
    go_wp2_with (go_at_call 28; refine (within_any _ _ _ _).mono ?_; rintro e w' ⟨rfl, rfl⟩)
    rw [rounds_succ]
    go_wp2_with (go_at_call 28; refine (within_any _ _ _ _).mono ?_; rintro e w' ⟨rfl, rfl⟩)
    go_ret
    exact ⟨ret_bool (by rw [HV.out]; simp [h0, h1, h2, h3, h4]), (Below.refl _ _).alloc (Nat.le_refl _) _⟩
  · go_enter Try.func15, Try.ntmps15
    go_wp2
    refine wp_loop_rounds 4 ?_
    rw [rounds_succ]
    go_wp2_with (go_at_call 28; refine (within_any _ _ _ _).mono ?_; rintro e w' ⟨rfl, rfl⟩)
    rw [rounds_succ]
    go_wp2_with (go_at_call 28; refine (within_any _ _ _ _).mono ?_; rintro e w' ⟨rfl, rfl⟩)
    rw [rounds_succ]
    go_wp2_with (go_at_call 28; refine (within_any _ _ _ _).mono ?_; rintro e w' ⟨rfl, rfl⟩)
    rw [rounds_succ]
    go_wp2_with (go_at_call 28; refine (within_any _ _ _ _).mono ?_; rintro e w' ⟨rfl, rfl⟩)
    go_ret
    exact ⟨ret_bool (by rw [HV.out]; simp [h0, h1, h2, h3, h4]), (Below.refl _ _).alloc (Nat.le_refl _) _⟩
set_option maxHeartbeats 1000000 in
theorem refValidRules_any (mw ml l0 l1 l2 : Int) (w : World) :
    Calls Try.prog 5 #[.agg #[.int .i64 mw, .int .i64 ml, .int .i64 l0, .int .i64 l1, .int .i64 l2]] w fun e w' => e = .returned (.bool (validRules ⟨mw, ml, l0, l1, l2⟩)) ∧ Below w.heap.size w w' := by
  have HV : Hid (validRules ⟨mw, ml, l0, l1, l2⟩ = (inB 0 l0 100000 && inB 0 l1 100000 && inB 0 l2 100000 && inB 1 mw 1000 && inB 1 ml 1000)) := rfl
  cases h0 : inB 0 l0 100000
  · go_enter Try.func5, Try.ntmps5
    go_wp2
    refine wp_loop_rounds 4 ?_
    rw [rounds_succ]
    go_wp2_with (go_at_call 12; refine (from_any _ _ _ _).mono ?_; rintro e w' ⟨rfl, rfl⟩)
    go_ret
    exact ⟨ret_bool (by rw [HV.out]; simp [h0]), (Below.refl _ _).alloc (Nat.le_refl _) _⟩
  cases h1 : inB 0 l1 100000
  · go_enter Try.func5, Try.ntmps5
    go_wp2
    refine wp_loop_rounds 4 ?_
    rw [rounds_succ]
    go_wp2_with (go_at_call 12; refine (from_any _ _ _ _).mono ?_; rintro e w' ⟨rfl, rfl⟩)
    rw [rounds_succ]
    go_wp2_with (go_at_call 12; refine (from_any _ _ _ _).mono ?_; rintro e w' ⟨rfl, rfl⟩)
    go_ret
    exact ⟨ret_bool (by rw [HV.out]; simp [h0, h1]), (Below.refl _ _).alloc (Nat.le_refl _) _⟩
  cases h2 : inB 0 l2 100000
  · go_enter Try.func5, Try.ntmps5
    go_wp2
    refine wp_loop_rounds 4 ?_
    rw [rounds_succ]
    go_wp2_with (go_at_call 12; refine (from_any _ _ _ _).mono ?_; rintro e w' ⟨rfl, rfl⟩)
    rw [rounds_succ]
    go_wp2_with (go_at_call 12; refine (from_any _ _ _ _).mono ?_; rintro e w' ⟨rfl, rfl⟩)
    rw [rounds_succ]
    go_wp2_with (go_at_call 12; refine (from_any _ _ _ _).mono ?_; rintro e w' ⟨rfl, rfl⟩)
    go_ret
    exact ⟨ret_bool (by rw [HV.out]; simp [h0, h1, h2]), (Below.refl _ _).alloc (Nat.le_refl _) _⟩
  cases h3 : inB 1 mw 1000
  · go_enter Try.func5, Try.ntmps5
    go_wp2
    refine wp_loop_rounds 4 ?_
    rw [rounds_succ]
    go_wp2_with (go_at_call 12; refine (from_any _ _ _ _).mono ?_; rintro e w' ⟨rfl, rfl⟩)
    rw [rounds_succ]
    go_wp2_with (go_at_call 12; refine (from_any _ _ _ _).mono ?_; rintro e w' ⟨rfl, rfl⟩)
    rw [rounds_succ]
    go_wp2_with (go_at_call 12; refine (from_any _ _ _ _).mono ?_; rintro e w' ⟨rfl, rfl⟩)
    rw [rounds_succ]
    go_wp2_with (go_at_call 12; refine (from_any _ _ _ _).mono ?_; rintro e w' ⟨rfl, rfl⟩)
    go_ret
    exact ⟨ret_bool (by rw [HV.out]; simp [h0, h1, h2, h3]), (Below.refl _ _).alloc (Nat.le_refl _) _⟩
  cases h4 : inB 1 ml 1000
  · go_enter Try.func5, Try.ntmps5
    go_wp2
    refine wp_loop_rounds 4 ?_
    rw [rounds_succ]
    go_wp2_with (go_at_call 12; refine (from_any _ _ _ _).mono ?_; rintro e w' ⟨rfl, rfl⟩)
    rw [rounds_succ]
    go_wp2_with (go_at_call 12; refine (from_any _ _ _ _).mono ?_; rintro e w' ⟨rfl, rfl⟩)
    rw [rounds_succ]
    go_wp2_with (go_at_call 12; refine (from_any _ _ _ _).mono ?_; rintro e w' ⟨rfl, rfl⟩)
    rw [rounds_succ]
    go_wp2_with (go_at_call 12; refine (from_any _ _ _ _).mono ?_; rintro e w' ⟨rfl, rfl⟩)
    go_ret
    exact ⟨ret_bool (by rw [HV.out]; simp [h0, h1, h2, h3, h4]), (Below.refl _ _).alloc (Nat.le_refl _) _⟩
  · go_enter Try.func5, Try.ntmps5
    go_wp2
    refine wp_loop_rounds 4 ?_
    rw [rounds_succ]
    go_wp2_with (go_at_call 12; refine (from_any _ _ _ _).mono ?_; rintro e w' ⟨rfl, rfl⟩)
    rw [rounds_succ]
    go_wp2_with (go_at_call 12; refine (from_any _ _ _ _).mono ?_; rintro e w' ⟨rfl, rfl⟩)
    rw [rounds_succ]
    go_wp2_with (go_at_call 12; refine (from_any _ _ _ _).mono ?_; rintro e w' ⟨rfl, rfl⟩)
    rw [rounds_succ]
    go_wp2_with (go_at_call 12; refine (from_any _ _ _ _).mono ?_; rintro e w' ⟨rfl, rfl⟩)
    go_ret
    exact ⟨ret_bool (by rw [HV.out]; simp [h0, h1, h2, h3, h4]), (Below.refl _ _).alloc (Nat.le_refl _) _⟩
end Go.Proofs.Ytpeokpnjnmgloaa

/- Clear of package sheet: the walk. -/
namespace Go.Proofs.Ytpeokpnjnmgloaa
open Go.RowKit

/-- the outer loop's state -/
def ClearAt (l : Int) (fs : List Pt) (n p : Int) (g : Bool) : Prop :=
  0 ≤ p ∧ p ≤ l - n ∧ (∀ q, 0 ≤ q → q < p → freeB fs q n = false) ∧ (g = false → freeB fs p n = true)
/-- the inner loop's state: it began at p0 -/
def ClearIn (l : Int) (fs : List Pt) (n p0 p : Int) (g : Bool) (k : Nat) : Prop :=
  p0 ≤ p ∧ p ≤ l - n ∧ (∀ q, 0 ≤ q → q < p → freeB fs q n = false) ∧ (g = false → p = p0 ∧ ∀ (i : Nat) f, i < k → fs[i]? = some f → ¬ hits f p n) ∧ (g = true → p0 < p)
theorem ClearIn.start {l : Int} {fs : List Pt} {n p : Int} (h : ClearAt l fs n p true) : ClearIn l fs n p p false 0 :=
  ⟨Int.le_refl _, h.2.1, h.2.2.1, fun _ => ⟨rfl, fun i f hi => absurd hi (by omega)⟩, fun h => by cases h⟩
theorem ClearIn.skip {l : Int} {fs : List Pt} {n p0 p : Int} {g : Bool} {k : Nat} {f : Pt} (h : ClearIn l fs n p0 p g k) (hf : fs[k]? = some f) (hn : ¬ hits f p n) : ClearIn l fs n p0 p g (k + 1) :=
  ⟨h.1, h.2.1, h.2.2.1, fun e => ⟨(h.2.2.2.1 e).1, fun i f' hi hf' => by
    by_cases hik : i = k
    · subst hik; rw [hf] at hf'; injection hf' with hf'; subst hf'; exact hn
    · exact (h.2.2.2.1 e).2 i f' (by omega) hf'⟩, h.2.2.2.2⟩
theorem ClearIn.jump_low {l : Int} {fs : List Pt} {n p0 p : Int} {g : Bool} {k : Nat} {f : Pt} (h : ClearIn l fs n p0 p g k) (hf : fs[k]? = some f) (hh : hits f p n) : ∀ q, 0 ≤ q → q < f.b → freeB fs q n = false := by
  intro q h0 hq
  by_cases hqp : q < p
  · exact h.2.2.1 q h0 hqp
  · exact not_free hf ⟨hh.1, by have := hh.2.1; omega, hq⟩
theorem ClearIn.jump {l : Int} {fs : List Pt} {n p0 p : Int} {g : Bool} {k : Nat} {f : Pt} (h : ClearIn l fs n p0 p g k) (hf : fs[k]? = some f) (hh : hits f p n) (hl : f.b ≤ l - n) : ClearIn l fs n p0 f.b true (k + 1) :=
  ⟨by have := h.1; have := hh.2.2; omega, hl, h.jump_low hf hh, fun e => by (cases e), fun _ => by have := h.1; have := hh.2.2; omega⟩
theorem ClearIn.fin {l : Int} {fs : List Pt} {n p0 p : Int} {g : Bool} (h0 : 0 ≤ p0) (h : ClearIn l fs n p0 p g fs.length) : ClearAt l fs n p g :=
  ⟨by have := h.1; omega, h.2.1, h.2.2.1, fun e => free_of fun i f hf => (h.2.2.2.1 e).2 i f (by
    have := (List.getElem?_eq_some_iff.1 hf).1; exact this) hf⟩
theorem ClearIn.lt {l : Int} {fs : List Pt} {n p0 p : Int} {g : Bool} {k : Nat} (h : ClearIn l fs n p0 p g k) : (2 * (l - n - p) + if g then 1 else 0).toNat < (2 * (l - n - p0) + 1).toNat := by
  obtain ⟨h1, h2, _, h4, h5⟩ := h
  cases g
  · have := (h4 rfl).1; simp; omega
  · have := h5 rfl; simp; omega

set_option maxHeartbeats 1000000 in
theorem clear_any (l n : Int) (A : Option Addr) (c : Nat) (fs : List Pt) (w : World) (hl : l ≤ 9223372036854775807) (hlen : fs.length ≤ 100000) (hS : Slc Pt.enc 2 w w.heap.size A fs) :
    Calls Try.prog 13 #[.int .i64 l, .slice A fs.length c, .int .i64 n] w fun e w' => e = .returned (clearVal l fs n) ∧ Below w.heap.size w w' := by
  by_cases h1 : n < 1
  · go_enter Try.func13, Try.ntmps13
    go_wp2
    go_ret2
    exact ⟨clear_none_val (.inl h1), Below.refl _ _⟩
  by_cases h2 : l < n
  · go_enter Try.func13, Try.ntmps13
    go_wp2
    go_ret2
    exact ⟨clear_none_val (.inr (.inl h2)), Below.refl _ _⟩
  go_enter Try.func13, Try.ntmps13
  go_wp2
  go_loopw [8, 9] (fun a g w1 => ∃ (p : Int) (b : Bool), a = .int .i64 p ∧ g = .bool b ∧ ClearAt l fs n p b ∧ Below w.heap.size w w1) (fun a g _ => (2 * (l - n - intOf a) + match g with | .bool true => 1 | _ => 0).toNat)
  case atStart => exact ⟨0, true, rfl, rfl, ⟨by omega, by omega, fun q h0 h => by omega, fun h => by cases h⟩, Below.refl _ _⟩
  case round =>
    obtain ⟨p0, b, rfl, rfl, hat, hbel⟩ := hrel
    have hp0 := hat.1
    have hp1 := hat.2.1
    cases b
    · go_wp2
      go_ret2
      exact ⟨clear_some_val ⟨by omega, hat.1, hat.2.1, hat.2.2.2 rfl, hat.2.2.1⟩, hbel⟩
    · obtain ⟨wo, rfl⟩ : ∃ wo : World, wo = wr := ⟨_, rfl⟩
      go_wp2
      go_loopw [8, 9, 22] (fun a g i w2 => ∃ (p : Int) (b : Bool) (k : Nat), k ≤ fs.length ∧ a = .int .i64 p ∧ g = .bool b ∧ i = .int .i64 k ∧ ClearIn l fs n p0 p b k ∧ Below w.heap.size w w2) (fun _ _ i _ => (fs.length - (intOf i).toNat))
      case atStart => exact ⟨p0, false, 0, Nat.zero_le _, rfl, rfl, rfl, ClearIn.start hat, hbel⟩
      case round =>
        obtain ⟨p, b, k, hk, rfl, rfl, rfl, hin, hbel'⟩ := hrel
        have hp2 := hin.1
        have hp3 := hin.2.1
        by_cases hlt : k < fs.length
        · obtain ⟨f, t, bb, off, hx, rfl, hb, c0, c1⟩ := pts_at (hS.below hbel') hlt
          have HX := hide hx
          clear hx
          go_wp2
          · go_ret2
            have hh : hits ⟨f, t⟩ p n := ⟨‹_›, ‹_›, ‹_›⟩
            have hlt' : l - n < t := ‹_›
            exact ⟨clear_none_val (.inr (.inr fun q h0 hq => hin.jump_low HX.out hh q h0 (by simp; omega))), hbel'.alloc hbel'.size _⟩
          · have hh : hits ⟨f, t⟩ p n := ⟨‹_›, ‹_›, ‹_›⟩
            have hge : t ≤ l - n := ‹_›
            go_roundw
            case rel => exact ⟨t, true, k + 1, by omega, rfl, rfl, by go_num, hin.jump HX.out hh hge, hbel'.alloc hbel'.size _⟩
            case measure => simp [intOf]; omega
          all_goals
            have hh : ¬ hits ⟨f, t⟩ p n := by unfold hits; simp; omega
            go_roundw
            case rel => exact ⟨p, b, k + 1, by omega, rfl, rfl, by go_num, hin.skip HX.out hh, hbel'.alloc hbel'.size _⟩
            case measure => simp [intOf]; omega
        · obtain rfl : k = fs.length := by omega
          go_wp2
          go_roundw
          case rel => exact ⟨p, b, rfl, rfl, hin.fin hp0, hbel'⟩
          case measure => have := hin.lt; cases b <;> simpa [intOf] using this
end Go.Proofs.Ytpeokpnjnmgloaa
