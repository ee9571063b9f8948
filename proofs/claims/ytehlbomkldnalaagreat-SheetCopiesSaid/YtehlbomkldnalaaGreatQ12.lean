/- Parts of the proofs of this seat: Valid, Rules, Clear, RefValid, RefClear. Each part says what it proves; no condition beyond those stated there. -/
import Derived.Test.YtehlbomkldnalaaGreatRows
import Derived.WalkLawsBesides
import Derived.WalkSpells
import Derived.Outline
import Derived.BigQuiet
import Derived.Deep.QuietTactic
import Derived.Test.YtehlbomkldnalaaGreatQ1

/- Valid rolls and rules: the walks of both texts. -/
namespace Go.Proofs.YtehlbomkldnalaaGreat
open Go.RowKit
theorem within_any (a n b : Int) (w : World) : Calls Tryz.prog 47 #[a, n, b] w fun e w' => e = .returned (.bool (inB a n b)) ∧ w = w' := by
  have hb : inB a n b = (decide (a ≤ n) && decide (n ≤ b)) := rfl
  have H := hide hb
  clear hb
  by_cases h1 : a ≤ n
  · go_enter Tryz.func47, Tryz.ntmps47
    go_wp2
    all_goals go_ret; rw [H.out]; simp [*]; try omega
  · go_enter Tryz.func47, Tryz.ntmps47
    go_wp2
    go_ret; rw [H.out]; simp; omega
theorem from_any (a n b : Int) (w : World) : Calls Tryz.prog 16 #[a, n, b] w fun e w' => e = .returned (.bool (inB a n b)) ∧ w = w' := by
  have hb : inB a n b = (decide (a ≤ n) && decide (n ≤ b)) := rfl
  have H := hide hb
  clear hb
  by_cases h1 : a ≤ n
  · go_enter Tryz.func16, Tryz.ntmps16
    go_wp2
    all_goals go_ret; rw [H.out]; simp [*]; try omega
  · go_enter Tryz.func16, Tryz.ntmps16
    go_wp2
    go_ret; rw [H.out]; simp; omega

set_option maxHeartbeats 1000000 in
theorem validRoll_any (id grade colour lot made width len : Int) (A : Option Addr) (c : Nat) (fs : List Pt) (w : World) (hS : Slc Pt.enc 2 w w.heap.size A fs) (hlen : fs.length ≤ 100000) :
    Calls Tryz.prog 45 #[.agg #[id, grade, colour, lot, made, width, len, .slice A fs.length c]] w fun e w' =>
      e = .returned (.bool (validRoll ⟨id, grade, colour, lot, made, width, len, fs⟩)) ∧ Below w.heap.size w w' := by
  cases h0 : inB 1 id 1000000000
  · go_enter Tryz.func45, Tryz.ntmps45
    go_wp2_with (go_at_call 47; refine (within_any _ _ _ _).mono ?_; rintro e w' ⟨rfl, rfl⟩)
    go_ret
    exact ⟨ret_bool (by simp [validRoll, h0]), (Below.refl _ _).alloc (Nat.le_refl _) _⟩
  cases h1 : inB 1 grade 3
  · go_enter Tryz.func45, Tryz.ntmps45
    go_wp2_with (go_at_call 47; refine (within_any _ _ _ _).mono ?_; rintro e w' ⟨rfl, rfl⟩)
    go_ret
    exact ⟨ret_bool (by simp [validRoll, h0, h1]), (Below.refl _ _).alloc (Nat.le_refl _) _⟩
  cases h2 : inB 1 colour 7
  · go_enter Tryz.func45, Tryz.ntmps45
    go_wp2_with (go_at_call 47; refine (within_any _ _ _ _).mono ?_; rintro e w' ⟨rfl, rfl⟩)
    go_ret
    exact ⟨ret_bool (by simp [validRoll, h0, h1, h2]), (Below.refl _ _).alloc (Nat.le_refl _) _⟩
  cases h3 : inB 1 lot 1000000000
  · go_enter Tryz.func45, Tryz.ntmps45
    go_wp2_with (go_at_call 47; refine (within_any _ _ _ _).mono ?_; rintro e w' ⟨rfl, rfl⟩)
    go_ret
    exact ⟨ret_bool (by simp [validRoll, h0, h1, h2, h3]), (Below.refl _ _).alloc (Nat.le_refl _) _⟩
  cases h4 : inB 0 made 100000
  · go_enter Tryz.func45, Tryz.ntmps45
    go_wp2_with (go_at_call 47; refine (within_any _ _ _ _).mono ?_; rintro e w' ⟨rfl, rfl⟩)
    go_ret
    exact ⟨ret_bool (by simp [validRoll, h0, h1, h2, h3, h4]), (Below.refl _ _).alloc (Nat.le_refl _) _⟩
  cases h5 : inB 1 width 150
  · go_enter Tryz.func45, Tryz.ntmps45
    go_wp2_with (go_at_call 47; refine (within_any _ _ _ _).mono ?_; rintro e w' ⟨rfl, rfl⟩)
    go_ret
    exact ⟨ret_bool (by simp [validRoll, h0, h1, h2, h3, h4, h5]), (Below.refl _ _).alloc (Nat.le_refl _) _⟩
  cases h6 : inB 1 len 6000
  · go_enter Tryz.func45, Tryz.ntmps45
    go_wp2_with (go_at_call 47; refine (within_any _ _ _ _).mono ?_; rintro e w' ⟨rfl, rfl⟩)
    go_ret
    exact ⟨ret_bool (by simp [validRoll, h0, h1, h2, h3, h4, h5, h6]), (Below.refl _ _).alloc (Nat.le_refl _) _⟩
  by_cases h7 : 16 < fs.length
  · go_enter Tryz.func45, Tryz.ntmps45
    go_wp2_with (go_at_call 47; refine (within_any _ _ _ _).mono ?_; rintro e w' ⟨rfl, rfl⟩)
    go_ret
    exact ⟨ret_bool (by simp [validRoll]; omega), (Below.refl _ _).alloc (Nat.le_refl _) _⟩
  have hv : validRoll ⟨id, grade, colour, lot, made, width, len, fs⟩ = spansOk len 0 fs := by simp [validRoll, h0, h1, h2, h3, h4, h5, h6]; omega
  have HV := hide hv
  clear hv
  go_enter Tryz.func45, Tryz.ntmps45
  go_wp2_with (go_at_call 47; refine (within_any _ _ _ _).mono ?_; rintro e w' ⟨rfl, rfl⟩)
  go_loopw [3, 43] (fun a i wr => ∃ (last : Int) (k : Nat), k ≤ fs.length ∧ a = .int .i64 last ∧ i = .int .i64 k ∧ spansOk len 0 fs = spansOk len last (fs.drop k) ∧ Blk wr w.heap.size 43 #[id, grade, colour, lot, made, width, len, .slice A fs.length c] ∧ Below w.heap.size w wr) (fun _ i _ => (fs.length - (intOf i).toNat))
  case atStart => exact ⟨0, 0, Nat.zero_le _, rfl, rfl, rfl, Blk.new _ _ _, (Below.refl _ _).alloc (Nat.le_refl _) _⟩
  case round =>
    obtain ⟨last, k, hk, rfl, rfl, hs, hblk, hbel⟩ := hrel
    have HS := hide hs
    clear hs
    by_cases hlt : k < fs.length
    · obtain ⟨f, t, bb, off, hx, rfl, hb, c0, c1⟩ := pts_at (hS.below hbel) hlt
      have HX := hide hx
      clear hx
      have hc6 := hblk.cell_ 6 rfl
      have hz := hblk.lt
      go_wp2
      all_goals first
        | (go_ret; exact ⟨ret_bool (by rw [HV.out, HS.out]; exact (spansOk_bad HX.out (by omega)).symm), hbel.alloc hbel.size _⟩)
        | (go_roundw
           case rel => exact ⟨t, k + 1, by omega, rfl, by go_num, by rw [HS.out]; exact spansOk_good HX.out (by omega), hblk.alloc _, hbel.alloc hbel.size _⟩
           case measure => simp [intOf]; omega)
    · obtain rfl : k = fs.length := by omega
      go_wp2
      go_ret
      exact ⟨ret_bool (by rw [HV.out, HS.out]; simp [spansOk]), hbel⟩
end Go.Proofs.YtehlbomkldnalaaGreat

/- Valid rules: the walks of both texts. -/
namespace Go.Proofs.YtehlbomkldnalaaGreat
open Go.RowKit
set_option maxHeartbeats 1000000 in
theorem validRules_any (mw ml l0 l1 l2 : Int) (w : World) :
  Calls Tryz.prog 15 #[.agg #[mw, ml, l0, l1, l2]] w fun e w' => e = .returned (.bool (validRules ⟨mw, ml, l0, l1, l2⟩)) ∧ Below w.heap.size w w' := by
 have i0 : ∀ w, (Instr.index 22 (.agg #[l0, l1, l2]) (.int .i64 0)).run Tryz.prog w = .ok (.int .i64 l0) w := fun _ => by kernel_rfl
 have i1 : ∀ w, (Instr.index 22 (.agg #[l0, l1, l2]) (.int .i64 1)).run Tryz.prog w = .ok (.int .i64 l1) w := fun _ => by kernel_rfl
 have i2 : ∀ w, (Instr.index 22 (.agg #[l0, l1, l2]) (.int .i64 2)).run Tryz.prog w = .ok (.int .i64 l2) w := fun _ => by kernel_rfl
 have HV : Hid (validRules ⟨mw, ml, l0, l1, l2⟩ = (inB 0 l0 100000 && inB 0 l1 100000 && inB 0 l2 100000 && inB 1 mw 1000 && inB 1 ml 1000)) := rfl
 cases h0 : inB 0 l0 100000
 ·go_enter Tryz.func15, Tryz.ntmps15
  go_wp2
  refine wp_loop_rounds 4 ?_
  rw [rounds_succ]
  go_wp2_with (go_at_call 47; refine (within_any _ _ _ _).mono ?_; rintro e w' ⟨rfl, rfl⟩)
  go_ret
  exact ⟨ret_bool (by rw [HV.out]; simp [h0]), (Below.refl _ _).alloc (Nat.le_refl _) _⟩
 cases h1 : inB 0 l1 100000
 ·go_enter Tryz.func15, Tryz.ntmps15
  go_wp2
  refine wp_loop_rounds 4 ?_
  rw [rounds_succ]
  go_wp2_with (go_at_call 47; refine (within_any _ _ _ _).mono ?_; rintro e w' ⟨rfl, rfl⟩)
  rw [rounds_succ]
  go_wp2_with (go_at_call 47; refine (within_any _ _ _ _).mono ?_; rintro e w' ⟨rfl, rfl⟩)
  go_ret
  exact ⟨ret_bool (by rw [HV.out]; simp [h0, h1]), (Below.refl _ _).alloc (Nat.le_refl _) _⟩
 cases h2 : inB 0 l2 100000
 ·go_enter Tryz.func15, Tryz.ntmps15
  go_wp2
  refine wp_loop_rounds 4 ?_
  rw [rounds_succ]
  go_wp2_with (go_at_call 47; refine (within_any _ _ _ _).mono ?_; rintro e w' ⟨rfl, rfl⟩)
  rw [rounds_succ]
  go_wp2_with (go_at_call 47; refine (within_any _ _ _ _).mono ?_; rintro e w' ⟨rfl, rfl⟩)
  rw [rounds_succ]
  go_wp2_with (go_at_call 47; refine (within_any _ _ _ _).mono ?_; rintro e w' ⟨rfl, rfl⟩)
  go_ret
  exact ⟨ret_bool (by rw [HV.out]; simp [h0, h1, h2]), (Below.refl _ _).alloc (Nat.le_refl _) _⟩
 cases h3 : inB 1 mw 1000
 ·go_enter Tryz.func15, Tryz.ntmps15
  go_wp2
  refine wp_loop_rounds 4 ?_
  rw [rounds_succ]
  go_wp2_with (go_at_call 47; refine (within_any _ _ _ _).mono ?_; rintro e w' ⟨rfl, rfl⟩)
  rw [rounds_succ]
  go_wp2_with (go_at_call 47; refine (within_any _ _ _ _).mono ?_; rintro e w' ⟨rfl, rfl⟩)
  rw [rounds_succ]
  go_wp2_with (go_at_call 47; refine (within_any _ _ _ _).mono ?_; rintro e w' ⟨rfl, rfl⟩)
  rw [rounds_succ]
  go_wp2_with (go_at_call 47; refine (within_any _ _ _ _).mono ?_; rintro e w' ⟨rfl, rfl⟩)
  go_ret
  exact ⟨ret_bool (by rw [HV.out]; simp [h0, h1, h2, h3]), (Below.refl _ _).alloc (Nat.le_refl _) _⟩
 cases h4 : inB 1 ml 1000
 ·go_enter Tryz.func15, Tryz.ntmps15
  go_wp2
  refine wp_loop_rounds 4 ?_
  rw [rounds_succ]
  go_wp2_with (go_at_call 47; refine (within_any _ _ _ _).mono ?_; rintro e w' ⟨rfl, rfl⟩)
  rw [rounds_succ]
  go_wp2_with (go_at_call 47; refine (within_any _ _ _ _).mono ?_; rintro e w' ⟨rfl, rfl⟩)
  rw [rounds_succ]
  go_wp2_with (go_at_call 47; refine (within_any _ _ _ _).mono ?_; rintro e w' ⟨rfl, rfl⟩)
  rw [rounds_succ]
  go_wp2_with (go_at_call 47; refine (within_any _ _ _ _).mono ?_; rintro e w' ⟨rfl, rfl⟩)
  go_ret
  exact ⟨ret_bool (by rw [HV.out]; simp [h0, h1, h2, h3, h4]), (Below.refl _ _).alloc (Nat.le_refl _) _⟩
 ·go_enter Tryz.func15, Tryz.ntmps15
  go_wp2
  refine wp_loop_rounds 4 ?_
  rw [rounds_succ]
  go_wp2_with (go_at_call 47; refine (within_any _ _ _ _).mono ?_; rintro e w' ⟨rfl, rfl⟩)
  rw [rounds_succ]
  go_wp2_with (go_at_call 47; refine (within_any _ _ _ _).mono ?_; rintro e w' ⟨rfl, rfl⟩)
  rw [rounds_succ]
  go_wp2_with (go_at_call 47; refine (within_any _ _ _ _).mono ?_; rintro e w' ⟨rfl, rfl⟩)
  rw [rounds_succ]
  go_wp2_with (go_at_call 47; refine (within_any _ _ _ _).mono ?_; rintro e w' ⟨rfl, rfl⟩)
  go_ret
  exact ⟨ret_bool (by rw [HV.out]; simp [h0, h1, h2, h3, h4]), (Below.refl _ _).alloc (Nat.le_refl _) _⟩
set_option maxHeartbeats 1000000 in
theorem refValidRules_any (mw ml l0 l1 l2 : Int) (w : World) :
  Calls Tryz.prog 8 #[.agg #[mw, ml, l0, l1, l2]] w fun e w' => e = .returned (.bool (validRules ⟨mw, ml, l0, l1, l2⟩)) ∧ Below w.heap.size w w' := by
 have HV : Hid (validRules ⟨mw, ml, l0, l1, l2⟩ = (inB 0 l0 100000 && inB 0 l1 100000 && inB 0 l2 100000 && inB 1 mw 1000 && inB 1 ml 1000)) := rfl
 cases h0 : inB 0 l0 100000
 ·go_enter Tryz.func8, Tryz.ntmps8
  go_wp2
  refine wp_loop_rounds 4 ?_
  rw [rounds_succ]
  go_wp2_with (go_at_call 16; refine (from_any _ _ _ _).mono ?_; rintro e w' ⟨rfl, rfl⟩)
  go_ret
  exact ⟨ret_bool (by rw [HV.out]; simp [h0]), (Below.refl _ _).alloc (Nat.le_refl _) _⟩
 cases h1 : inB 0 l1 100000
 ·go_enter Tryz.func8, Tryz.ntmps8
  go_wp2
  refine wp_loop_rounds 4 ?_
  rw [rounds_succ]
  go_wp2_with (go_at_call 16; refine (from_any _ _ _ _).mono ?_; rintro e w' ⟨rfl, rfl⟩)
  rw [rounds_succ]
  go_wp2_with (go_at_call 16; refine (from_any _ _ _ _).mono ?_; rintro e w' ⟨rfl, rfl⟩)
  go_ret
  exact ⟨ret_bool (by rw [HV.out]; simp [h0, h1]), (Below.refl _ _).alloc (Nat.le_refl _) _⟩
 cases h2 : inB 0 l2 100000
 ·go_enter Tryz.func8, Tryz.ntmps8
  go_wp2
  refine wp_loop_rounds 4 ?_
  rw [rounds_succ]
  go_wp2_with (go_at_call 16; refine (from_any _ _ _ _).mono ?_; rintro e w' ⟨rfl, rfl⟩)
  rw [rounds_succ]
  go_wp2_with (go_at_call 16; refine (from_any _ _ _ _).mono ?_; rintro e w' ⟨rfl, rfl⟩)
  rw [rounds_succ]
  go_wp2_with (go_at_call 16; refine (from_any _ _ _ _).mono ?_; rintro e w' ⟨rfl, rfl⟩)
  go_ret
  exact ⟨ret_bool (by rw [HV.out]; simp [h0, h1, h2]), (Below.refl _ _).alloc (Nat.le_refl _) _⟩
 cases h3 : inB 1 mw 1000
 ·go_enter Tryz.func8, Tryz.ntmps8
  go_wp2
  refine wp_loop_rounds 4 ?_
  rw [rounds_succ]
  go_wp2_with (go_at_call 16; refine (from_any _ _ _ _).mono ?_; rintro e w' ⟨rfl, rfl⟩)
  rw [rounds_succ]
  go_wp2_with (go_at_call 16; refine (from_any _ _ _ _).mono ?_; rintro e w' ⟨rfl, rfl⟩)
  rw [rounds_succ]
  go_wp2_with (go_at_call 16; refine (from_any _ _ _ _).mono ?_; rintro e w' ⟨rfl, rfl⟩)
  rw [rounds_succ]
  go_wp2_with (go_at_call 16; refine (from_any _ _ _ _).mono ?_; rintro e w' ⟨rfl, rfl⟩)
  go_ret
  exact ⟨ret_bool (by rw [HV.out]; simp [h0, h1, h2, h3]), (Below.refl _ _).alloc (Nat.le_refl _) _⟩
 cases h4 : inB 1 ml 1000
 ·go_enter Tryz.func8, Tryz.ntmps8
  go_wp2
  refine wp_loop_rounds 4 ?_
  rw [rounds_succ]
  go_wp2_with (go_at_call 16; refine (from_any _ _ _ _).mono ?_; rintro e w' ⟨rfl, rfl⟩)
  rw [rounds_succ]
  go_wp2_with (go_at_call 16; refine (from_any _ _ _ _).mono ?_; rintro e w' ⟨rfl, rfl⟩)
  rw [rounds_succ]
  go_wp2_with (go_at_call 16; refine (from_any _ _ _ _).mono ?_; rintro e w' ⟨rfl, rfl⟩)
  rw [rounds_succ]
  go_wp2_with (go_at_call 16; refine (from_any _ _ _ _).mono ?_; rintro e w' ⟨rfl, rfl⟩)
  go_ret
  exact ⟨ret_bool (by rw [HV.out]; simp [h0, h1, h2, h3, h4]), (Below.refl _ _).alloc (Nat.le_refl _) _⟩
 ·go_enter Tryz.func8, Tryz.ntmps8
  go_wp2
  refine wp_loop_rounds 4 ?_
  rw [rounds_succ]
  go_wp2_with (go_at_call 16; refine (from_any _ _ _ _).mono ?_; rintro e w' ⟨rfl, rfl⟩)
  rw [rounds_succ]
  go_wp2_with (go_at_call 16; refine (from_any _ _ _ _).mono ?_; rintro e w' ⟨rfl, rfl⟩)
  rw [rounds_succ]
  go_wp2_with (go_at_call 16; refine (from_any _ _ _ _).mono ?_; rintro e w' ⟨rfl, rfl⟩)
  rw [rounds_succ]
  go_wp2_with (go_at_call 16; refine (from_any _ _ _ _).mono ?_; rintro e w' ⟨rfl, rfl⟩)
  go_ret
  exact ⟨ret_bool (by rw [HV.out]; simp [h0, h1, h2, h3, h4]), (Below.refl _ _).alloc (Nat.le_refl _) _⟩
end Go.Proofs.YtehlbomkldnalaaGreat

/- Clear of package sheet: the walk. -/
namespace Go.Proofs.YtehlbomkldnalaaGreat
open Go.RowKit

/-- the outer loop's state -/
def ClearAt (l : Int) (fs : List Pt) (n p : Int) (g : Bool) : Prop :=
 0 ≤ p ∧ p ≤ l - n ∧ (∀ q, 0 ≤ q → q < p → freeB fs q n = false) ∧ (g = false → freeB fs p n = true)
/-- the inner loop's state: it began at p0 -/
def ClearIn (l : Int) (fs : List Pt) (n p0 p : Int) (g : Bool) (k : Nat) : Prop :=
 p0 ≤ p ∧ p ≤ l - n ∧ (∀ q, 0 ≤ q → q < p → freeB fs q n = false) ∧ (g = false → p = p0 ∧ ∀ (i : Nat) f, i < k → fs[i]? = some f → ¬ hits f p n) ∧ (g = true → p0 < p)
theorem ClearIn.start {l : Int} {fs : List Pt} {n p : Int} (h : ClearAt l fs n p true) : ClearIn l fs n p p false 0 :=
 ⟨Int.le_refl _, h.2.1, h.2.2.1, fun _ => ⟨rfl, fun i f hi => absurd hi (by omega)⟩, fun h => by cases h⟩
theorem ClearIn.skip {l : Int} {fs : List Pt} {n p0 p : Int} {g : Bool} {k : Nat} {f : Pt} (h : ClearIn l fs n p0 p g k) (hf : fs[k]? = some f) (hn : ¬ hits f p n) : ClearIn l fs n p0 p g (k + 1) :=
 ⟨h.1, h.2.1, h.2.2.1, fun e => ⟨(h.2.2.2.1 e).1, fun i f' hi hf' => by
  by_cases hik : i = k
  ·subst hik; rw [hf] at hf'; injection hf' with hf'; subst hf'; exact hn
  ·exact (h.2.2.2.1 e).2 i f' (by omega) hf'⟩, h.2.2.2.2⟩
theorem ClearIn.jump_low {l : Int} {fs : List Pt} {n p0 p : Int} {g : Bool} {k : Nat} {f : Pt} (h : ClearIn l fs n p0 p g k) (hf : fs[k]? = some f) (hh : hits f p n) : ∀ q, 0 ≤ q → q < f.b → freeB fs q n = false := by
 intro q h0 hq
 by_cases hqp : q < p
 ·exact h.2.2.1 q h0 hqp
 ·exact not_free hf ⟨hh.1, by have := hh.2.1; omega, hq⟩
theorem ClearIn.jump {l : Int} {fs : List Pt} {n p0 p : Int} {g : Bool} {k : Nat} {f : Pt} (h : ClearIn l fs n p0 p g k) (hf : fs[k]? = some f) (hh : hits f p n) (hl : f.b ≤ l - n) : ClearIn l fs n p0 f.b true (k + 1) :=
 ⟨by have := h.1; have := hh.2.2; omega, hl, h.jump_low hf hh, fun e => by (cases e), fun _ => by have := h.1; have := hh.2.2; omega⟩
theorem ClearIn.fin {l : Int} {fs : List Pt} {n p0 p : Int} {g : Bool} (h0 : 0 ≤ p0) (h : ClearIn l fs n p0 p g fs.length) : ClearAt l fs n p g :=
 ⟨by have := h.1; omega, h.2.1, h.2.2.1, fun e => free_of fun i f hf => (h.2.2.2.1 e).2 i f (by
  have := (List.getElem?_eq_some_iff.1 hf).1; exact this) hf⟩
theorem ClearIn.lt {l : Int} {fs : List Pt} {n p0 p : Int} {g : Bool} {k : Nat} (h : ClearIn l fs n p0 p g k) : (2 * (l - n - p) + if g then 1 else 0).toNat < (2 * (l - n - p0) + 1).toNat := by
 obtain ⟨h1, h2, _, h4, h5⟩ := h
 cases g
 ·have := (h4 rfl).1; simp; omega
 ·have := h5 rfl; simp; omega

set_option maxHeartbeats 1000000 in
theorem clear_any (l n : Int) (A : Option Addr) (c : Nat) (fs : List Pt) (w : World) (hl : l ≤ 9223372036854775807) (hlen : fs.length ≤ 100000) (hS : Slc Pt.enc 2 w w.heap.size A fs) :
  Calls Tryz.prog 12 #[l, .slice A fs.length c, n] w fun e w' => e = .returned (clearVal l fs n) ∧ Below w.heap.size w w' := by
 by_cases h1 : n < 1
 ·go_enter Tryz.func12, Tryz.ntmps12
  go_wp2
  go_ret2
  exact ⟨clear_none_val (.inl h1), Below.refl _ _⟩
 by_cases h2 : l < n
 ·go_enter Tryz.func12, Tryz.ntmps12
  go_wp2
  go_ret2
  exact ⟨clear_none_val (.inr (.inl h2)), Below.refl _ _⟩
 go_enter Tryz.func12, Tryz.ntmps12
 go_wp2
 go_loopw [8, 9] (fun a g w1 => ∃ (p : Int) (b : Bool), a = .int .i64 p ∧ g = .bool b ∧ ClearAt l fs n p b ∧ Below w.heap.size w w1) (fun a g _ => (2 * (l - n - intOf a) + match g with | .bool true => 1 | _ => 0).toNat)
 case atStart => exact ⟨0, true, rfl, rfl, ⟨by omega, by omega, fun q h0 h => by omega, fun h => by cases h⟩, Below.refl _ _⟩
 case round =>
  obtain ⟨p0, b, rfl, rfl, hat, hbel⟩ := hrel
  have hp0 := hat.1
  have hp1 := hat.2.1
  cases b
  ·go_wp2
   go_ret2
   exact ⟨clear_some_val ⟨by omega, hat.1, hat.2.1, hat.2.2.2 rfl, hat.2.2.1⟩, hbel⟩
  ·obtain ⟨wo, rfl⟩ := is_ wr
   go_wp2
   go_loopw [8, 9, 22] (fun a g i w2 => ∃ (p : Int) (b : Bool) (k : Nat), k ≤ fs.length ∧ a = .int .i64 p ∧ g = .bool b ∧ i = .int .i64 k ∧ ClearIn l fs n p0 p b k ∧ Below w.heap.size w w2) (fun _ _ i _ => (fs.length - (intOf i).toNat))
   case atStart => exact ⟨p0, false, 0, Nat.zero_le _, rfl, rfl, rfl, ClearIn.start hat, hbel⟩
   case round =>
    obtain ⟨p, b, k, hk, rfl, rfl, rfl, hin, hbel'⟩ := hrel
    have hp2 := hin.1
    have hp3 := hin.2.1
    by_cases hlt : k < fs.length
    ·obtain ⟨f, t, bb, off, hx, rfl, hb, c0, c1⟩ := pts_at (hS.below hbel') hlt
     have HX := hide hx
     clear hx
     go_wp2
     ·go_ret2
      have hh : hits ⟨f, t⟩ p n := ⟨‹_›, ‹_›, ‹_›⟩
      have hlt' : l - n < t := ‹_›
      exact ⟨clear_none_val (.inr (.inr fun q h0 hq => hin.jump_low HX.out hh q h0 (by simp; omega))), hbel'.alloc hbel'.size _⟩
     ·have hh : hits ⟨f, t⟩ p n := ⟨‹_›, ‹_›, ‹_›⟩
      have hge : t ≤ l - n := ‹_›
      go_roundw
      case rel => exact ⟨t, true, k + 1, by omega, rfl, rfl, by go_num, hin.jump HX.out hh hge, hbel'.alloc hbel'.size _⟩
      case measure => simp [intOf]; omega
     all_goals
      have hh : ¬ hits ⟨f, t⟩ p n := by unfold hits; simp; omega
      go_roundw
      case rel => exact ⟨p, b, k + 1, by omega, rfl, rfl, by go_num, hin.skip HX.out hh, hbel'.alloc hbel'.size _⟩
      case measure => simp [intOf]; omega
    ·obtain rfl : k = fs.length := by omega
     go_wp2
     go_roundw
     case rel => exact ⟨p, b, rfl, rfl, hin.fin hp0, hbel'⟩
     case measure => have := hin.lt; cases b <;> simpa [intOf] using this
end Go.Proofs.YtehlbomkldnalaaGreat

/- Valid rolls: the walk of the specification's text; 'measures', 'free', 'hit'. -/
namespace Go.Proofs.YtehlbomkldnalaaGreat
open Go.RowKit
def measB (g c w l : Int) : Bool := inB 1 g 3 && inB 1 c 7 && inB 1 w 150 && inB 1 l 6000
theorem measures_any (g c x l : Int) (w : World) : Calls Tryz.prog 73 #[g, c, x, l] w fun e w' => e = .returned (.bool (measB g c x l)) ∧ w = w' := by
  have HV : Hid (measB g c x l = (inB 1 g 3 && inB 1 c 7 && inB 1 x 150 && inB 1 l 6000)) := rfl
  cases h0 : inB 1 g 3
  · go_enter Tryz.func73, Tryz.ntmps73
    go_wp2_with (go_at_call 16; refine (from_any _ _ _ _).mono ?_; rintro e w' ⟨rfl, rfl⟩)
    go_ret
    exact ⟨ret_bool (by rw [HV.out]; simp [h0]), rfl⟩
  cases h1 : inB 1 c 7
  · go_enter Tryz.func73, Tryz.ntmps73
    go_wp2_with (go_at_call 16; refine (from_any _ _ _ _).mono ?_; rintro e w' ⟨rfl, rfl⟩)
    go_ret
    exact ⟨ret_bool (by rw [HV.out]; simp [h0, h1]), rfl⟩
  cases h2 : inB 1 x 150
  · go_enter Tryz.func73, Tryz.ntmps73
    go_wp2_with (go_at_call 16; refine (from_any _ _ _ _).mono ?_; rintro e w' ⟨rfl, rfl⟩)
    go_ret
    exact ⟨ret_bool (by rw [HV.out]; simp [h0, h1, h2]), rfl⟩
  cases h3 : inB 1 l 6000
  · go_enter Tryz.func73, Tryz.ntmps73
    go_wp2_with (go_at_call 16; refine (from_any _ _ _ _).mono ?_; rintro e w' ⟨rfl, rfl⟩)
    go_ret
    exact ⟨ret_bool (by rw [HV.out]; simp [h0, h1, h2, h3]), rfl⟩
  go_enter Tryz.func73, Tryz.ntmps73
  go_wp2_with (go_at_call 16; refine (from_any _ _ _ _).mono ?_; rintro e w' ⟨rfl, rfl⟩)
  go_ret
  exact ⟨ret_bool (by rw [HV.out]; simp [h0, h1, h2, h3]), rfl⟩

set_option maxHeartbeats 2000000 in
theorem refValidRoll_any (id grade colour lot made width len : Int) (A : Option Addr) (c : Nat) (fs : List Pt) (w : World) (hS : Slc Pt.enc 2 w w.heap.size A fs) (hlen : fs.length ≤ 100000) :
    Calls Tryz.prog 48 #[.agg #[id, grade, colour, lot, made, width, len, .slice A fs.length c]] w fun e w' =>
      e = .returned (.bool (validRoll ⟨id, grade, colour, lot, made, width, len, fs⟩)) ∧ Below w.heap.size w w' := by
  have HW : Hid (validRoll ⟨id, grade, colour, lot, made, width, len, fs⟩ = (inB 1 id 1000000000 && inB 1 lot 1000000000 && inB 0 made 100000 && measB grade colour width len && decide (fs.length ≤ 16) && spansOk len 0 fs)) := by
    show _ = _
    unfold validRoll measB
    simp only
    generalize inB 1 id 1000000000 = b0, inB 1 lot 1000000000 = b1, inB 0 made 100000 = b2, inB 1 grade 3 = b3, inB 1 colour 7 = b4, inB 1 width 150 = b5, inB 1 len 6000 = b6
    cases b0 <;> cases b1 <;> cases b2 <;> cases b3 <;> cases b4 <;> cases b5 <;> cases b6 <;> rfl
  cases h0 : inB 1 id 1000000000
  · go_enter Tryz.func48, Tryz.ntmps48
    go_wp2_with (first | (go_at_call 16; refine (from_any _ _ _ _).mono ?_; rintro e w' ⟨rfl, rfl⟩) | (go_at_call 73; refine (measures_any _ _ _ _ _).mono ?_; rintro e w' ⟨rfl, rfl⟩))
    go_ret
    exact ⟨ret_bool (by rw [HW.out]; simp [h0]), (Below.refl _ _).alloc (Nat.le_refl _) _⟩
  cases h1 : inB 1 lot 1000000000
  · go_enter Tryz.func48, Tryz.ntmps48
    go_wp2_with (first | (go_at_call 16; refine (from_any _ _ _ _).mono ?_; rintro e w' ⟨rfl, rfl⟩) | (go_at_call 73; refine (measures_any _ _ _ _ _).mono ?_; rintro e w' ⟨rfl, rfl⟩))
    go_ret
    exact ⟨ret_bool (by rw [HW.out]; simp [h0, h1]), (Below.refl _ _).alloc (Nat.le_refl _) _⟩
  cases h2 : inB 0 made 100000
  · go_enter Tryz.func48, Tryz.ntmps48
    go_wp2_with (first | (go_at_call 16; refine (from_any _ _ _ _).mono ?_; rintro e w' ⟨rfl, rfl⟩) | (go_at_call 73; refine (measures_any _ _ _ _ _).mono ?_; rintro e w' ⟨rfl, rfl⟩))
    go_ret
    exact ⟨ret_bool (by rw [HW.out]; simp [h0, h1, h2]), (Below.refl _ _).alloc (Nat.le_refl _) _⟩
  cases h3 : measB grade colour width len
  · go_enter Tryz.func48, Tryz.ntmps48
    go_wp2_with (first | (go_at_call 16; refine (from_any _ _ _ _).mono ?_; rintro e w' ⟨rfl, rfl⟩) | (go_at_call 73; refine (measures_any _ _ _ _ _).mono ?_; rintro e w' ⟨rfl, rfl⟩))
    go_ret
    exact ⟨ret_bool (by rw [HW.out]; simp [h0, h1, h2, h3]), (Below.refl _ _).alloc (Nat.le_refl _) _⟩
  by_cases h7 : 16 < fs.length
  · go_enter Tryz.func48, Tryz.ntmps48
    go_wp2_with (first | (go_at_call 16; refine (from_any _ _ _ _).mono ?_; rintro e w' ⟨rfl, rfl⟩) | (go_at_call 73; refine (measures_any _ _ _ _ _).mono ?_; rintro e w' ⟨rfl, rfl⟩))
    go_ret
    exact ⟨ret_bool (by rw [HW.out]; simp; omega), (Below.refl _ _).alloc (Nat.le_refl _) _⟩
  have hv : validRoll ⟨id, grade, colour, lot, made, width, len, fs⟩ = spansOk len 0 fs := by rw [HW.out, h0, h1, h2, h3]; simp; omega
  have HV := hide hv
  clear hv
  go_enter Tryz.func48, Tryz.ntmps48
  go_wp2_with (first | (go_at_call 16; refine (from_any _ _ _ _).mono ?_; rintro e w' ⟨rfl, rfl⟩) | (go_at_call 73; refine (measures_any _ _ _ _ _).mono ?_; rintro e w' ⟨rfl, rfl⟩))
  go_loopw [3, 4] (fun a i wr => ∃ (last : Int) (k : Nat), k ≤ fs.length ∧ a = .int .i64 last ∧ i = .int .i64 k ∧ spansOk len 0 fs = spansOk len last (fs.drop k) ∧ Blk wr w.heap.size 43 #[id, grade, colour, lot, made, width, len, .slice A fs.length c] ∧ Below w.heap.size w wr) (fun _ i _ => (fs.length - (intOf i).toNat))
  case atStart => exact ⟨0, 0, Nat.zero_le _, rfl, rfl, rfl, Blk.new _ _ _, (Below.refl _ _).alloc (Nat.le_refl _) _⟩
  case round =>
    obtain ⟨last, k, hk, rfl, rfl, hs, hblk, hbel⟩ := hrel
    have HS := hide hs
    clear hs
    have hc7 := hblk.cell_ 7 rfl
    by_cases hlt : k < fs.length
    · obtain ⟨f, t, bb, off, hx, rfl, hb, c0, c1⟩ := pts_at (hS.below hbel) hlt
      have HX := hide hx
      clear hx
      have hc6 := hblk.cell_ 6 rfl
      have hz := hblk.lt
      go_wp2
      all_goals first
        | (go_ret; exact ⟨ret_bool (by rw [HV.out, HS.out]; exact (spansOk_bad HX.out (by omega)).symm), hbel.alloc hbel.size _⟩)
        | (go_roundw
           case rel => exact ⟨t, k + 1, by omega, rfl, by go_num, by rw [HS.out]; exact spansOk_good HX.out (by omega), hblk.alloc _, hbel.alloc hbel.size _⟩
           case measure => simp [intOf]; omega)
    · obtain rfl : k = fs.length := by omega
      go_wp2
      go_ret
      exact ⟨ret_bool (by rw [HV.out, HS.out]; simp [spansOk]), hbel⟩

set_option maxHeartbeats 1000000 in
theorem free_any (p n : Int) (A : Option Addr) (c : Nat) (fs : List Pt) (w : World) (hp : 0 ≤ p) (hp' : p ≤ 9223372036854775807) (hn : 1 ≤ n) (hlen : fs.length ≤ 100000) (hS : Slc Pt.enc 2 w w.heap.size A fs) (hI : ∀ x ∈ fs, -9223372036854775808 ≤ x.a ∧ x.a ≤ 9223372036854775807) :
    Calls Tryz.prog 120 #[p, n, .slice A fs.length c] w fun e w' => e = .returned (.bool (freeB fs p n)) ∧ Below w.heap.size w w' := by
  go_enter Tryz.func120, Tryz.ntmps120
  go_wp2
  go_loopw [7] (fun i wr => ∃ k : Nat, k ≤ fs.length ∧ i = .int .i64 k ∧ (∀ (j : Nat) f, j < k → fs[j]? = some f → ¬ hits f p n) ∧ Below w.heap.size w wr) (fun i _ => (fs.length - (intOf i).toNat))
  case atStart => exact ⟨0, Nat.zero_le _, rfl, fun j f h => by omega, Below.refl _ _⟩
  case round =>
    obtain ⟨k, hk, rfl, hs, hbel⟩ := hrel
    have HS := hide hs
    clear hs
    by_cases hlt : k < fs.length
    · obtain ⟨f, t, bb, off, hx, rfl, hb, c0, c1⟩ := pts_at (hS.below hbel) hlt
      have HX := hide hx
      have hf := hI _ (List.mem_of_getElem? hx)
      simp only at hf
      obtain ⟨hf0, hf1⟩ := hf
      have HI := hide hI
      clear hx hI
      by_cases hf2 : f < 0
      all_goals
        go_wp2
        all_goals first
          | (go_ret; exact ⟨ret_bool (not_free HX.out ⟨by simp; omega, by simp; omega, by simp; omega⟩).symm, hbel.alloc hbel.size _⟩)
          | (go_roundw
             case rel => exact ⟨k + 1, by omega, by go_num, fun j f' hj hf' => by
               by_cases hjk : j = k
               · subst hjk; have := HX.out.symm.trans hf'; injection this with this; subst this; unfold hits; simp; omega
               · exact HS.out j f' (by omega) hf', hbel.alloc hbel.size _⟩
             case measure => simp [intOf]; omega)
    · obtain rfl : k = fs.length := by omega
      go_wp2
      go_ret
      exact ⟨ret_bool (free_of fun i f hf => HS.out i f (List.getElem?_eq_some_iff.1 hf).1 hf).symm, hbel⟩
end Go.Proofs.YtehlbomkldnalaaGreat

/- Clear of the specification: the walk and the plain law. -/
namespace Go.Proofs.YtehlbomkldnalaaGreat
open Go.RowKit

theorem least_free {fs : List Pt} {n : Int} : ∀ (k : Nat) (q : Int), q = k → freeB fs q n = true → ∃ c : Int, 0 ≤ c ∧ c ≤ q ∧ freeB fs c n = true ∧ (∀ q', 0 ≤ q' → q' < c → freeB fs q' n = false) ∧ (c = 0 ∨ ∃ (i : Nat) (f : Pt), fs[i]? = some f ∧ f.b = c)
 | 0, q, hq, hf => ⟨q, by omega, by omega, hf, fun q' h0 h1 => by omega, .inl (by omega)⟩
 | k + 1, q, hq, hf => by
  by_cases hall : ∃ q', 0 ≤ q' ∧ q' < q ∧ freeB fs q' n = true
  ·obtain ⟨q', h0, h1, h2⟩ := hall
   -- walk down
   have : ∀ (m : Nat), (m : Int) < q → freeB fs m n = true → ∃ c : Int, 0 ≤ c ∧ c ≤ m ∧ freeB fs c n = true ∧ (∀ q', 0 ≤ q' → q' < c → freeB fs q' n = false) ∧ (c = 0 ∨ ∃ (i : Nat) (f : Pt), fs[i]? = some f ∧ f.b = c) := by
    intro m
    induction m using Nat.strongRecOn with
    | _ m ih =>
     intro hm hfm
     by_cases hall : ∃ m' : Nat, m' < m ∧ freeB fs m' n = true
     ·obtain ⟨m', h3, h4⟩ := hall
      obtain ⟨c, c0, c1, c2, c3, c4⟩ := ih m' h3 (by omega) h4
      exact ⟨c, c0, by omega, c2, c3, c4⟩
     ·refine ⟨m, by omega, by omega, hfm, fun q' h0 h1 => ?_, ?_⟩
      ·obtain ⟨j, rfl⟩ := Int.eq_ofNat_of_zero_le h0
       cases hb : freeB fs (j : Int) n
       ·rfl
       ·exact absurd ⟨j, by omega, hb⟩ hall
      ·by_cases hm0 : m = 0
       ·exact .inl (by omega)
       ·right
        have hno : freeB fs ((m - 1 : Nat) : Int) n = false := by
         cases hb : freeB fs ((m - 1 : Nat) : Int) n
         ·rfl
         ·exact absurd ⟨m - 1, by omega, hb⟩ hall
        have : ¬ ∀ (i : Nat) f, fs[i]? = some f → ¬ hits f ((m - 1 : Nat) : Int) n := fun h => by rw [free_of h] at hno; cases hno
        simp only [Classical.not_forall, Classical.not_not] at this
        obtain ⟨i, f, hif, hh⟩ := this
        have hn := (freeB_iff _ _ _).1 hfm i f hif
        refine ⟨i, f, hif, ?_⟩
        unfold hits at hh hn
        omega
   obtain ⟨j, rfl⟩ := Int.eq_ofNat_of_zero_le h0
   obtain ⟨c, c0, c1, c2, c3, c4⟩ := this j h1 h2
   exact ⟨c, c0, by omega, c2, c3, c4⟩
  ·refine ⟨q, by omega, by omega, hf, fun q' h0 h1 => ?_, ?_⟩
   ·cases hb : freeB fs q' n
    ·rfl
    ·exact absurd ⟨q', h0, h1, hb⟩ hall
   ·right
    have hno : freeB fs (q - 1) n = false := by
     cases hb : freeB fs (q - 1) n
     ·rfl
     ·exact absurd ⟨q - 1, by omega, by omega, hb⟩ hall
    have : ¬ ∀ (i : Nat) f, fs[i]? = some f → ¬ hits f (q - 1) n := fun h => by rw [free_of h] at hno; cases hno
    simp only [Classical.not_forall, Classical.not_not] at this
    obtain ⟨i, f, hif, hh⟩ := this
    have hn := (freeB_iff _ _ _).1 hf i f hif
    refine ⟨i, f, hif, ?_⟩
    unfold hits at hh hn
    omega

/-- a place at which the least free offset can be, among 0 and the first k faults' ends -/
def Cand (l : Int) (fs : List Pt) (n : Int) (k : Nat) (c : Int) : Prop := freeB fs c n = true ∧ (c = 0 ∨ ∃ (i : Nat) (f : Pt), i < k ∧ fs[i]? = some f ∧ f.b = c ∧ 0 < c ∧ c ≤ l - n)
/-- the loop's state -/
def RefAt (l : Int) (fs : List Pt) (n : Int) (k : Nat) (best : Int) (ok : Bool) : Prop :=
 (ok = true → 0 ≤ best ∧ best ≤ l - n ∧ Cand l fs n k best ∧ ∀ c, Cand l fs n k c → best ≤ c) ∧ (ok = false → best = 0 ∧ ∀ c, ¬ Cand l fs n k c)
theorem Cand.more {l : Int} {fs : List Pt} {n : Int} {k : Nat} {c : Int} (h : Cand l fs n k c) : Cand l fs n (k + 1) c :=
 ⟨h.1, h.2.imp id fun ⟨i, f, hi, r⟩ => ⟨i, f, by omega, r⟩⟩
theorem Cand.less {l : Int} {fs : List Pt} {n : Int} {k : Nat} {c : Int} {f : Pt} (h : Cand l fs n (k + 1) c) (hf : fs[k]? = some f) : Cand l fs n k c ∨ (c = f.b ∧ 0 < f.b ∧ f.b ≤ l - n ∧ freeB fs f.b n = true) := by
 obtain ⟨h1, h2 | ⟨i, f', hi, hif, hb, h0, hl⟩⟩ := h
 ·exact .inl ⟨h1, .inl h2⟩
 ·by_cases hik : i = k
  ·subst hik
   rw [hf] at hif; injection hif with hif; subst hif
   exact .inr ⟨hb.symm, by omega, by omega, by rw [hb]; exact h1⟩
  ·exact .inl ⟨h1, .inr ⟨i, f', by omega, hif, hb, h0, hl⟩⟩
theorem RefAt.start {l : Int} {fs : List Pt} {n : Int} (h : n ≤ l) : RefAt l fs n 0 0 (freeB fs 0 n) := by
 refine ⟨fun h1 => ⟨by omega, by omega, ⟨h1, .inl rfl⟩, fun c hc => ?_⟩, fun h1 => ⟨rfl, fun c hc => ?_⟩⟩
 ·obtain ⟨_, h2 | ⟨i, f, hi, _⟩⟩ := hc <;> omega
 ·obtain ⟨h3, h2 | ⟨i, f, hi, _⟩⟩ := hc
  ·subst h2; rw [h1] at h3; cases h3
  ·omega
theorem RefAt.skip {l : Int} {fs : List Pt} {n : Int} {k : Nat} {best : Int} {ok : Bool} {f : Pt} (h : RefAt l fs n k best ok) (hf : fs[k]? = some f)
  (hn : ¬ (0 < f.b ∧ f.b ≤ l - n ∧ freeB fs f.b n = true ∧ (ok = false ∨ f.b < best))) : RefAt l fs n (k + 1) best ok := by
 refine ⟨fun e => ?_, fun e => ?_⟩
 ·obtain ⟨h0, h1, h2, h3⟩ := h.1 e
  refine ⟨h0, h1, h2.more, fun c hc => ?_⟩
  rcases hc.less hf with hc | ⟨rfl, a1, a2, a3⟩
  ·exact h3 c hc
  ·rcases Int.lt_or_le f.b best with hlt | hle
   ·exact absurd ⟨a1, a2, a3, .inr hlt⟩ hn
   ·exact hle
 ·obtain ⟨h0, h1⟩ := h.2 e
  refine ⟨h0, fun c hc => ?_⟩
  rcases hc.less hf with hc | ⟨rfl, a1, a2, a3⟩
  ·exact h1 c hc
  ·exact hn ⟨a1, a2, a3, .inl e⟩
theorem RefAt.take {l : Int} {fs : List Pt} {n : Int} {k : Nat} {best : Int} {ok : Bool} {f : Pt} (h : RefAt l fs n k best ok) (hf : fs[k]? = some f)
  (hn : 0 < f.b ∧ f.b ≤ l - n ∧ freeB fs f.b n = true ∧ (ok = false ∨ f.b < best)) : RefAt l fs n (k + 1) f.b true := by
 obtain ⟨a1, a2, a3, a4⟩ := hn
 refine ⟨fun _ => ⟨by omega, a2, ⟨a3, .inr ⟨k, f, by omega, hf, rfl, a1, a2⟩⟩, fun c hc => ?_⟩, fun e => by cases e⟩
 rcases hc.less hf with hc | ⟨rfl, _⟩
 ·rcases a4 with e | a4
  ·exact absurd hc ((h.2 e).2 c)
  ·cases ok
   ·exact absurd hc ((h.2 rfl).2 c)
   ·have := (h.1 rfl).2.2.2 c hc; omega
 ·exact Int.le_refl _
theorem RefAt.fin {l : Int} {fs : List Pt} {n : Int} {best : Int} {ok : Bool} (hn : 1 ≤ n) (h : RefAt l fs n fs.length best ok) : .tuple #[best, .bool ok] = clearVal l fs n := by
 have key : ∀ q, 0 ≤ q → q ≤ l - n → freeB fs q n = true → ∃ c, c ≤ q ∧ Cand l fs n fs.length c := by
  intro q h0 h1 h2
  obtain ⟨j, rfl⟩ := Int.eq_ofNat_of_zero_le h0
  obtain ⟨c, c0, c1, c2, c3, c4⟩ := least_free j j rfl h2
  refine ⟨c, c1, c2, ?_⟩
  rcases c4 with c4 | ⟨i, f, hi, hb⟩
  ·exact .inl c4
  ·by_cases hc : c = 0
   ·exact .inl hc
   ·exact .inr ⟨i, f, (List.getElem?_eq_some_iff.1 hi).1, hi, hb, by omega, by omega⟩
 cases ok
 ·obtain ⟨rfl, h1⟩ := h.2 rfl
  have hc : IsClear l fs n none := .inr (.inr fun q h0 hq => by
   cases hb : freeB fs q n
   ·rfl
   ·obtain ⟨c, _, hc⟩ := key q h0 hq hb
    exact absurd hc (h1 c))
  unfold clearVal; rw [clear_eq hc]; rfl
 ·obtain ⟨h0, h1, h2, h3⟩ := h.1 rfl
  have hc : IsClear l fs n (some best) := ⟨hn, h0, h1, h2.1, fun q q0 hq => by
   cases hb : freeB fs q n
   ·rfl
   ·obtain ⟨c, hcq, hc⟩ := key q q0 (by omega) hb
    have := h3 c hc
    omega⟩
  unfold clearVal; rw [clear_eq hc]; rfl

set_option maxHeartbeats 2000000 in
theorem refClear_any (l n : Int) (A : Option Addr) (c : Nat) (fs : List Pt) (w : World) (hl : l ≤ 9223372036854775807) (hlen : fs.length ≤ 100000) (hS : Slc Pt.enc 2 w w.heap.size A fs) (hI : ∀ x ∈ fs, -9223372036854775808 ≤ x.a ∧ x.a ≤ 9223372036854775807) :
  Calls Tryz.prog 111 #[l, .slice A fs.length c, n] w fun e w' => e = .returned (clearVal l fs n) ∧ Below w.heap.size w w' := by
 have HI := hide hI
 clear hI
 by_cases h1 : n < 1
 ·go_enter Tryz.func111, Tryz.ntmps111
  go_wp2
  go_ret2
  exact ⟨clear_none_val (.inl h1), Below.refl _ _⟩
 by_cases h2 : l < n
 ·go_enter Tryz.func111, Tryz.ntmps111
  go_wp2
  go_ret2
  exact ⟨clear_none_val (.inr (.inl h2)), Below.refl _ _⟩
 go_enter Tryz.func111, Tryz.ntmps111
 go_wp2_with (go_at_call 120; refine (free_any _ _ _ _ _ _ (by omega) (by omega) (by omega) hlen hS HI.out).mono ?_; rintro e w' ⟨rfl, hb0⟩)
 go_loopw [8, 9, 10] (fun a g i w1 => ∃ (p : Int) (b : Bool) (k : Nat), k ≤ fs.length ∧ a = .int .i64 p ∧ g = .bool b ∧ i = .int .i64 k ∧ RefAt l fs n k p b ∧ Below w.heap.size w w1) (fun _ _ i _ => (fs.length - (intOf i).toNat))
 case atStart => exact ⟨0, _, 0, Nat.zero_le _, rfl, rfl, rfl, RefAt.start (by omega), hb0⟩
 case round =>
  obtain ⟨p, b, k, hk, rfl, rfl, rfl, hat, hbel⟩ := hrel
  by_cases hlt : k < fs.length
  ·obtain ⟨f, t, bb, off, hx, rfl, hb, c0, c1⟩ := pts_at (hS.below hbel) hlt
   have HX := hide hx
   clear hx
   by_cases g : 0 < t ∧ t ≤ l - n
   ·obtain ⟨g1, g2⟩ := g
    cases hfr : freeB fs t n
    ·go_wp2_with (go_at_call 120; refine (free_any _ _ _ _ _ _ (by omega) (by omega) (by omega) hlen ((hS.below hbel).more hbel.size) HI.out).mono ?_; rintro e w' ⟨rfl, hb1⟩)
     go_roundw
     case rel => exact ⟨p, b, k + 1, by omega, rfl, rfl, by go_num, hat.skip HX.out (by simp [hfr]), hbel.trans (hb1.mono hbel.size)⟩
     case measure => simp [intOf]; omega
    ·cases b
     ·go_wp2_with (go_at_call 120; refine (free_any _ _ _ _ _ _ (by omega) (by omega) (by omega) hlen ((hS.below hbel).more hbel.size) HI.out).mono ?_; rintro e w' ⟨rfl, hb1⟩)
      go_roundw
      case rel => exact ⟨t, true, k + 1, by omega, rfl, rfl, by go_num, hat.take HX.out ⟨g1, g2, hfr, .inl rfl⟩, hbel.trans (hb1.mono hbel.size)⟩
      case measure => simp [intOf]; omega
     ·by_cases g3 : t < p
      ·go_wp2_with (go_at_call 120; refine (free_any _ _ _ _ _ _ (by omega) (by omega) (by omega) hlen ((hS.below hbel).more hbel.size) HI.out).mono ?_; rintro e w' ⟨rfl, hb1⟩)
       go_roundw
       case rel => exact ⟨t, true, k + 1, by omega, rfl, rfl, by go_num, hat.take HX.out ⟨g1, g2, hfr, .inr g3⟩, hbel.trans (hb1.mono hbel.size)⟩
       case measure => simp [intOf]; omega
      ·go_wp2_with (go_at_call 120; refine (free_any _ _ _ _ _ _ (by omega) (by omega) (by omega) hlen ((hS.below hbel).more hbel.size) HI.out).mono ?_; rintro e w' ⟨rfl, hb1⟩)
       go_roundw
       case rel => exact ⟨p, true, k + 1, by omega, rfl, rfl, by go_num, hat.skip HX.out (by simp; omega), hbel.trans (hb1.mono hbel.size)⟩
       case measure => simp [intOf]; omega
   ·by_cases g1 : 0 < t
    all_goals
     go_wp2
     go_roundw
     case rel => exact ⟨p, b, k + 1, by omega, rfl, rfl, by go_num, hat.skip HX.out (by simp; omega), hbel⟩
     case measure => simp [intOf]; omega
  ·obtain rfl : k = fs.length := by omega
   go_wp2
   go_ret2
   exact ⟨congrArg Ending.returned (hat.fin (by omega)), hbel⟩
end Go.Proofs.YtehlbomkldnalaaGreat
