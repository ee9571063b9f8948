/- Valid rolls: the walk of the specification's text; 'measures', 'free', 'hit'. -/
import Derived.Test.YtcffjleecklhcaaValid
import Derived.Test.YtcffjleecklhcaaClearP
namespace Go.Proofs.Ytcffjleecklhcaa
open Go.RowKit
def measB (g c w l : Int) : Bool := inB 1 g 3 && inB 1 c 7 && inB 1 w 150 && inB 1 l 6000
theorem measures_any (g c x l : Int) (w : World) : Calls Try.prog 19 #[.int .i64 g, .int .i64 c, .int .i64 x, .int .i64 l] w fun e w' => e = .returned (.bool (measB g c x l)) ∧ w = w' := by
  have HV : Hid (measB g c x l = (inB 1 g 3 && inB 1 c 7 && inB 1 x 150 && inB 1 l 6000)) := rfl
  cases h0 : inB 1 g 3
  · go_enter Try.func19, Try.ntmps19
    go_wp2_with (go_at_call 18; refine (from_any _ _ _ _).mono ?_; rintro e w' ⟨rfl, rfl⟩)
    go_ret
    exact ⟨ret_bool (by rw [HV.out]; simp [h0]), rfl⟩
  cases h1 : inB 1 c 7
  · go_enter Try.func19, Try.ntmps19
    go_wp2_with (go_at_call 18; refine (from_any _ _ _ _).mono ?_; rintro e w' ⟨rfl, rfl⟩)
    go_ret
    exact ⟨ret_bool (by rw [HV.out]; simp [h0, h1]), rfl⟩
  cases h2 : inB 1 x 150
  · go_enter Try.func19, Try.ntmps19
    go_wp2_with (go_at_call 18; refine (from_any _ _ _ _).mono ?_; rintro e w' ⟨rfl, rfl⟩)
    go_ret
    exact ⟨ret_bool (by rw [HV.out]; simp [h0, h1, h2]), rfl⟩
  cases h3 : inB 1 l 6000
  · go_enter Try.func19, Try.ntmps19
    go_wp2_with (go_at_call 18; refine (from_any _ _ _ _).mono ?_; rintro e w' ⟨rfl, rfl⟩)
    go_ret
    exact ⟨ret_bool (by rw [HV.out]; simp [h0, h1, h2, h3]), rfl⟩
  go_enter Try.func19, Try.ntmps19
  go_wp2_with (go_at_call 18; refine (from_any _ _ _ _).mono ?_; rintro e w' ⟨rfl, rfl⟩)
  go_ret
  exact ⟨ret_bool (by rw [HV.out]; simp [h0, h1, h2, h3]), rfl⟩

set_option maxHeartbeats 2000000 in
theorem refValidRoll_any (id grade colour lot made width len : Int) (A : Option Addr) (c : Nat) (fs : List Pt) (w : World) (hS : Slc Pt.enc 2 w w.heap.size A fs) (hlen : fs.length ≤ 100000) :
    Calls Try.prog 8 #[.agg #[.int .i64 id, .int .i64 grade, .int .i64 colour, .int .i64 lot, .int .i64 made, .int .i64 width, .int .i64 len, .slice A fs.length c]] w fun e w' =>
      e = .returned (.bool (validRoll ⟨id, grade, colour, lot, made, width, len, fs⟩)) ∧ Below w.heap.size w w' := by
  have HW : Hid (validRoll ⟨id, grade, colour, lot, made, width, len, fs⟩ = (inB 1 id 1000000000 && inB 1 lot 1000000000 && inB 0 made 100000 && measB grade colour width len && decide (fs.length ≤ 16) && spansOk len 0 fs)) := by
    show _ = _
    unfold validRoll measB
    simp only
    generalize inB 1 id 1000000000 = b0, inB 1 lot 1000000000 = b1, inB 0 made 100000 = b2, inB 1 grade 3 = b3, inB 1 colour 7 = b4, inB 1 width 150 = b5, inB 1 len 6000 = b6
    cases b0 <;> cases b1 <;> cases b2 <;> cases b3 <;> cases b4 <;> cases b5 <;> cases b6 <;> rfl
  cases h0 : inB 1 id 1000000000
  · go_enter Try.func8, Try.ntmps8
    go_wp2_with (first | (go_at_call 18; refine (from_any _ _ _ _).mono ?_; rintro e w' ⟨rfl, rfl⟩) | (go_at_call 19; refine (measures_any _ _ _ _ _).mono ?_; rintro e w' ⟨rfl, rfl⟩))
    go_ret
    exact ⟨ret_bool (by rw [HW.out]; simp [h0]), (Below.refl _ _).alloc (Nat.le_refl _) _⟩
  cases h1 : inB 1 lot 1000000000
  · go_enter Try.func8, Try.ntmps8
    go_wp2_with (first | (go_at_call 18; refine (from_any _ _ _ _).mono ?_; rintro e w' ⟨rfl, rfl⟩) | (go_at_call 19; refine (measures_any _ _ _ _ _).mono ?_; rintro e w' ⟨rfl, rfl⟩))
    go_ret
    exact ⟨ret_bool (by rw [HW.out]; simp [h0, h1]), (Below.refl _ _).alloc (Nat.le_refl _) _⟩
  cases h2 : inB 0 made 100000
  · go_enter Try.func8, Try.ntmps8
    go_wp2_with (first | (go_at_call 18; refine (from_any _ _ _ _).mono ?_; rintro e w' ⟨rfl, rfl⟩) | (go_at_call 19; refine (measures_any _ _ _ _ _).mono ?_; rintro e w' ⟨rfl, rfl⟩))
    go_ret
    exact ⟨ret_bool (by rw [HW.out]; simp [h0, h1, h2]), (Below.refl _ _).alloc (Nat.le_refl _) _⟩
  cases h3 : measB grade colour width len
  · go_enter Try.func8, Try.ntmps8
    go_wp2_with (first | (go_at_call 18; refine (from_any _ _ _ _).mono ?_; rintro e w' ⟨rfl, rfl⟩) | (go_at_call 19; refine (measures_any _ _ _ _ _).mono ?_; rintro e w' ⟨rfl, rfl⟩))
    go_ret
    exact ⟨ret_bool (by rw [HW.out]; simp [h0, h1, h2, h3]), (Below.refl _ _).alloc (Nat.le_refl _) _⟩
  by_cases h7 : 16 < fs.length
  · go_enter Try.func8, Try.ntmps8
    go_wp2_with (first | (go_at_call 18; refine (from_any _ _ _ _).mono ?_; rintro e w' ⟨rfl, rfl⟩) | (go_at_call 19; refine (measures_any _ _ _ _ _).mono ?_; rintro e w' ⟨rfl, rfl⟩))
    go_ret
    exact ⟨ret_bool (by rw [HW.out]; simp; omega), (Below.refl _ _).alloc (Nat.le_refl _) _⟩
  have hv : validRoll ⟨id, grade, colour, lot, made, width, len, fs⟩ = spansOk len 0 fs := by rw [HW.out, h0, h1, h2, h3]; simp; omega
  have HV := hide hv
  clear hv
  go_enter Try.func8, Try.ntmps8
  go_wp2_with (first | (go_at_call 18; refine (from_any _ _ _ _).mono ?_; rintro e w' ⟨rfl, rfl⟩) | (go_at_call 19; refine (measures_any _ _ _ _ _).mono ?_; rintro e w' ⟨rfl, rfl⟩))
  go_loopw [3, 4] (fun a i wr => ∃ (last : Int) (k : Nat), k ≤ fs.length ∧ a = .int .i64 last ∧ i = .int .i64 k ∧ spansOk len 0 fs = spansOk len last (fs.drop k) ∧ Blk wr w.heap.size 24 #[.int .i64 id, .int .i64 grade, .int .i64 colour, .int .i64 lot, .int .i64 made, .int .i64 width, .int .i64 len, .slice A fs.length c] ∧ Below w.heap.size w wr) (fun _ i _ => (fs.length - (intOf i).toNat))
  case atStart => exact ⟨0, 0, Nat.zero_le _, rfl, rfl, rfl, Blk.new _ _ _, (Below.refl _ _).alloc (Nat.le_refl _) _⟩
  case round =>
    obtain ⟨last, k, hk, rfl, rfl, hs, hblk, hbel⟩ := hrel
    have HS := hide hs
    clear hs
    have hc7 := hblk.cell_ 7 rfl
    by_cases hlt : k < fs.length
    · obtain ⟨f, t, bb, off, hx, rfl, hb, c0, c1⟩ := pts_at (hS.below hbel) hlt
      have HX := hide hx
      clear hx
      have hc6 := hblk.cell_ 6 rfl
      have hz := hblk.lt
      go_wp2
      all_goals first
        | (go_ret; exact ⟨ret_bool (by rw [HV.out, HS.out]; exact (spansOk_bad HX.out (by omega)).symm), hbel.alloc hbel.size _⟩)
        | (go_roundw
           case rel => exact ⟨t, k + 1, by omega, rfl, by go_num, by rw [HS.out]; exact spansOk_good HX.out (by omega), hblk.alloc _, hbel.alloc hbel.size _⟩
           case measure => simp [intOf]; omega)
    · obtain rfl : k = fs.length := by omega
      go_wp2
      go_ret
      exact ⟨ret_bool (by rw [HV.out, HS.out]; simp [spansOk]), hbel⟩

set_option maxHeartbeats 1000000 in
theorem free_any (p n : Int) (A : Option Addr) (c : Nat) (fs : List Pt) (w : World) (hp : 0 ≤ p) (hp' : p ≤ 9223372036854775807) (hn : 1 ≤ n) (hlen : fs.length ≤ 100000) (hS : Slc Pt.enc 2 w w.heap.size A fs) (hI : ∀ x ∈ fs, -9223372036854775808 ≤ x.a ∧ x.a ≤ 9223372036854775807) :
    Calls Try.prog 20 #[.int .i64 p, .int .i64 n, .slice A fs.length c] w fun e w' => e = .returned (.bool (freeB fs p n)) ∧ Below w.heap.size w w' := by
  go_enter Try.func20, Try.ntmps20
  go_wp2
  go_loopw [7] (fun i wr => ∃ k : Nat, k ≤ fs.length ∧ i = .int .i64 k ∧ (∀ (j : Nat) f, j < k → fs[j]? = some f → ¬ hits f p n) ∧ Below w.heap.size w wr) (fun i _ => (fs.length - (intOf i).toNat))
  case atStart => exact ⟨0, Nat.zero_le _, rfl, fun j f h => by omega, Below.refl _ _⟩
  case round =>
    obtain ⟨k, hk, rfl, hs, hbel⟩ := hrel
    have HS := hide hs
    clear hs
    by_cases hlt : k < fs.length
    · obtain ⟨f, t, bb, off, hx, rfl, hb, c0, c1⟩ := pts_at (hS.below hbel) hlt
      have HX := hide hx
      have hf := hI _ (List.mem_of_getElem? hx)
      simp only at hf
      obtain ⟨hf0, hf1⟩ := hf
      have HI := hide hI
      clear hx hI
      by_cases hf2 : f < 0
      all_goals
        go_wp2
        all_goals first
          | (go_ret; exact ⟨ret_bool (not_free HX.out ⟨by simp; omega, by simp; omega, by simp; omega⟩).symm, hbel.alloc hbel.size _⟩)
          | (go_roundw
             case rel => exact ⟨k + 1, by omega, by go_num, fun j f' hj hf' => by
               by_cases hjk : j = k
               · subst hjk; have := HX.out.symm.trans hf'; injection this with this; subst this; unfold hits; simp; omega
               · exact HS.out j f' (by omega) hf', hbel.alloc hbel.size _⟩
             case measure => simp [intOf]; omega)
    · obtain rfl : k = fs.length := by omega
      go_wp2
      go_ret
      exact ⟨ret_bool (free_of fun i f hf => HS.out i f (List.getElem?_eq_some_iff.1 hf).1 hf).symm, hbel⟩
end Go.Proofs.Ytcffjleecklhcaa
