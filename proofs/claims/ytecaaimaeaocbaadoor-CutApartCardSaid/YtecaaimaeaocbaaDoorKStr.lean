/- Prefixes of strings: the walks of HasPrefix and CutPrefix. -/
import Derived.Test.YtecaaimaeaocbaaDoorKAwake
import Derived.Test.YtecaaimaeaocbaaDoorKTreeP
import Derived.WalkSpells
namespace Go.Proofs.YtecaaimaeaocbaaDoor
open Go Go.RowKit
/-- a text begins with a word -/
def begB (s p : ByteArray) : Bool := decide (p.size ≤ s.size) && ((s.extract 0 p.size).toList == p.toList)
theorem hpi_any (s p : ByteArray) (w : World) : Calls Tryd.prog 117 #[.string s, .string p] w fun e w' => e = .returned (.bool (begB s p)) ∧ w = w' := by
  by_cases h : p.size ≤ s.size
  · have h1 : (p.size : Int) ≤ (s.size : Int) := by omega
    have e : begB s p = ((s.extract 0 p.size).toList == p.toList) := by unfold begB; rw [decide_eq_true h, Bool.true_and]
    rw [e]
    have hp0 : (0 : Int) ≤ (p.size : Int) := by omega
    go_enter Tryd.func117, Tryd.ntmps117
    go_wp2_with fail
    go_ret
    exact ⟨rfl, rfl⟩
  · have e : begB s p = false := by unfold begB; rw [decide_eq_false h]; rfl
    rw [e]
    exact hpi_short s p w (by omega)
theorem hp_any (s p : ByteArray) (w : World) : Calls Tryd.prog 95 #[.string s, .string p] w fun e w' => e = .returned (.bool (begB s p)) ∧ w = w' := by
  go_enter Tryd.func95, Tryd.ntmps95
  go_wp2_with fail
  refine (hpi_any s p w).mono ?_
  rintro e w' ⟨rfl, rfl⟩
  go_wp2_with fail
  go_ret
  exact ⟨rfl, rfl⟩
theorem cutpi_any (s p : ByteArray) (w : World) : Calls Tryd.prog 136 #[.string s, .string p] w fun e w' => e = .returned (.tuple #[.string (if begB s p then s.extract p.size s.size else s), .bool (begB s p)]) ∧ w = w' := by
  obtain ⟨b, hb⟩ : ∃ b, begB s p = b := ⟨_, rfl⟩
  have hbe : ∀ w, Calls Tryd.prog 117 #[.string s, .string p] w fun e w' => e = .returned (.bool b) ∧ w = w' := fun w => by rw [← hb]; exact hpi_any s p w
  have h1 : b = true → p.size ≤ s.size := fun h => by
    subst h
    unfold begB at hb
    rw [Bool.and_eq_true, decide_eq_true_eq] at hb
    exact hb.1
  rw [hb]
  clear hb
  cases b with
  | false =>
    clear h1
    go_enter Tryd.func136, Tryd.ntmps136
    go_wp2_with fail
    refine (hbe w).mono ?_
    rintro e w' ⟨rfl, rfl⟩
    go_wp2_with fail
    go_ret2
    exact ⟨rfl, rfl⟩
  | true =>
    have h2 : (p.size : Int) ≤ (s.size : Int) := by have := h1 rfl; omega
    have h3 : (0 : Int) ≤ (p.size : Int) := by omega
    clear h1
    go_enter Tryd.func136, Tryd.ntmps136
    go_wp2_with fail
    refine (hbe w).mono ?_
    rintro e w' ⟨rfl, rfl⟩
    go_wp2_with fail
    go_ret2
    exact ⟨rfl, rfl⟩
theorem cutp_any (s p : ByteArray) (w : World) : Calls Tryd.prog 127 #[.string s, .string p] w fun e w' => e = .returned (.tuple #[.string (if begB s p then s.extract p.size s.size else s), .bool (begB s p)]) ∧ w = w' := by
  obtain ⟨b, hb⟩ : ∃ b, begB s p = b := ⟨_, rfl⟩
  obtain ⟨r, hr⟩ : ∃ r, (if begB s p then s.extract p.size s.size else s) = r := ⟨_, rfl⟩
  have hbe : ∀ w, Calls Tryd.prog 136 #[.string s, .string p] w fun e w' => e = .returned (.tuple #[.string r, .bool b]) ∧ w = w' := fun w => by rw [← hb, ← hr]; exact cutpi_any s p w
  rw [hr, hb]
  clear hr hb
  go_enter Tryd.func127, Tryd.ntmps127
  go_wp2_with fail
  refine (hbe w).mono ?_
  rintro e w' ⟨rfl, rfl⟩
  go_wp2_with fail
  go_ret2
  exact ⟨rfl, rfl⟩
/-- what is left behind a word, and whether it was there -/
def leftB (s p : ByteArray) : ByteArray := if begB s p then s.extract p.size s.size else s
set_option maxRecDepth 100000 in
theorem word_any (g : Nat) (s p : ByteArray) (bad : Bool) (w : World) (hk : Blk w g 103 #[.string s, .bool bad]) :
    Calls Tryd.prog 118 #[.pointer (some ⟨g, 0, none⟩), .string p] w fun e w' => e = .returned (.tuple #[]) ∧ Blk w' g 103 #[.string (leftB s p), .bool (bad || !begB s p)] ∧ Chg (fun k => k = g) w w' := by
  obtain ⟨b, hb⟩ : ∃ b, begB s p = b := ⟨_, rfl⟩
  obtain ⟨r, hr⟩ : ∃ r, leftB s p = r := ⟨_, rfl⟩
  have hbe : ∀ w, Calls Tryd.prog 127 #[.string s, .string p] w fun e w' => e = .returned (.tuple #[.string r, .bool b]) ∧ w = w' := fun w => by rw [← hb, ← hr]; exact cutp_any s p w
  rw [hr, hb]
  clear hr hb
  have hgl := hk.lt
  have q0 := hk.cell_ 0 (v := .string s) rfl
  go_enter Tryd.func118, Tryd.ntmps118
  go_wp2_with fail
  refine (hbe w).mono ?_
  rintro e w' ⟨rfl, rfl⟩
  clear q0
  go_upto_region 2 with (refine wpList_store_at rfl 9 _ _ rfl (.string r) hk rfl rfl (by kernel_rfl) rfl (by simp) rfl ?_; intro W2 hk2 hc2)
  have q1 := hk2.cell_ 1 (v := .bool bad) rfl
  cases bad with
  | true =>
    go_wp2_with (refine wpList_store_at rfl 4 _ _ rfl (.bool true) hk2 rfl rfl (by kernel_rfl) rfl (by simp) rfl ?_; intro W3 hk3 hc3)
    exact bodyPost_end (v := .tuple #[]) (by simp [results, Tryd.results118]) rfl ⟨rfl, hk3, hc2.trans hc3⟩
  | false =>
    go_wp2_with (refine wpList_store_at rfl 4 _ _ rfl (.bool (!b)) hk2 rfl rfl (by kernel_rfl) rfl (by simp) rfl ?_; intro W3 hk3 hc3)
    exact bodyPost_end (v := .tuple #[]) (by simp [results, Tryd.results118]) rfl ⟨rfl, hk3, hc2.trans hc3⟩
end Go.Proofs.YtecaaimaeaocbaaDoor
