/- CutUsed: the walk. -/
import Derived.Test.YtecaaimaeaocbaaDoorKUsed
namespace Go.Proofs.YtecaaimaeaocbaaDoor
open Go Go.RowKit
theorem addP_few (ps ls : List Int) : (addP ls ps).length = ls.length := addP_len ps ls
theorem used_len (s : ByteArray) (kl : List Pt) : (usedL s kl).length ≤ kl.length := by
  unfold usedL
  split
  · rw [addP_len, List.length_replicate]; exact Nat.le_refl _
  · simp
theorem sameL (l : List Int) : eqL l l = true := by unfold eqL; simp
set_option maxRecDepth 100000 in
set_option maxHeartbeats 2000000 in
theorem cutUsed_gen (s : ByteArray) (A : Option Addr) (c : Nat) (kl : List Pt) (w W : World) (hs : s.size ≤ maxLen) (hl : kl.length ≤ maxLen) (hS : Slc Pt.enc 2 W W.heap.size A kl) (hB : Below w.heap.size w W) :
    Calls Tryd.prog 8 #[.string s, .slice A kl.length c] W fun e w' => e = .returned (.bool true) ∧ Below w.heap.size w w' := by
  unfold maxLen at hs hl
  go_enter Tryd.func8, Tryd.ntmps8
  by_cases h1 : 3000 < s.size
  · have f1 : (3000 : Int) < (s.size : Int) := by omega
    go_wp2_with fail
    refine (kawake_any _).mono ?_
    rintro e W ⟨rfl, hb⟩
    replace hS := Slc.on hS hb
    replace hB := hB.trans (hb.mono hB.size)
    clear hb
    go_wp2_with fail
    go_ret
    exact ⟨rfl, hB⟩
  · have f1 : ¬ (3000 : Int) < (s.size : Int) := by omega
    have f1d : decide ((3000 : Int) < (s.size : Int)) = false := decide_eq_false f1
    by_cases h2 : 40 < kl.length
    · have f2 : (40 : Int) < (kl.length : Int) := by omega
      go_wp2_with fail
      refine (kawake_any _).mono ?_
      rintro e W ⟨rfl, hb⟩
      replace hS := Slc.on hS hb
      replace hB := hB.trans (hb.mono hB.size)
      clear hb
      go_wp2_with fail
      go_ret
      exact ⟨rfl, hB⟩
    · have f2 : ¬ (40 : Int) < (kl.length : Int) := by omega
      obtain ⟨E, hE⟩ : ∃ E, usedE s kl = E := ⟨_, rfl⟩
      obtain ⟨l, hl2⟩ : ∃ l, usedL s kl = l := ⟨_, rfl⟩
      have hll : l.length ≤ 40 := by rw [← hl2]; have := used_len s kl; omega
      have HE := hide hE
      have HL := hide hl2
      clear hE hl2
      go_wp2_with fail
      refine (used_gen s A c kl _ _ (by omega) hS (Below.refl _ _)).mono ?_
      rintro e W2 ⟨A1, c1, rfl, hS1, hb⟩
      rw [HE.out, HL.out]
      rw [HL.out] at hS1
      replace hS := hS.on hb
      replace hB := hB.trans (hb.mono hB.size)
      clear hb
      go_wp2_with fail
      refine (rused_gen s A c kl _ _ (by omega) hS (Below.refl _ _)).mono ?_
      rintro e W3 ⟨A2, c2, rfl, hS2, hb⟩
      rw [HE.out, HL.out]
      rw [HL.out] at hS2
      replace hS1 := hS1.on hb
      replace hB := hB.trans (hb.mono hB.size)
      clear hb hS
      go_wp2_with fail
      refine (sameInts_any A1 c1 l A2 c2 l _ hS1 hS2 (by omega)).mono ?_
      rintro e W4 ⟨rfl, hb⟩
      rw [sameL]
      replace hB := hB.trans (hb.mono hB.size)
      clear hb hS1 hS2
      go_wp2_with fail
      refine (kawake_any _).mono ?_
      rintro e W ⟨rfl, hb⟩
      replace hB := hB.trans (hb.mono hB.size)
      clear hb
      go_wp2_with fail
      go_ret
      exact ⟨rfl, hB⟩
theorem cutUsed_walk (s : ByteArray) (A : Option Addr) (c : Nat) (kl : List Pt) (w : World) (hs : s.size ≤ maxLen) (hl : kl.length ≤ maxLen) (hS : Slc Pt.enc 2 w w.heap.size A kl) :
    Calls Tryd.prog 8 #[.string s, .slice A kl.length c] w fun e w' => e = .returned (.bool true) ∧ Below w.heap.size w w' := cutUsed_gen s A c kl w w hs hl hS (Below.refl _ _)
end Go.Proofs.YtecaaimaeaocbaaDoor
