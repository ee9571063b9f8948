/- 'Awake' of the statements about sheet: the closed example. -/
import Derived.Test.YtnejacogflkmmaaClear
import Derived.Test.YtnejacogflkmmaaReceive
namespace Go.Proofs.Ytnejacogflkmmaa
open Go.RowKit

theorem awake_clear : clearVal 100 [⟨30, 32⟩] 50 = .tuple #[.int .i64 32, .bool true] := by
  have h : IsClear 100 [⟨30, 32⟩] 50 (some 32) := by
    refine ⟨by omega, by omega, by omega, ?_, fun q h0 h1 => ?_⟩
    · simp [freeB]
    · simp [freeB]; omega
  unfold clearVal
  rw [clear_eq h]; rfl

theorem zip_one {w : World} {x : Sheet} {k : Int} {MI : List (Int × Value)} (h : Zip (SheetVal w 0) [(k, x)] MI) : ∃ A c, MI = [(k, x.valAt A c)] := by
  match MI, h with
  | [], h => exact absurd h.1 (by simp)
  | q :: q' :: M, h => exact absurd h.1 (by simp)
  | [q], h =>
    obtain ⟨h1, A, c, h2, _⟩ := h.2 0 _ _ rfl rfl
    refine ⟨A, c, ?_⟩
    have : q = (k, x.valAt A c) := Prod.ext h1.symm h2
    rw [this]

set_option maxHeartbeats 2000000 in
theorem awake_any (w : World) : Calls Try.prog 12 #[] w fun e w' => e = .returned (.bool true) ∧ Below w.heap.size w w' := by
  have HC := hide awake_clear
  go_enter Try.func12, Try.ntmps12
  go_wp2_with fail
  refine (clear_any 100 50 _ _ [⟨30, 32⟩] _ (by omega) (by simp) ?hS).mono ?_
  case hS => 
    intro i x hi
    have : i = 0 ∧ x = ⟨30, 32⟩ := by
      rcases i with _ | i
      · simp at hi; exact ⟨rfl, hi.symm⟩
      · simp at hi
    obtain ⟨rfl, rfl⟩ := this
    refine ⟨w.heap.size, 0, rfl, by simp, fun j v hj => ?_⟩
    have hb := (Blk.new w 87 #[.int .i64 30, .int .i64 32]).cell j
    simp only [Nat.zero_mul, Nat.zero_add]
    rw [hb, ← hj]
    simp [Pt.enc]
  rintro e w1 ⟨rfl, hb1⟩
  rw [HC.out]
  go_wp2_with fail
  refine (new_yes 1 1 0 0 0 _ (by decide)).mono ?_
  rintro e w2 ⟨g, ri, rp, rq, rl, rfl, hst, hg, h1, h2, h3, h4, hb2⟩
  have hS := hst 0 (by omega)
  go_wp2_with fail
  refine (receive_a 3 1 1 1 0 2 5 0 [] _ 0 g ri rp rq rl _ hS (by decide) rfl rfl (by simp)).mono ?_
  rintro e w3 ⟨rfl, hS3, hC3⟩
  go_wp2_with fail
  obtain ⟨MI, hMI, hZ⟩ := hS3.zip
  obtain ⟨A, c, rfl⟩ := zip_one hZ
  refine (bal_any g _ _ hS3.blk ri rp _ _ rfl rfl rfl rfl rfl _ _ hMI hS3.pieces ?g1 ?g2 ?g3 ?g4).mono ?_
  case g1 => 
    intro q hq
    simp at hq
    subst hq
    exact ⟨_, _, _, _, _, _, _, _, _, _, _, rfl, by simp, by simp, by simp, by simp⟩
  case g2 => simp
  case g3 => simp
  case g4 => simp
  rintro e w4 ⟨rfl, hb4⟩
  go_wp2
  go_ret
  refine ⟨rfl, ?_⟩
  have z0 : w.heap.size ≤ w1.heap.size := by have := hb1.size; simp at this; omega
  have z1 := hb2.size
  have z2 := hC3.size
  have b1 : Below w.heap.size w w1 := ((Below.refl _ _).alloc (Nat.le_refl _) _).trans (hb1.mono (by simp))
  have b2 : Below w.heap.size w w2 := b1.trans (hb2.mono z0)
  have b3 : Below w.heap.size w w3 := b2.trans (hC3.to_below (by omega) (fun k hk => by unfold OfStore; omega))
  exact b3.trans (hb4.mono (by omega))
end Go.Proofs.Ytnejacogflkmmaa
