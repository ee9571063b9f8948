/- The next start: the walks of package shop. -/
import Derived.Test.YtcpnfcnobnjhdaaNextP
namespace Go.Proofs.Ytcpnfcnobnjhdaa
open Go.RowKit

theorem free_any (s : Sh) (d : Int) (w : World) (hS : ShAt w w.heap.size s) (hv : VShop s.p) :
    Calls Try.prog 74 #[.agg #[.int .i64 s.p.op, .int .i64 s.p.cl, .slice s.aH s.p.hol.length s.cH, .int .i64 s.p.mach, .slice s.aS s.p.setup.length s.cS, .slice s.aJ s.p.jobs.length s.cJ], .int .i64 d] w fun e w' => e = .returned (.bool (!hasB s.p.hol d)) ∧ Below w.heap.size w w' := by
  have h4 := hv.holn
  go_enter Try.func74, Try.ntmps74
  go_wp2_with fail
  refine (search_any d s.aH s.cH s.p.hol _ (by omega) hv.asc ((hS.hol.below ((Below.refl _ _).alloc (Nat.le_refl _) _)).more (by simp))).mono ?_
  rintro e w2 ⟨rfl, rfl⟩
  go_wp2
  go_ret
  exact ⟨rfl, (Below.refl _ _).alloc (Nat.le_refl _) _⟩

set_option maxHeartbeats 1000000 in
theorem next_any (s : Sh) (t m : Int) (w : World) (hS : ShAt w w.heap.size s) (hv : VShop s.p) (ht : 0 ≤ t) (ht' : t ≤ 1000000000000) (hm : 1 ≤ m) (hm' : m ≤ s.p.cl - s.p.op) :
    Calls Try.prog 51 #[.agg #[.int .i64 s.p.op, .int .i64 s.p.cl, .slice s.aH s.p.hol.length s.cH, .int .i64 s.p.mach, .slice s.aS s.p.setup.length s.cS, .slice s.aJ s.p.jobs.length s.cJ], .int .i64 t, .int .i64 m] w fun e w' => e = .returned (.int .i64 (nextF s.p t m)) ∧ Below w.heap.size w w' := by
  have v1 := hv.op0
  have v2 := hv.opcl
  have v3 := hv.cl
  have hk := Blk.new w 25 #[.int .i64 s.p.op, .int .i64 s.p.cl, .slice s.aH s.p.hol.length s.cH, .int .i64 s.p.mach, .slice s.aS s.p.setup.length s.cS, .slice s.aJ s.p.jobs.length s.cJ]
  have hw := (Below.refl w.heap.size w).alloc (Nat.le_refl _) (.cells #[.int .i64 s.p.op, .int .i64 s.p.cl, .slice s.aH s.p.hol.length s.cH, .int .i64 s.p.mach, .slice s.aS s.p.setup.length s.cS, .slice s.aJ s.p.jobs.length s.cJ] 25)
  have HS1 := hide (fun (h : t % 1440 < s.p.op) => (by have h0 := NextAt.start (m := m) hv ht; rw [if_pos h] at h0; exact h0 : NextAt s.p t m (t / 1440) s.p.op))
  have HS2 := hide (fun (h : s.p.op ≤ t % 1440) => (by have h0 := NextAt.start (m := m) hv ht; rw [if_neg (by omega)] at h0; exact h0 : NextAt s.p t m (t / 1440) (t % 1440)))
  go_enter Try.func51, Try.ntmps51
  go_wp2_with fail
  generalize w.alloc (.cells #[.int .i64 s.p.op, .int .i64 s.p.cl, .slice s.aH s.p.hol.length s.cH, .int .i64 s.p.mach, .slice s.aS s.p.setup.length s.cS, .slice s.aJ s.p.jobs.length s.cJ] 25) = W at *
  refine wp_region_quiet (C := fun w' => ∃ u : Since W, w' = u.w) (by kernel_rfl) (by kernel_rfl) (Since.start W) ?_
  dsimp only
  have y0 := Since.cell (hk.cell_ 0 rfl)
  repeat (go_big_quiet_step ((fail)))
  refine wpQuiet_nil ?_
  rintro _ ⟨u, rfl⟩
  have hk1 := hk.below u.h hk.lt
  have hw1 := hw.trans (u.h.mono hw.size)
  go_wp2_with fail
  all_goals
    clear hk hw y0
    go_loopw [7, 8] (fun x y wr => ∃ d a : Int, x = .int .i64 d ∧ y = .int .i64 a ∧ NextAt s.p t m d a ∧ Blk wr w.heap.size 25 #[.int .i64 s.p.op, .int .i64 s.p.cl, .slice s.aH s.p.hol.length s.cH, .int .i64 s.p.mach, .slice s.aS s.p.setup.length s.cS, .slice s.aJ s.p.jobs.length s.cJ] ∧ Below w.heap.size w wr) (fun x _ _ => (t / 1440 + 10002 - intOf x).toNat)
    case atStart => first | exact ⟨_, _, rfl, rfl, HS1.out ‹_›, hk1, hw1⟩ | exact ⟨_, _, rfl, rfl, HS2.out ‹_›, hk1, hw1⟩
    case round =>
      clear hk1 hw1
      obtain ⟨d, a, rfl, rfl, hat, hk, hbel⟩ := hrel
      obtain ⟨d0, d1⟩ := hat.bd ht
      have a0 := hat.a0
      have a1 := hat.a1
      have dt := hat.d0
      have HAT := hide hat
      have HSW := hide (hS.on hbel)
      clear hat
      have c0 := hk.cell_ 0 rfl
      have c1 := hk.cell_ 1 rfl
      have c2 := hk.cell_ 2 rfl
      have c3 := hk.cell_ 3 rfl
      have c4 := hk.cell_ 4 rfl
      have c5 := hk.cell_ 5 rfl
      cases hf : hasB s.p.hol d
      · by_cases hle : s.p.cl < a + m
        · have hgo := HAT.out.go_on hv (by omega) (.inr hle)
          go_wp2_with fail
          refine (free_any s d _ HSW.out hv).mono ?_
          rintro e w2 ⟨rfl, hb⟩
          rw [hf]
          have hk2 := hk.below hb hk.lt
          have hb2 := hbel.trans (hb.mono hbel.size)
          have c1' := hk2.cell_ 1 rfl
          go_wp2_with fail
          refine wp_region_quiet (C := fun w' => ∃ u : Since w2, w' = u.w) (by kernel_rfl) (by kernel_rfl) (Since.start w2) ?_
          dsimp only
          have y0 := Since.cell (hk2.cell_ 0 rfl)
          have ed : IntKind.i64.wrap (d + 1) = d + 1 := IntWalk.i64_in _ (by omega)
          repeat (go_big_quiet_step ((fail)))
          refine wpQuiet_nil ?_
          rintro _ ⟨u, rfl⟩
          go_wp2_with fail
          go_roundw
          case rel => exact ⟨d + 1, s.p.op, rfl, rfl, hgo.1, hk2.below u.h hk2.lt, hb2.trans (u.h.mono hb2.size)⟩
          case measure => simp only [intOf]; omega
        · have hst := next_eq (HAT.out.stop hf (by omega) (by omega))
          have HR := hide hst
          clear hst
          go_wp2_with fail
          refine (free_any s d _ HSW.out hv).mono ?_
          rintro e w2 ⟨rfl, hb⟩
          rw [hf]
          have hk2 := hk.below hb hk.lt
          have hb2 := hbel.trans (hb.mono hbel.size)
          have c1' := hk2.cell_ 1 rfl
          go_wp2_with fail
          go_ret
          exact ⟨ret_int HR.out.symm, hb2⟩
      · have hgo := HAT.out.go_on hv (by omega) (.inl hf)
        go_wp2_with fail
        refine (free_any s d _ HSW.out hv).mono ?_
        rintro e w2 ⟨rfl, hb⟩
        rw [hf]
        have hk2 := hk.below hb hk.lt
        have hb2 := hbel.trans (hb.mono hbel.size)
        go_wp2_with fail
        refine wp_region_quiet (C := fun w' => ∃ u : Since w2, w' = u.w) (by kernel_rfl) (by kernel_rfl) (Since.start w2) ?_
        dsimp only
        have y0 := Since.cell (hk2.cell_ 0 rfl)
        have ed : IntKind.i64.wrap (d + 1) = d + 1 := IntWalk.i64_in _ (by omega)
        repeat (go_big_quiet_step ((fail)))
        refine wpQuiet_nil ?_
        rintro _ ⟨u, rfl⟩
        go_wp2_with fail
        go_roundw
        case rel => exact ⟨d + 1, s.p.op, rfl, rfl, hgo.1, hk2.below u.h hk2.lt, hb2.trans (u.h.mono hb2.size)⟩
        case measure => simp only [intOf]; omega

end Go.Proofs.Ytcpnfcnobnjhdaa
