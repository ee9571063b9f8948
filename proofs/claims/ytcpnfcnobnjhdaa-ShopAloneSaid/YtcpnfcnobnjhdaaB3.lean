/- Parts of the proofs of this seat: Long. Each part says what it proves; no condition beyond those stated there. -/
import Derived.Test.YtcpnfcnobnjhdaaRows
import Derived.WalkLawsBesides
import Derived.WalkSpells
import Derived.Outline
import Derived.BigQuiet
import Derived.Deep.QuietTactic
import Derived.Test.YtcpnfcnobnjhdaaB1

/- 'long' of the shop's statements: the walk. -/
namespace Go.Proofs.Ytcpnfcnobnjhdaa
open Go.RowKit
set_option maxHeartbeats 1000000 in
theorem long_any (s : Sh) (w : World) (hS : ShAt w w.heap.size s) (h1 : s.p.hol.length ≤ 9223372036854775807) (h2 : s.p.setup.length ≤ 9223372036854775807) (h3 : s.p.jobs.length ≤ 9223372036854775807) (h4 : ∀ l ∈ s.p.jobs, l.length ≤ 9223372036854775807) :
    Calls Try.prog 18 #[.agg #[.int .i64 s.p.op, .int .i64 s.p.cl, .slice s.aH s.p.hol.length s.cH, .int .i64 s.p.mach, .slice s.aS s.p.setup.length s.cS, .slice s.aJ s.p.jobs.length s.cJ]] w fun e w' => e = .returned (.bool (longB s.p)) ∧ Below w.heap.size w w' := by
  have HV : Hid (longB s.p = (decide (500 < s.p.hol.length) || decide (20 < s.p.setup.length) || decide (30 < s.p.jobs.length) || s.p.jobs.any fun l => decide (20 < l.length))) := rfl
  have H4 := hide h4
  clear h4
  by_cases g1 : 500 < s.p.hol.length
  · go_enter Try.func18, Try.ntmps18
    go_wp2
    go_ret
    exact ⟨ret_bool (by rw [HV.out]; simp [g1]), (Below.refl _ _).alloc (Nat.le_refl _) _⟩
  by_cases g2 : 20 < s.p.setup.length
  · go_enter Try.func18, Try.ntmps18
    go_wp2
    go_ret
    exact ⟨ret_bool (by rw [HV.out]; simp [g2]), (Below.refl _ _).alloc (Nat.le_refl _) _⟩
  by_cases g3 : 30 < s.p.jobs.length
  · go_enter Try.func18, Try.ntmps18
    go_wp2
    go_ret
    exact ⟨ret_bool (by rw [HV.out]; simp [g3]), (Below.refl _ _).alloc (Nat.le_refl _) _⟩
  have hv : longB s.p = s.p.jobs.any fun l => decide (20 < l.length) := by rw [HV.out]; simp [g1, g2, g3]
  have HV2 := hide hv
  clear hv
  go_enter Try.func18, Try.ntmps18
  go_wp2
  go_loopw [3] (fun i wr => ∃ k : Nat, k ≤ s.p.jobs.length ∧ i = .int .i64 k ∧ longB s.p = (s.p.jobs.drop k).any (fun l => decide (20 < l.length)) ∧ Blk wr w.heap.size 25 #[.int .i64 s.p.op, .int .i64 s.p.cl, .slice s.aH s.p.hol.length s.cH, .int .i64 s.p.mach, .slice s.aS s.p.setup.length s.cS, .slice s.aJ s.p.jobs.length s.cJ] ∧ Below w.heap.size w wr) (fun i _ => s.p.jobs.length - (intOf i).toNat)
  case atStart => exact ⟨0, Nat.zero_le _, rfl, HV2.out, Blk.new _ _ _, (Below.refl _ _).alloc (Nat.le_refl _) _⟩
  case round =>
    obtain ⟨k, hk, rfl, hs, hblk, hbel⟩ := hrel
    have HS := hide hs
    clear hs
    have c5 := hblk.cell_ 5 rfl
    by_cases hlt : k < s.p.jobs.length
    · obtain ⟨l, b, off, A', c', hx, hA, hb, hc, _⟩ := jobs_at (hS.jobs.keep fun _ hp => hbel.cell hp) hlt
      have hl := H4.out l (List.mem_of_getElem? hx)
      rw [hA] at c5
      have HX := hide hx
      have HA := hide hA
      clear hx hA
      go_wp2
      · go_ret
        exact ⟨ret_bool (by rw [HS.out, any_drop HX.out]; simp; omega), hbel⟩
      · go_roundw
        case rel => exact ⟨k + 1, by omega, by go_num, by rw [HS.out, any_drop HX.out]; simp; omega, hblk, hbel⟩
        case measure => simp [intOf]; omega
    · obtain rfl : k = s.p.jobs.length := by omega
      go_wp2
      go_ret
      exact ⟨ret_bool (by rw [HS.out, nomore]; rfl), hbel⟩
end Go.Proofs.Ytcpnfcnobnjhdaa
