/- Which shops are valid: the walks of both texts. -/
import Derived.Test.YtcpnfcnobnjhdaaLong
import Derived.Test.YtcpnfcnobnjhdaaRegion
namespace Go.Proofs.Ytcpnfcnobnjhdaa
open Go.RowKit
theorem within_any (a n b : Int) (w : World) : Calls Try.prog 50 #[.int .i64 a, .int .i64 n, .int .i64 b] w fun e w' => e = .returned (.bool (inB a n b)) ∧ w = w' := by
  have H : Hid (inB a n b = (decide (a ≤ n) && decide (n ≤ b))) := rfl
  by_cases h1 : a ≤ n
  · go_enter Try.func50, Try.ntmps50
    go_wp2
    all_goals go_ret; rw [H.out]; simp [*]; try omega
  · go_enter Try.func50, Try.ntmps50
    go_wp2
    go_ret; rw [H.out]; simp; omega
theorem refWithin_any (a n b : Int) (w : World) : Calls Try.prog 48 #[.int .i64 n, .int .i64 a, .int .i64 b] w fun e w' => e = .returned (.bool (inB a n b)) ∧ w = w' := by
  have H : Hid (inB a n b = (decide (a ≤ n) && decide (n ≤ b))) := rfl
  by_cases h1 : a ≤ n
  · go_enter Try.func48, Try.ntmps48
    go_wp2
    all_goals go_ret; rw [H.out]; simp [*]; try omega
  · go_enter Try.func48, Try.ntmps48
    go_wp2
    go_ret; rw [H.out]; simp; omega

set_option maxHeartbeats 1000000 in
theorem valid1_any (s : Sh) (x : Step) (g : Nat) (w : World) (hB : Blk w g 25 #[.int .i64 s.p.op, .int .i64 s.p.cl, .slice s.aH s.p.hol.length s.cH, .int .i64 s.p.mach, .slice s.aS s.p.setup.length s.cS, .slice s.aJ s.p.jobs.length s.cJ]) (h0 : 0 ≤ s.p.op) (h1 : s.p.op < s.p.cl) (h2 : s.p.cl ≤ 1440) (h3 : 1 ≤ s.p.mach) (h4 : s.p.mach ≤ 6) :
    Calls Try.prog 73 #[.agg #[.int .i64 x.m, .int .i64 x.mi, .int .i64 x.c, .int .i64 x.d], .pointer (some ⟨g, 0, none⟩)] w fun e w' => e = .returned (.bool (!stepOk s.p x)) ∧ Below w.heap.size w w' := by
  have HV : Hid (stepOk s.p x = (inB 0 x.m (s.p.mach - 1) && inB 1 x.mi (s.p.cl - s.p.op) && inB 0 x.c 9 && inB 0 x.d 10000)) := rfl
  have c0 := hB.cell_ 0 rfl
  have c1 := hB.cell_ 1 rfl
  have c3 := hB.cell_ 3 rfl
  have hg := hB.lt
  cases q0 : inB 0 x.m (s.p.mach - 1)
  · go_enter Try.func73, Try.ntmps73
    go_wp2_with (go_at_call 50; refine (within_any _ _ _ _).mono ?_; rintro e w' ⟨rfl, rfl⟩)
    go_ret
    exact ⟨ret_bool (by rw [HV.out]; simp [q0]), (Below.refl _ _).alloc (Nat.le_refl _) _⟩
  cases q1 : inB 1 x.mi (s.p.cl - s.p.op)
  · go_enter Try.func73, Try.ntmps73
    go_wp2_with (go_at_call 50; refine (within_any _ _ _ _).mono ?_; rintro e w' ⟨rfl, rfl⟩)
    go_ret
    exact ⟨ret_bool (by rw [HV.out]; simp [q0, q1]), (Below.refl _ _).alloc (Nat.le_refl _) _⟩
  cases q2 : inB 0 x.c 9
  · go_enter Try.func73, Try.ntmps73
    go_wp2_with (go_at_call 50; refine (within_any _ _ _ _).mono ?_; rintro e w' ⟨rfl, rfl⟩)
    go_ret
    exact ⟨ret_bool (by rw [HV.out]; simp [q0, q1, q2]), (Below.refl _ _).alloc (Nat.le_refl _) _⟩
  cases q3 : inB 0 x.d 10000
  · go_enter Try.func73, Try.ntmps73
    go_wp2_with (go_at_call 50; refine (within_any _ _ _ _).mono ?_; rintro e w' ⟨rfl, rfl⟩)
    go_ret
    exact ⟨ret_bool (by rw [HV.out]; simp [q0, q1, q2, q3]), (Below.refl _ _).alloc (Nat.le_refl _) _⟩
  go_enter Try.func73, Try.ntmps73
  go_wp2_with (go_at_call 50; refine (within_any _ _ _ _).mono ?_; rintro e w' ⟨rfl, rfl⟩)
  go_ret
  exact ⟨ret_bool (by rw [HV.out]; simp [q0, q1, q2, q3]), (Below.refl _ _).alloc (Nat.le_refl _) _⟩

set_option maxHeartbeats 1000000 in
theorem refStep_any (s : Sh) (x : Step) (w : World) (h0 : 0 ≤ s.p.op) (h1 : s.p.op < s.p.cl) (h2 : s.p.cl ≤ 1440) (h3 : 1 ≤ s.p.mach) (h4 : s.p.mach ≤ 6) :
    Calls Try.prog 49 #[.agg #[.int .i64 s.p.op, .int .i64 s.p.cl, .slice s.aH s.p.hol.length s.cH, .int .i64 s.p.mach, .slice s.aS s.p.setup.length s.cS, .slice s.aJ s.p.jobs.length s.cJ], .agg #[.int .i64 x.m, .int .i64 x.mi, .int .i64 x.c, .int .i64 x.d]] w fun e w' => e = .returned (.bool (stepOk s.p x)) ∧ Below w.heap.size w w' := by
  have HV : Hid (stepOk s.p x = (inB 0 x.m (s.p.mach - 1) && inB 1 x.mi (s.p.cl - s.p.op) && inB 0 x.c 9 && inB 0 x.d 10000)) := rfl
  have hbw := (((Below.refl w.heap.size w).alloc (Nat.le_refl _) (.cells #[.int .i64 s.p.op, .int .i64 s.p.cl, .slice s.aH s.p.hol.length s.cH, .int .i64 s.p.mach, .slice s.aS s.p.setup.length s.cS, .slice s.aJ s.p.jobs.length s.cJ] 25)).alloc (by simp) (.cells #[.int .i64 x.m, .int .i64 x.mi, .int .i64 x.c, .int .i64 x.d] 69))
  cases q0 : inB 0 x.m (s.p.mach - 1)
  · go_enter Try.func49, Try.ntmps49
    go_wp2_with (go_at_call 48; refine (refWithin_any _ _ _ _).mono ?_; rintro e w' ⟨rfl, rfl⟩)
    go_ret
    exact ⟨ret_bool (by rw [HV.out]; simp [q0]), hbw⟩
  cases q1 : inB 1 x.mi (s.p.cl - s.p.op)
  · go_enter Try.func49, Try.ntmps49
    go_wp2_with (go_at_call 48; refine (refWithin_any _ _ _ _).mono ?_; rintro e w' ⟨rfl, rfl⟩)
    go_ret
    exact ⟨ret_bool (by rw [HV.out]; simp [q0, q1]), hbw⟩
  cases q2 : inB 0 x.c 9
  · go_enter Try.func49, Try.ntmps49
    go_wp2_with (go_at_call 48; refine (refWithin_any _ _ _ _).mono ?_; rintro e w' ⟨rfl, rfl⟩)
    go_ret
    exact ⟨ret_bool (by rw [HV.out]; simp [q0, q1, q2]), hbw⟩
  cases q3 : inB 0 x.d 10000
  · go_enter Try.func49, Try.ntmps49
    go_wp2_with (go_at_call 48; refine (refWithin_any _ _ _ _).mono ?_; rintro e w' ⟨rfl, rfl⟩)
    go_ret
    exact ⟨ret_bool (by rw [HV.out]; simp [q0, q1, q2, q3]), hbw⟩
  go_enter Try.func49, Try.ntmps49
  go_wp2_with (go_at_call 48; refine (refWithin_any _ _ _ _).mono ?_; rintro e w' ⟨rfl, rfl⟩)
  go_ret
  exact ⟨ret_bool (by rw [HV.out]; simp [q0, q1, q2, q3]), hbw⟩

/-- what IndexFunc returns: not below 0 just if one of the elements is wrong -/
def IxPost (bad : Bool) (w : World) (e : Ending) (w' : World) : Prop := ∃ r : Int, e = .returned (.int .i64 r) ∧ decide (0 ≤ r) = bad ∧ Below w.heap.size w w'
set_option maxHeartbeats 1000000 in
theorem indexStep_any (s : Sh) (A : Option Addr) (c : Nat) (l : List Step) (g : Nat) (w : World) (hB : Blk w g 25 #[.int .i64 s.p.op, .int .i64 s.p.cl, .slice s.aH s.p.hol.length s.cH, .int .i64 s.p.mach, .slice s.aS s.p.setup.length s.cS, .slice s.aJ s.p.jobs.length s.cJ]) (h0 : 0 ≤ s.p.op) (h1 : s.p.op < s.p.cl) (h2 : s.p.cl ≤ 1440) (h3 : 1 ≤ s.p.mach) (h4 : s.p.mach ≤ 6) (hlen : l.length ≤ 1000) (hS : Slc Step.enc 4 w w.heap.size A l) :
    Calls Try.prog 86 #[.slice A l.length c, .func (.func 73) #[] #[.pointer (some ⟨g, 0, none⟩)]] w (IxPost (l.any fun x => !stepOk s.p x) w) := by
  go_enter Try.func86, Try.ntmps86
  go_wp2
  go_loopw [8] (fun i wr => ∃ k : Nat, k ≤ l.length ∧ i = .int .i64 k ∧ (l.any fun x => !stepOk s.p x) = (l.drop k).any (fun x => !stepOk s.p x) ∧ Below w.heap.size w wr) (fun i _ => l.length - (intOf i).toNat)
  case atStart => exact ⟨0, Nat.zero_le _, rfl, rfl, Below.refl _ _⟩
  case round =>
    obtain ⟨k, hk, rfl, hs, hbel⟩ := hrel
    have HS := hide hs
    clear hs
    by_cases hlt : k < l.length
    · obtain ⟨x, b, off, hx, hA, hb, e0, e1, e2, e3⟩ := steps_at (hS.below hbel) hlt
      subst hA
      have HX := hide hx
      clear hx
      have HB := hide (hB.below hbel hB.lt)
      cases hok : stepOk s.p x
      all_goals
        go_wp2_with fail
        refine (valid1_any s x g _ HB.out h0 h1 h2 h3 h4).mono ?_
        rintro e w2 ⟨rfl, hb2⟩
        rw [hok]
        go_wp2
      · go_ret
        exact ⟨k, rfl, by rw [HS.out, any_drop HX.out, hok]; simp, hbel.trans (hb2.mono hbel.size)⟩
      · go_roundw
        case rel => exact ⟨k + 1, by omega, by go_num, by rw [HS.out, any_drop HX.out, hok]; rfl, hbel.trans (hb2.mono hbel.size)⟩
        case measure => simp [intOf]; omega
    · obtain rfl : k = l.length := by omega
      go_wp2
      go_ret
      exact ⟨-1, rfl, by rw [HS.out, nomore]; rfl, hbel⟩
theorem containsStep_any (s : Sh) (A : Option Addr) (c : Nat) (l : List Step) (g : Nat) (w : World) (hB : Blk w g 25 #[.int .i64 s.p.op, .int .i64 s.p.cl, .slice s.aH s.p.hol.length s.cH, .int .i64 s.p.mach, .slice s.aS s.p.setup.length s.cS, .slice s.aJ s.p.jobs.length s.cJ]) (h0 : 0 ≤ s.p.op) (h1 : s.p.op < s.p.cl) (h2 : s.p.cl ≤ 1440) (h3 : 1 ≤ s.p.mach) (h4 : s.p.mach ≤ 6) (hlen : l.length ≤ 1000) (hS : Slc Step.enc 4 w w.heap.size A l) :
    Calls Try.prog 72 #[.slice A l.length c, .func (.func 73) #[] #[.pointer (some ⟨g, 0, none⟩)]] w fun e w' => e = .returned (.bool (l.any fun x => !stepOk s.p x)) ∧ Below w.heap.size w w' := by
  go_enter Try.func72, Try.ntmps72
  go_wp2_with fail
  refine (indexStep_any s A c l g _ hB h0 h1 h2 h3 h4 hlen hS).mono ?_
  rintro e w2 ⟨r, rfl, hr, hb2⟩
  have HR := hide hr
  clear hr
  go_wp2
  go_ret
  exact ⟨ret_bool HR.out, hb2⟩
end Go.Proofs.Ytcpnfcnobnjhdaa
