/- Parts of the proofs of this seat: ShopValid, ShopValid2, ShopValid3, Search, NextP, Next, RefNext, HoursP, Hours, ShopApi, TimesP, ChainP, ShopFirst, ShopLaws1, Chain, ShopTimes. Each part says what it proves; no condition beyond those stated there. -/
import Derived.Test.YtcpnfcnobnjhdaaB3
import Derived.Test.YtcpnfcnobnjhdaaB4

/- Which shops are valid: the walks of both texts. -/
namespace Go.Proofs.Ytcpnfcnobnjhdaa
open Go.RowKit
theorem within_any (a n b : Int) (w : World) : Calls Try.prog 50 #[.int .i64 a, .int .i64 n, .int .i64 b] w fun e w' => e = .returned (.bool (inB a n b)) ∧ w = w' := by
  have H : Hid (inB a n b = (decide (a ≤ n) && decide (n ≤ b))) := rfl
  by_cases h1 : a ≤ n
  · go_enter Try.func50, Try.ntmps50
    go_wp2
    all_goals go_ret; rw [H.out]; simp [*]; try omega
  · go_enter Try.func50, Try.ntmps50
    go_wp2
    go_ret; rw [H.out]; simp; omega
theorem refWithin_any (a n b : Int) (w : World) : Calls Try.prog 48 #[.int .i64 n, .int .i64 a, .int .i64 b] w fun e w' => e = .returned (.bool (inB a n b)) ∧ w = w' := by
  have H : Hid (inB a n b = (decide (a ≤ n) && decide (n ≤ b))) := rfl
  by_cases h1 : a ≤ n
  · go_enter Try.func48, Try.ntmps48
    go_wp2
    all_goals go_ret; rw [H.out]; simp [*]; try omega
  · go_enter Try.func48, Try.ntmps48
    go_wp2
    go_ret; rw [H.out]; simp; omega

set_option maxHeartbeats 1000000 in
theorem valid1_any (s : Sh) (x : Step) (g : Nat) (w : World) (hB : Blk w g 25 #[.int .i64 s.p.op, .int .i64 s.p.cl, .slice s.aH s.p.hol.length s.cH, .int .i64 s.p.mach, .slice s.aS s.p.setup.length s.cS, .slice s.aJ s.p.jobs.length s.cJ]) (h0 : 0 ≤ s.p.op) (h1 : s.p.op < s.p.cl) (h2 : s.p.cl ≤ 1440) (h3 : 1 ≤ s.p.mach) (h4 : s.p.mach ≤ 6) :
    Calls Try.prog 73 #[.agg #[.int .i64 x.m, .int .i64 x.mi, .int .i64 x.c, .int .i64 x.d], .pointer (some ⟨g, 0, none⟩)] w fun e w' => e = .returned (.bool (!stepOk s.p x)) ∧ Below w.heap.size w w' := by
  have HV : Hid (stepOk s.p x = (inB 0 x.m (s.p.mach - 1) && inB 1 x.mi (s.p.cl - s.p.op) && inB 0 x.c 9 && inB 0 x.d 10000)) := rfl
  have c0 := hB.cell_ 0 rfl
  have c1 := hB.cell_ 1 rfl
  have c3 := hB.cell_ 3 rfl
  have hg := hB.lt
  cases q0 : inB 0 x.m (s.p.mach - 1)
  · go_enter Try.func73, Try.ntmps73
    go_wp2_with (go_at_call 50; refine (within_any _ _ _ _).mono ?_; rintro e w' ⟨rfl, rfl⟩)
    go_ret
    exact ⟨ret_bool (by rw [HV.out]; simp [q0]), (Below.refl _ _).alloc (Nat.le_refl _) _⟩
  cases q1 : inB 1 x.mi (s.p.cl - s.p.op)
  · go_enter Try.func73, Try.ntmps73
    go_wp2_with (go_at_call 50; refine (within_any _ _ _ _).mono ?_; rintro e w' ⟨rfl, rfl⟩)
    go_ret
    exact ⟨ret_bool (by rw [HV.out]; simp [q0, q1]), (Below.refl _ _).alloc (Nat.le_refl _) _⟩
  cases q2 : inB 0 x.c 9
  · go_enter Try.func73, Try.ntmps73
    go_wp2_with (go_at_call 50; refine (within_any _ _ _ _).mono ?_; rintro e w' ⟨rfl, rfl⟩)
    go_ret
    exact ⟨ret_bool (by rw [HV.out]; simp [q0, q1, q2]), (Below.refl _ _).alloc (Nat.le_refl _) _⟩
  cases q3 : inB 0 x.d 10000
  · go_enter Try.func73, Try.ntmps73
    go_wp2_with (go_at_call 50; refine (within_any _ _ _ _).mono ?_; rintro e w' ⟨rfl, rfl⟩)
    go_ret
    exact ⟨ret_bool (by rw [HV.out]; simp [q0, q1, q2, q3]), (Below.refl _ _).alloc (Nat.le_refl _) _⟩
  go_enter Try.func73, Try.ntmps73
  go_wp2_with (go_at_call 50; refine (within_any _ _ _ _).mono ?_; rintro e w' ⟨rfl, rfl⟩)
  go_ret
  exact ⟨ret_bool (by rw [HV.out]; simp [q0, q1, q2, q3]), (Below.refl _ _).alloc (Nat.le_refl _) _⟩

set_option maxHeartbeats 1000000 in
theorem refStep_any (s : Sh) (x : Step) (w : World) (h0 : 0 ≤ s.p.op) (h1 : s.p.op < s.p.cl) (h2 : s.p.cl ≤ 1440) (h3 : 1 ≤ s.p.mach) (h4 : s.p.mach ≤ 6) :
    Calls Try.prog 49 #[.agg #[.int .i64 s.p.op, .int .i64 s.p.cl, .slice s.aH s.p.hol.length s.cH, .int .i64 s.p.mach, .slice s.aS s.p.setup.length s.cS, .slice s.aJ s.p.jobs.length s.cJ], .agg #[.int .i64 x.m, .int .i64 x.mi, .int .i64 x.c, .int .i64 x.d]] w fun e w' => e = .returned (.bool (stepOk s.p x)) ∧ Below w.heap.size w w' := by
  have HV : Hid (stepOk s.p x = (inB 0 x.m (s.p.mach - 1) && inB 1 x.mi (s.p.cl - s.p.op) && inB 0 x.c 9 && inB 0 x.d 10000)) := rfl
  have hbw := (((Below.refl w.heap.size w).alloc (Nat.le_refl _) (.cells #[.int .i64 s.p.op, .int .i64 s.p.cl, .slice s.aH s.p.hol.length s.cH, .int .i64 s.p.mach, .slice s.aS s.p.setup.length s.cS, .slice s.aJ s.p.jobs.length s.cJ] 25)).alloc (by simp) (.cells #[.int .i64 x.m, .int .i64 x.mi, .int .i64 x.c, .int .i64 x.d] 69))
  cases q0 : inB 0 x.m (s.p.mach - 1)
  · go_enter Try.func49, Try.ntmps49
    go_wp2_with (go_at_call 48; refine (refWithin_any _ _ _ _).mono ?_; rintro e w' ⟨rfl, rfl⟩)
    go_ret
    exact ⟨ret_bool (by rw [HV.out]; simp [q0]), hbw⟩
  cases q1 : inB 1 x.mi (s.p.cl - s.p.op)
  · go_enter Try.func49, Try.ntmps49
    go_wp2_with (go_at_call 48; refine (refWithin_any _ _ _ _).mono ?_; rintro e w' ⟨rfl, rfl⟩)
    go_ret
    exact ⟨ret_bool (by rw [HV.out]; simp [q0, q1]), hbw⟩
  cases q2 : inB 0 x.c 9
  · go_enter Try.func49, Try.ntmps49
    go_wp2_with (go_at_call 48; refine (refWithin_any _ _ _ _).mono ?_; rintro e w' ⟨rfl, rfl⟩)
    go_ret
    exact ⟨ret_bool (by rw [HV.out]; simp [q0, q1, q2]), hbw⟩
  cases q3 : inB 0 x.d 10000
  · go_enter Try.func49, Try.ntmps49
    go_wp2_with (go_at_call 48; refine (refWithin_any _ _ _ _).mono ?_; rintro e w' ⟨rfl, rfl⟩)
    go_ret
    exact ⟨ret_bool (by rw [HV.out]; simp [q0, q1, q2, q3]), hbw⟩
  go_enter Try.func49, Try.ntmps49
  go_wp2_with (go_at_call 48; refine (refWithin_any _ _ _ _).mono ?_; rintro e w' ⟨rfl, rfl⟩)
  go_ret
  exact ⟨ret_bool (by rw [HV.out]; simp [q0, q1, q2, q3]), hbw⟩

/-- what IndexFunc returns: not below 0 just if one of the elements is wrong -/
def IxPost (bad : Bool) (w : World) (e : Ending) (w' : World) : Prop := ∃ r : Int, e = .returned (.int .i64 r) ∧ decide (0 ≤ r) = bad ∧ Below w.heap.size w w'
set_option maxHeartbeats 1000000 in
theorem indexStep_any (s : Sh) (A : Option Addr) (c : Nat) (l : List Step) (g : Nat) (w : World) (hB : Blk w g 25 #[.int .i64 s.p.op, .int .i64 s.p.cl, .slice s.aH s.p.hol.length s.cH, .int .i64 s.p.mach, .slice s.aS s.p.setup.length s.cS, .slice s.aJ s.p.jobs.length s.cJ]) (h0 : 0 ≤ s.p.op) (h1 : s.p.op < s.p.cl) (h2 : s.p.cl ≤ 1440) (h3 : 1 ≤ s.p.mach) (h4 : s.p.mach ≤ 6) (hlen : l.length ≤ 1000) (hS : Slc Step.enc 4 w w.heap.size A l) :
    Calls Try.prog 86 #[.slice A l.length c, .func (.func 73) #[] #[.pointer (some ⟨g, 0, none⟩)]] w (IxPost (l.any fun x => !stepOk s.p x) w) := by
  go_enter Try.func86, Try.ntmps86
  go_wp2
  go_loopw [8] (fun i wr => ∃ k : Nat, k ≤ l.length ∧ i = .int .i64 k ∧ (l.any fun x => !stepOk s.p x) = (l.drop k).any (fun x => !stepOk s.p x) ∧ Below w.heap.size w wr) (fun i _ => l.length - (intOf i).toNat)
  case atStart => exact ⟨0, Nat.zero_le _, rfl, rfl, Below.refl _ _⟩
  case round =>
    obtain ⟨k, hk, rfl, hs, hbel⟩ := hrel
    have HS := hide hs
    clear hs
    by_cases hlt : k < l.length
    · obtain ⟨x, b, off, hx, hA, hb, e0, e1, e2, e3⟩ := steps_at (hS.below hbel) hlt
      subst hA
      have HX := hide hx
      clear hx
      have HB := hide (hB.below hbel hB.lt)
      cases hok : stepOk s.p x
      all_goals
        go_wp2_with fail
        refine (valid1_any s x g _ HB.out h0 h1 h2 h3 h4).mono ?_
        rintro e w2 ⟨rfl, hb2⟩
        rw [hok]
        go_wp2
      · go_ret
        exact ⟨k, rfl, by rw [HS.out, any_drop HX.out, hok]; simp, hbel.trans (hb2.mono hbel.size)⟩
      · go_roundw
        case rel => exact ⟨k + 1, by omega, by go_num, by rw [HS.out, any_drop HX.out, hok]; rfl, hbel.trans (hb2.mono hbel.size)⟩
        case measure => simp [intOf]; omega
    · obtain rfl : k = l.length := by omega
      go_wp2
      go_ret
      exact ⟨-1, rfl, by rw [HS.out, nomore]; rfl, hbel⟩
theorem containsStep_any (s : Sh) (A : Option Addr) (c : Nat) (l : List Step) (g : Nat) (w : World) (hB : Blk w g 25 #[.int .i64 s.p.op, .int .i64 s.p.cl, .slice s.aH s.p.hol.length s.cH, .int .i64 s.p.mach, .slice s.aS s.p.setup.length s.cS, .slice s.aJ s.p.jobs.length s.cJ]) (h0 : 0 ≤ s.p.op) (h1 : s.p.op < s.p.cl) (h2 : s.p.cl ≤ 1440) (h3 : 1 ≤ s.p.mach) (h4 : s.p.mach ≤ 6) (hlen : l.length ≤ 1000) (hS : Slc Step.enc 4 w w.heap.size A l) :
    Calls Try.prog 72 #[.slice A l.length c, .func (.func 73) #[] #[.pointer (some ⟨g, 0, none⟩)]] w fun e w' => e = .returned (.bool (l.any fun x => !stepOk s.p x)) ∧ Below w.heap.size w w' := by
  go_enter Try.func72, Try.ntmps72
  go_wp2_with fail
  refine (indexStep_any s A c l g _ hB h0 h1 h2 h3 h4 hlen hS).mono ?_
  rintro e w2 ⟨r, rfl, hr, hb2⟩
  have HR := hide hr
  clear hr
  go_wp2
  go_ret
  exact ⟨ret_bool HR.out, hb2⟩
end Go.Proofs.Ytcpnfcnobnjhdaa

/- Which shops are valid: Valid of both texts, the walks. -/
namespace Go.Proofs.Ytcpnfcnobnjhdaa
open Go.RowKit
theorem holsOk_bad1 {prev d : Int} {l : List Int} {k : Nat} (hk : l[k]? = some d) (h : inB 0 d 10000 = false) : holsOk prev (l.drop k) = false := by rw [holsOk_step hk, h]; rfl
theorem holsOk_bad2 {prev d : Int} {l : List Int} {k : Nat} (hk : l[k]? = some d) (h : d ≤ prev) : holsOk prev (l.drop k) = false := by
  rw [holsOk_step hk]
  have : decide (prev < d) = false := by simpa using h
  rw [this]; simp
theorem holsOk_good {prev d : Int} {l : List Int} {k : Nat} (hk : l[k]? = some d) (h : inB 0 d 10000 = true) (h' : prev < d) : holsOk prev (l.drop k) = holsOk d (l.drop (k + 1)) := by
  rw [holsOk_step hk, h]
  have : decide (prev < d) = true := by simpa using h'
  rw [this]; rfl

set_option maxHeartbeats 4000000 in
set_option maxRecDepth 100000 in
theorem valid_any (s : Sh) (w : World) (hS : ShAt w w.heap.size s) (m1 : s.p.hol.length ≤ 9223372036854775807) (m2 : s.p.setup.length ≤ 9223372036854775807) (m3 : s.p.jobs.length ≤ 9223372036854775807) (m4 : ∀ l ∈ s.p.jobs, l.length ≤ 9223372036854775807) :
    Calls Try.prog 47 #[.agg #[.int .i64 s.p.op, .int .i64 s.p.cl, .slice s.aH s.p.hol.length s.cH, .int .i64 s.p.mach, .slice s.aS s.p.setup.length s.cS, .slice s.aJ s.p.jobs.length s.cJ]] w fun e w' => e = .returned (.bool (validShop s.p)) ∧ Below w.heap.size w w' := by
  obtain ⟨p, aH, cH, aS, cS, aJ, cJ⟩ := s
  obtain ⟨hS1, hS2, hS3⟩ := hS
  dsimp only at *
  have HV : Hid (validShop p = (headOk p && holsOk (-1) p.hol && p.setup.all (fun n => inB 0 n 1000) && p.jobs.all (jobOk p))) := rfl
  have HH : Hid (headOk p = (decide (0 ≤ p.op) && decide (p.op < p.cl) && decide (p.cl ≤ 1440) && decide (p.hol.length ≤ 400) && inB 1 p.mach 6 && decide ((p.setup.length : Int) = p.mach) && decide (p.jobs.length ≤ 12))) := rfl
  have H4 := hide m4
  clear m4
  by_cases g1 : p.op < 0
  · go_enter Try.func47, Try.ntmps47
    go_wp2_with (go_at_call 50; refine (within_any _ _ _ _).mono ?_; rintro e w' ⟨rfl, rfl⟩)
    go_ret
    have : ¬ (0 ≤ p.op) := by omega
    exact ⟨ret_bool (by rw [HV.out, HH.out]; simp [this]), (Below.refl _ _).alloc (Nat.le_refl _) _⟩
  by_cases g2 : p.cl ≤ p.op
  · go_enter Try.func47, Try.ntmps47
    go_wp2_with (go_at_call 50; refine (within_any _ _ _ _).mono ?_; rintro e w' ⟨rfl, rfl⟩)
    go_ret
    have : ¬ (p.op < p.cl) := by omega
    exact ⟨ret_bool (by rw [HV.out, HH.out]; simp [this]), (Below.refl _ _).alloc (Nat.le_refl _) _⟩
  by_cases g3 : 1440 < p.cl
  · go_enter Try.func47, Try.ntmps47
    go_wp2_with (go_at_call 50; refine (within_any _ _ _ _).mono ?_; rintro e w' ⟨rfl, rfl⟩)
    go_ret
    have : ¬ (p.cl ≤ 1440) := by omega
    exact ⟨ret_bool (by rw [HV.out, HH.out]; simp [this]), (Below.refl _ _).alloc (Nat.le_refl _) _⟩
  by_cases g4 : 400 < p.hol.length
  · go_enter Try.func47, Try.ntmps47
    go_wp2_with (go_at_call 50; refine (within_any _ _ _ _).mono ?_; rintro e w' ⟨rfl, rfl⟩)
    go_ret
    have : ¬ (p.hol.length ≤ 400) := by omega
    exact ⟨ret_bool (by rw [HV.out, HH.out]; simp [this]), (Below.refl _ _).alloc (Nat.le_refl _) _⟩
  cases g5 : inB 1 p.mach 6
  · go_enter Try.func47, Try.ntmps47
    go_wp2_with (go_at_call 50; refine (within_any _ _ _ _).mono ?_; rintro e w' ⟨rfl, rfl⟩)
    go_ret
    skip
    exact ⟨ret_bool (by rw [HV.out, HH.out]; simp [g5]), (Below.refl _ _).alloc (Nat.le_refl _) _⟩
  by_cases g6 : ((p.setup.length : Int) != p.mach) = true
  · go_enter Try.func47, Try.ntmps47
    go_wp2_with (go_at_call 50; refine (within_any _ _ _ _).mono ?_; rintro e w' ⟨rfl, rfl⟩)
    go_ret
    have : ¬ ((p.setup.length : Int) = p.mach) := by simpa using g6
    exact ⟨ret_bool (by rw [HV.out, HH.out]; simp [this]), (Below.refl _ _).alloc (Nat.le_refl _) _⟩
  by_cases g7 : 12 < p.jobs.length
  · go_enter Try.func47, Try.ntmps47
    go_wp2_with (go_at_call 50; refine (within_any _ _ _ _).mono ?_; rintro e w' ⟨rfl, rfl⟩)
    go_ret
    have : ¬ (p.jobs.length ≤ 12) := by omega
    exact ⟨ret_bool (by rw [HV.out, HH.out]; simp [this]), (Below.refl _ _).alloc (Nat.le_refl _) _⟩
  have g5' := inB_iff.1 g5
  have g6' : ((p.setup.length : Int) != p.mach) = false := by simpa using g6
  have hv : validShop p = (holsOk (-1) p.hol && p.setup.all (fun n => inB 0 n 1000) && p.jobs.all (jobOk p)) := by
    have e6 : (p.setup.length : Int) = p.mach := by simpa using g6
    have a1 : 0 ≤ p.op := by omega
    have a2 : p.op < p.cl := by omega
    have a3 : p.cl ≤ 1440 := by omega
    have a4 : p.hol.length ≤ 400 := by omega
    have a7 : p.jobs.length ≤ 12 := by omega
    rw [HV.out, HH.out, g5]; simp [e6, a1, a2, a3, a4, a7]
  have HV2 := hide hv
  obtain ⟨g51, g52⟩ := g5'
  clear hv g6
  go_enter Try.func47, Try.ntmps47
  go_wp2_with (go_at_call 50; refine (within_any _ _ _ _).mono ?_; rintro e w' ⟨rfl, rfl⟩)
  go_loopw [53] (fun i wr => ∃ (k : Nat) (prev : Int), k ≤ p.hol.length ∧ i = .int .i64 k ∧ holsOk (-1) p.hol = holsOk prev (p.hol.drop k) ∧ (∀ j, k = j + 1 → p.hol[j]? = some prev) ∧ (k = 0 → prev = -1) ∧ Blk wr w.heap.size 25 #[.int .i64 p.op, .int .i64 p.cl, .slice aH p.hol.length cH, .int .i64 p.mach, .slice aS p.setup.length cS, .slice aJ p.jobs.length cJ] ∧ Below w.heap.size w wr) (fun i _ => p.hol.length - (intOf i).toNat)
  case atStart => exact ⟨0, -1, Nat.zero_le _, rfl, rfl, fun j h => by omega, fun _ => rfl, Blk.new _ _ _, (Below.refl _ _).alloc (Nat.le_refl _) _⟩
  case round =>
    obtain ⟨k, prev, hk, rfl, hs, hp, hp0, hblk, hbel⟩ := hrel
    have HS := hide hs
    have c2 := hblk.cell_ 2 rfl
    have c4 := hblk.cell_ 4 rfl
    clear hs
    by_cases hlt : k < p.hol.length
    · obtain ⟨d, b, off, hx, hA, hb, hc⟩ := ints_at' (hS1.below hbel) hlt
      have HX := hide hx
      subst hA
      clear hx
      cases hd : inB 0 d 10000
      · go_wp2_with (go_at_call 50; refine (within_any _ _ _ _).mono ?_; rintro e w' ⟨rfl, rfl⟩)
        go_ret
        exact ⟨ret_bool (by rw [HV2.out, HS.out, holsOk_bad1 HX.out hd]; rfl), hbel⟩
      · rcases k with _ | j
        · have hpe := hp0 rfl
          have hd0 := (inB_iff.1 hd).1
          have HE := hide hpe
          clear hpe hp hp0
          rw [Nat.add_zero] at hc
          go_wp2_with (go_at_call 50; refine (within_any _ _ _ _).mono ?_; rintro e w' ⟨rfl, rfl⟩)
          go_roundw
          case rel => exact ⟨1, d, by omega, by go_num, by rw [HS.out]; exact holsOk_good HX.out hd (by rw [HE.out]; omega), (by intro j hj; have e : j = 0 := (by omega); rw [e]; exact HX.out), fun h => by omega, hblk, hbel⟩
          case measure => simp [intOf]; omega
        · have hpr := hp j rfl
          obtain ⟨d', b', off', hx', hA', hb', hc'⟩ := ints_at' (k := j) (hS1.below hbel) (by omega)
          obtain ⟨rfl, rfl⟩ : b = b' ∧ off = off' := by injection hA' with hA'; injection hA' with h1 h2; exact ⟨h1, h2⟩
          obtain rfl : d' = prev := by rw [hpr] at hx'; injection hx' with hx'; exact hx'.symm
          clear hp hp0 hpr hx' hA'
          by_cases hlt2 : d ≤ d'
          · go_wp2_with (go_at_call 50; refine (within_any _ _ _ _).mono ?_; rintro e w' ⟨rfl, rfl⟩)
            go_ret
            exact ⟨ret_bool (by rw [HV2.out, HS.out, holsOk_bad2 HX.out hlt2]; rfl), hbel⟩
          · go_wp2_with (go_at_call 50; refine (within_any _ _ _ _).mono ?_; rintro e w' ⟨rfl, rfl⟩)
            go_roundw
            case rel => exact ⟨j + 1 + 1, d, by omega, by go_num, by rw [HS.out]; exact holsOk_good HX.out hd (by omega), (by intro j' hj; have e : j' = j + 1 := (by omega); rw [e]; exact HX.out), fun h => by omega, hblk, hbel⟩
            case measure => simp [intOf]; omega
    · obtain rfl : k = p.hol.length := by omega
      have h1 : holsOk (-1) p.hol = true := by rw [HS.out, nomore]; rfl
      have HV3 := hide (show validShop p = (p.setup.all (fun n => inB 0 n 1000) && p.jobs.all (jobOk p)) by rw [HV2.out, h1]; rfl)
      clear h1 hp hp0 c2
      go_wp2_with fail
      go_loopw [79] (fun i wr => ∃ (k : Nat), k ≤ p.setup.length ∧ i = .int .i64 k ∧ p.setup.all (fun n => inB 0 n 1000) = (p.setup.drop k).all (fun n => inB 0 n 1000) ∧ Blk wr w.heap.size 25 #[.int .i64 p.op, .int .i64 p.cl, .slice aH p.hol.length cH, .int .i64 p.mach, .slice aS p.setup.length cS, .slice aJ p.jobs.length cJ] ∧ Below w.heap.size w wr) (fun i _ => p.setup.length - (intOf i).toNat)
      case atStart => exact ⟨0, Nat.zero_le _, rfl, rfl, hblk, hbel⟩
      case round =>
        clear hblk hbel c4
        obtain ⟨k, hk, rfl, hs, hblk, hbel⟩ := hrel
        have HS2 := hide hs
        have c4 := hblk.cell_ 4 rfl
        have c5 := hblk.cell_ 5 rfl
        clear hs
        by_cases hlt : k < p.setup.length
        · obtain ⟨d, b, off, hx, hA, hb, hc⟩ := ints_at' (hS2.below hbel) hlt
          have HX := hide hx
          subst hA
          clear hx
          cases hd : inB 0 d 1000
          · go_wp2_with (go_at_call 50; refine (within_any _ _ _ _).mono ?_; rintro e w' ⟨rfl, rfl⟩)
            go_ret
            exact ⟨ret_bool (by rw [HV3.out, HS2.out, all_drop HX.out, hd]; rfl), hbel⟩
          · go_wp2_with (go_at_call 50; refine (within_any _ _ _ _).mono ?_; rintro e w' ⟨rfl, rfl⟩)
            go_roundw
            case rel => exact ⟨k + 1, by omega, by go_num, by rw [HS2.out, all_drop HX.out, hd]; rfl, hblk, hbel⟩
            case measure => simp [intOf]; omega
        · obtain rfl : k = p.setup.length := by omega
          have h1 : p.setup.all (fun n => inB 0 n 1000) = true := by rw [HS2.out, nomore]; rfl
          have HV4 := hide (show validShop p = p.jobs.all (jobOk p) by rw [HV3.out, h1]; rfl)
          clear h1 c4
          go_wp2_with fail
          go_loopw [90] (fun i wr => ∃ (k : Nat), k ≤ p.jobs.length ∧ i = .int .i64 k ∧ p.jobs.all (jobOk p) = (p.jobs.drop k).all (jobOk p) ∧ Blk wr w.heap.size 25 #[.int .i64 p.op, .int .i64 p.cl, .slice aH p.hol.length cH, .int .i64 p.mach, .slice aS p.setup.length cS, .slice aJ p.jobs.length cJ] ∧ Below w.heap.size w wr) (fun i _ => p.jobs.length - (intOf i).toNat)
          case atStart => exact ⟨0, Nat.zero_le _, rfl, rfl, hblk, hbel⟩
          case round =>
            clear hblk hbel c5
            obtain ⟨k, hk, rfl, hs, hblk, hbel⟩ := hrel
            have HS3 := hide hs
            have c5 := hblk.cell_ 5 rfl
            clear hs
            by_cases hlt : k < p.jobs.length
            · obtain ⟨l, b, off, A', c', hx, hA, hb, hc, hSl⟩ := jobs_at (hS3.keep fun _ hp => hbel.cell hp) hlt
              have hl := H4.out l (List.mem_of_getElem? hx)
              have HX := hide hx
              subst hA
              clear hx
              have hmf : ∀ (fn : Fn) (first cap : Array Value) (w : World), (Instr.makeFunc fn first cap).run Try.prog w = .ok (.func fn first cap) w := fun _ _ _ _ => rfl
              have HJ : Hid (jobOk p l = (decide (l.length ≤ 8) && l.all (stepOk p))) := rfl
              by_cases h8 : 8 < l.length
              · go_wp2_with (go_at_call 50; refine (within_any _ _ _ _).mono ?_; rintro e w' ⟨rfl, rfl⟩)
                go_ret
                exact ⟨ret_bool (by rw [HV4.out, HS3.out, all_drop HX.out, HJ.out]; simp; omega), hbel.alloc hbel.size _⟩
              · go_wp2_with fail
                refine (containsStep_any ⟨p, aH, cH, aS, cS, _, cJ⟩ A' c' l _ _ (hblk.alloc _) (by omega) (by omega) (by omega) (by omega) (by omega) (by omega) ((hSl.more hbel.size).below ((Below.refl _ _).alloc (Nat.le_refl _) _) |>.more (by simp))).mono ?_
                rintro e w2 ⟨rfl, hb2⟩
                have hb3 : Below w.heap.size w w2 := (hbel.alloc hbel.size _).trans (hb2.mono (by simp; have := hbel.size; omega))
                have hblk2 := (hblk.alloc _).below hb2 (by simp; have := hblk.lt; omega)
                cases hany : l.any fun x => !stepOk p x
                · have hall : jobOk p l = true := by
                    rw [HJ.out]
                    have : l.all (stepOk p) = true := by
                      rw [List.all_eq_true]; intro x hx
                      have := List.any_eq_false.1 hany x hx
                      simpa using this
                    rw [this]; simp; omega
                  have HA := hide hall
                  clear hall
                  go_wp2
                  go_roundw
                  case rel => exact ⟨k + 1, by omega, by go_num, by rw [HS3.out, all_drop HX.out, HA.out]; rfl, hblk2, hb3⟩
                  case measure => simp [intOf]; omega
                · have hno : jobOk p l = false := by
                    rw [HJ.out]
                    have : l.all (stepOk p) = false := by
                      obtain ⟨x, hx, hx2⟩ := List.any_eq_true.1 hany
                      rw [List.all_eq_false]
                      exact ⟨x, hx, by simpa using hx2⟩
                    rw [this]; simp
                  have HA := hide hno
                  clear hno
                  go_wp2
                  go_ret
                  exact ⟨ret_bool (by rw [HV4.out, HS3.out, all_drop HX.out, HA.out]; rfl), hb3⟩
            · obtain rfl : k = p.jobs.length := by omega
              go_wp2_with fail
              go_ret
              exact ⟨ret_bool (by rw [HV4.out, HS3.out, nomore]; rfl), hbel⟩
end Go.Proofs.Ytcpnfcnobnjhdaa

/- Which shops are valid: Valid of the specification, the walk. -/
namespace Go.Proofs.Ytcpnfcnobnjhdaa
open Go.RowKit

set_option maxHeartbeats 4000000 in
set_option maxRecDepth 100000 in
theorem refValid_any (s : Sh) (w : World) (hS : ShAt w w.heap.size s) (m1 : s.p.hol.length ≤ 9223372036854775807) (m2 : s.p.setup.length ≤ 9223372036854775807) (m3 : s.p.jobs.length ≤ 9223372036854775807) (m4 : ∀ l ∈ s.p.jobs, l.length ≤ 9223372036854775807) :
    Calls Try.prog 19 #[.agg #[.int .i64 s.p.op, .int .i64 s.p.cl, .slice s.aH s.p.hol.length s.cH, .int .i64 s.p.mach, .slice s.aS s.p.setup.length s.cS, .slice s.aJ s.p.jobs.length s.cJ]] w fun e w' => e = .returned (.bool (validShop s.p)) ∧ Below w.heap.size w w' := by
  obtain ⟨p, aH, cH, aS, cS, aJ, cJ⟩ := s
  obtain ⟨hS1, hS2, hS3⟩ := hS
  dsimp only at *
  have HV : Hid (validShop p = (headOk p && holsOk (-1) p.hol && p.setup.all (fun n => inB 0 n 1000) && p.jobs.all (jobOk p))) := rfl
  have HH : Hid (headOk p = (decide (0 ≤ p.op) && decide (p.op < p.cl) && decide (p.cl ≤ 1440) && decide (p.hol.length ≤ 400) && inB 1 p.mach 6 && decide ((p.setup.length : Int) = p.mach) && decide (p.jobs.length ≤ 12))) := rfl
  have H4 := hide m4
  clear m4
  by_cases g1 : p.op < 0
  · go_enter Try.func19, Try.ntmps19
    go_wp2_with (go_at_call 48; refine (refWithin_any _ _ _ _).mono ?_; rintro e w' ⟨rfl, rfl⟩)
    go_ret
    have : ¬ (0 ≤ p.op) := by omega
    exact ⟨ret_bool (by rw [HV.out, HH.out]; simp [this]), (Below.refl _ _).alloc (Nat.le_refl _) _⟩
  by_cases g2 : p.cl ≤ p.op
  · go_enter Try.func19, Try.ntmps19
    go_wp2_with (go_at_call 48; refine (refWithin_any _ _ _ _).mono ?_; rintro e w' ⟨rfl, rfl⟩)
    go_ret
    have : ¬ (p.op < p.cl) := by omega
    exact ⟨ret_bool (by rw [HV.out, HH.out]; simp [this]), (Below.refl _ _).alloc (Nat.le_refl _) _⟩
  by_cases g3 : 1440 < p.cl
  · go_enter Try.func19, Try.ntmps19
    go_wp2_with (go_at_call 48; refine (refWithin_any _ _ _ _).mono ?_; rintro e w' ⟨rfl, rfl⟩)
    go_ret
    have : ¬ (p.cl ≤ 1440) := by omega
    exact ⟨ret_bool (by rw [HV.out, HH.out]; simp [this]), (Below.refl _ _).alloc (Nat.le_refl _) _⟩
  by_cases g4 : 400 < p.hol.length
  · go_enter Try.func19, Try.ntmps19
    go_wp2_with (go_at_call 48; refine (refWithin_any _ _ _ _).mono ?_; rintro e w' ⟨rfl, rfl⟩)
    go_ret
    have : ¬ (p.hol.length ≤ 400) := by omega
    exact ⟨ret_bool (by rw [HV.out, HH.out]; simp [this]), (Below.refl _ _).alloc (Nat.le_refl _) _⟩
  cases g5 : inB 1 p.mach 6
  · go_enter Try.func19, Try.ntmps19
    go_wp2_with (go_at_call 48; refine (refWithin_any _ _ _ _).mono ?_; rintro e w' ⟨rfl, rfl⟩)
    go_ret
    skip
    exact ⟨ret_bool (by rw [HV.out, HH.out]; simp [g5]), (Below.refl _ _).alloc (Nat.le_refl _) _⟩
  by_cases g6 : ((p.setup.length : Int) != p.mach) = true
  · go_enter Try.func19, Try.ntmps19
    go_wp2_with (go_at_call 48; refine (refWithin_any _ _ _ _).mono ?_; rintro e w' ⟨rfl, rfl⟩)
    go_ret
    have : ¬ ((p.setup.length : Int) = p.mach) := by simpa using g6
    exact ⟨ret_bool (by rw [HV.out, HH.out]; simp [this]), (Below.refl _ _).alloc (Nat.le_refl _) _⟩
  by_cases g7 : 12 < p.jobs.length
  · go_enter Try.func19, Try.ntmps19
    go_wp2_with (go_at_call 48; refine (refWithin_any _ _ _ _).mono ?_; rintro e w' ⟨rfl, rfl⟩)
    go_ret
    have : ¬ (p.jobs.length ≤ 12) := by omega
    exact ⟨ret_bool (by rw [HV.out, HH.out]; simp [this]), (Below.refl _ _).alloc (Nat.le_refl _) _⟩
  have g5' := inB_iff.1 g5
  have g6' : ((p.setup.length : Int) != p.mach) = false := by simpa using g6
  have hv : validShop p = (holsOk (-1) p.hol && p.setup.all (fun n => inB 0 n 1000) && p.jobs.all (jobOk p)) := by
    have e6 : (p.setup.length : Int) = p.mach := by simpa using g6
    have a1 : 0 ≤ p.op := by omega
    have a2 : p.op < p.cl := by omega
    have a3 : p.cl ≤ 1440 := by omega
    have a4 : p.hol.length ≤ 400 := by omega
    have a7 : p.jobs.length ≤ 12 := by omega
    rw [HV.out, HH.out, g5]; simp [e6, a1, a2, a3, a4, a7]
  have HV2 := hide hv
  obtain ⟨g51, g52⟩ := g5'
  clear hv g6
  go_enter Try.func19, Try.ntmps19
  go_wp2_with (go_at_call 48; refine (refWithin_any _ _ _ _).mono ?_; rintro e w' ⟨rfl, rfl⟩)
  go_loopw [3] (fun i wr => ∃ (k : Nat) (prev : Int), k ≤ p.hol.length ∧ i = .int .i64 k ∧ holsOk (-1) p.hol = holsOk prev (p.hol.drop k) ∧ (∀ j, k = j + 1 → p.hol[j]? = some prev) ∧ (k = 0 → prev = -1) ∧ Blk wr w.heap.size 25 #[.int .i64 p.op, .int .i64 p.cl, .slice aH p.hol.length cH, .int .i64 p.mach, .slice aS p.setup.length cS, .slice aJ p.jobs.length cJ] ∧ Below w.heap.size w wr) (fun i _ => p.hol.length - (intOf i).toNat)
  case atStart => exact ⟨0, -1, Nat.zero_le _, rfl, rfl, fun j h => by omega, fun _ => rfl, Blk.new _ _ _, (Below.refl _ _).alloc (Nat.le_refl _) _⟩
  case round =>
    obtain ⟨k, prev, hk, rfl, hs, hp, hp0, hblk, hbel⟩ := hrel
    have HS := hide hs
    have c2 := hblk.cell_ 2 rfl
    have c4 := hblk.cell_ 4 rfl
    clear hs
    by_cases hlt : k < p.hol.length
    · obtain ⟨d, b, off, hx, hA, hb, hc⟩ := ints_at' (hS1.below hbel) hlt
      have HX := hide hx
      subst hA
      clear hx
      cases hd : inB 0 d 10000
      · go_wp2_with fail
        refine wp_region_quiet (C := fun w' => ∃ u : Since wr, w' = u.w) (by kernel_rfl) (by kernel_rfl) (Since.start wr) ?_
        dsimp only
        have y2 := Since.cell c2
        have yc := Since.cell hc
        skip
        repeat (go_big_quiet_step ((go_at_call 48; exact Since.calls_same (refWithin_any _ _ _ _))))
        refine wpQuiet_nil ?_
        rintro _ ⟨u, rfl⟩
        have hblk := hblk.below u.h hblk.lt
        have hbel := hbel.trans (u.h.mono hbel.size)
        go_wp2_with fail
        go_ret
        exact ⟨ret_bool (by rw [HV2.out, HS.out, holsOk_bad1 HX.out hd]; rfl), hbel⟩
      · rcases k with _ | j
        · have hpe := hp0 rfl
          have hd0 := (inB_iff.1 hd).1
          have HE := hide hpe
          clear hpe hp hp0
          rw [Nat.add_zero] at hc
          go_wp2_with fail
          refine wp_region_quiet (C := fun w' => ∃ u : Since wr, w' = u.w) (by kernel_rfl) (by kernel_rfl) (Since.start wr) ?_
          dsimp only
          have y2 := Since.cell c2
          have yc := Since.cell hc
          skip
          repeat (go_big_quiet_step ((go_at_call 48; exact Since.calls_same (refWithin_any _ _ _ _))))
          refine wpQuiet_nil ?_
          rintro _ ⟨u, rfl⟩
          have hblk := hblk.below u.h hblk.lt
          have hbel := hbel.trans (u.h.mono hbel.size)
          go_wp2_with fail
          go_roundw
          case rel => exact ⟨1, d, by omega, by go_num, by rw [HS.out]; exact holsOk_good HX.out hd (by rw [HE.out]; omega), (by intro j hj; have e : j = 0 := (by omega); rw [e]; exact HX.out), fun h => by omega, hblk, hbel⟩
          case measure => simp [intOf]; omega
        · have hpr := hp j rfl
          obtain ⟨d', b', off', hx', hA', hb', hc'⟩ := ints_at' (k := j) (hS1.below hbel) (by omega)
          obtain ⟨rfl, rfl⟩ : b = b' ∧ off = off' := by injection hA' with hA'; injection hA' with h1 h2; exact ⟨h1, h2⟩
          obtain rfl : d' = prev := by rw [hpr] at hx'; injection hx' with hx'; exact hx'.symm
          clear hp hp0 hpr hx' hA'
          by_cases hlt2 : d ≤ d'
          · go_wp2_with fail
            refine wp_region_quiet (C := fun w' => ∃ u : Since wr, w' = u.w) (by kernel_rfl) (by kernel_rfl) (Since.start wr) ?_
            dsimp only
            have y2 := Since.cell c2
            have yc := Since.cell hc
            have yc' := Since.cell hc'
            repeat (go_big_quiet_step ((go_at_call 48; exact Since.calls_same (refWithin_any _ _ _ _))))
            refine wpQuiet_nil ?_
            rintro _ ⟨u, rfl⟩
            have hblk := hblk.below u.h hblk.lt
            have hbel := hbel.trans (u.h.mono hbel.size)
            go_wp2_with fail
            go_ret
            exact ⟨ret_bool (by rw [HV2.out, HS.out, holsOk_bad2 HX.out hlt2]; rfl), hbel⟩
          · go_wp2_with fail
            refine wp_region_quiet (C := fun w' => ∃ u : Since wr, w' = u.w) (by kernel_rfl) (by kernel_rfl) (Since.start wr) ?_
            dsimp only
            have y2 := Since.cell c2
            have yc := Since.cell hc
            have yc' := Since.cell hc'
            repeat (go_big_quiet_step ((go_at_call 48; exact Since.calls_same (refWithin_any _ _ _ _))))
            refine wpQuiet_nil ?_
            rintro _ ⟨u, rfl⟩
            have hblk := hblk.below u.h hblk.lt
            have hbel := hbel.trans (u.h.mono hbel.size)
            go_wp2_with fail
            go_roundw
            case rel => exact ⟨j + 1 + 1, d, by omega, by go_num, by rw [HS.out]; exact holsOk_good HX.out hd (by omega), (by intro j' hj; have e : j' = j + 1 := (by omega); rw [e]; exact HX.out), fun h => by omega, hblk, hbel⟩
            case measure => simp [intOf]; omega
    · obtain rfl : k = p.hol.length := by omega
      have h1 : holsOk (-1) p.hol = true := by rw [HS.out, nomore]; rfl
      have HV3 := hide (show validShop p = (p.setup.all (fun n => inB 0 n 1000) && p.jobs.all (jobOk p)) by rw [HV2.out, h1]; rfl)
      clear h1 hp hp0
      go_wp2_with fail
      go_loopw [4] (fun i wr => ∃ (k : Nat), k ≤ p.setup.length ∧ i = .int .i64 k ∧ p.setup.all (fun n => inB 0 n 1000) = (p.setup.drop k).all (fun n => inB 0 n 1000) ∧ Blk wr w.heap.size 25 #[.int .i64 p.op, .int .i64 p.cl, .slice aH p.hol.length cH, .int .i64 p.mach, .slice aS p.setup.length cS, .slice aJ p.jobs.length cJ] ∧ Below w.heap.size w wr) (fun i _ => p.setup.length - (intOf i).toNat)
      case atStart => exact ⟨0, Nat.zero_le _, rfl, rfl, hblk, hbel⟩
      case round =>
        clear hblk hbel c4
        obtain ⟨k, hk, rfl, hs, hblk, hbel⟩ := hrel
        have HS2 := hide hs
        have c4 := hblk.cell_ 4 rfl
        have c5 := hblk.cell_ 5 rfl
        clear hs
        by_cases hlt : k < p.setup.length
        · obtain ⟨d, b, off, hx, hA, hb, hc⟩ := ints_at' (hS2.below hbel) hlt
          have HX := hide hx
          subst hA
          clear hx
          cases hd : inB 0 d 1000
          · go_wp2_with (go_at_call 48; refine (refWithin_any _ _ _ _).mono ?_; rintro e w' ⟨rfl, rfl⟩)
            go_ret
            exact ⟨ret_bool (by rw [HV3.out, HS2.out, all_drop HX.out, hd]; rfl), hbel⟩
          · go_wp2_with (go_at_call 48; refine (refWithin_any _ _ _ _).mono ?_; rintro e w' ⟨rfl, rfl⟩)
            go_roundw
            case rel => exact ⟨k + 1, by omega, by go_num, by rw [HS2.out, all_drop HX.out, hd]; rfl, hblk, hbel⟩
            case measure => simp [intOf]; omega
        · obtain rfl : k = p.setup.length := by omega
          have h1 : p.setup.all (fun n => inB 0 n 1000) = true := by rw [HS2.out, nomore]; rfl
          have HV4 := hide (show validShop p = p.jobs.all (jobOk p) by rw [HV3.out, h1]; rfl)
          clear h1
          go_wp2_with fail
          go_loopw [5] (fun i wr => ∃ (k : Nat), k ≤ p.jobs.length ∧ i = .int .i64 k ∧ p.jobs.all (jobOk p) = (p.jobs.drop k).all (jobOk p) ∧ Blk wr w.heap.size 25 #[.int .i64 p.op, .int .i64 p.cl, .slice aH p.hol.length cH, .int .i64 p.mach, .slice aS p.setup.length cS, .slice aJ p.jobs.length cJ] ∧ Below w.heap.size w wr) (fun i _ => p.jobs.length - (intOf i).toNat)
          case atStart => exact ⟨0, Nat.zero_le _, rfl, rfl, hblk, hbel⟩
          case round =>
            clear hblk hbel c5
            obtain ⟨k, hk, rfl, hs, hblk, hbel⟩ := hrel
            have HS3 := hide hs
            have c5 := hblk.cell_ 5 rfl
            clear hs
            by_cases hlt : k < p.jobs.length
            · obtain ⟨l, b, off, A', c', hx, hA, hb, hc, hSl⟩ := jobs_at (hS3.keep fun _ hp => hbel.cell hp) hlt
              have hl := H4.out l (List.mem_of_getElem? hx)
              have HX := hide hx
              subst hA
              clear hx
              have HJ : Hid (jobOk p l = (decide (l.length ≤ 8) && l.all (stepOk p))) := rfl
              by_cases h8 : 8 < l.length
              · go_wp2_with fail
                go_ret
                exact ⟨ret_bool (by rw [HV4.out, HS3.out, all_drop HX.out, HJ.out]; simp; omega), hbel⟩
              · have hJ1 : jobOk p l = l.all (stepOk p) := by rw [HJ.out]; simp; omega
                have HJ1 := hide hJ1
                clear hJ1
                obtain ⟨wo, rfl⟩ : ∃ wo : World, wo = wr := ⟨_, rfl⟩
                have hS1' := hS1.below hbel
                have hS2' := hS2.below hbel
                have hS3' := hS3.keep fun _ hp => hbel.cell hp
                have hSl' := hSl
                go_wp2_with fail
                go_loopw [7] (fun i wr => ∃ (q : Nat), q ≤ l.length ∧ i = .int .i64 q ∧ l.all (stepOk p) = (l.drop q).all (stepOk p) ∧ Blk wr w.heap.size 25 #[.int .i64 p.op, .int .i64 p.cl, .slice aH p.hol.length cH, .int .i64 p.mach, .slice aS p.setup.length cS, .slice (some ⟨b, off, none⟩) p.jobs.length cJ] ∧ Below wo.heap.size wo wr ∧ Below w.heap.size w wr) (fun i _ => l.length - (intOf i).toNat)
                case atStart => exact ⟨0, Nat.zero_le _, rfl, rfl, hblk, Below.refl _ _, hbel⟩
                case round =>
                  clear hblk c5
                  obtain ⟨q, hq, rfl, hs, hblk, hbo, hbel2⟩ := hrel
                  have HS4 := hide hs
                  clear hs
                  by_cases hlt2 : q < l.length
                  · obtain ⟨x, b2, off2, hx, hA2, hb2, e0, e1, e2, e3⟩ := steps_at ((hSl.more hbel.size).below hbo) hlt2
                    have HX2 := hide hx
                    subst hA2
                    clear hx
                    have hSh : ShAt wr wr.heap.size ⟨p, aH, cH, aS, cS, some ⟨b, off, none⟩, cJ⟩ := ⟨(hS1.below hbel2).more hbel2.size, (hS2.below hbel2).more hbel2.size, (hS3.keep fun _ hp => hbel2.cell hp).more hbel2.size⟩
                    have HSh := hide hSh
                    clear hSh
                    go_wp2_with fail
                    refine wp_region_quiet (C := fun w' => ∃ u : Since wr, w' = u.w) (by kernel_rfl) (by kernel_rfl) (Since.start wr) ?_
                    dsimp only
                    have y0 := Since.cell (hblk.cell_ 0 rfl)
                    have y1 := Since.cell (hblk.cell_ 1 rfl)
                    have y2 := Since.cell (hblk.cell_ 2 rfl)
                    have y3 := Since.cell (hblk.cell_ 3 rfl)
                    have y4 := Since.cell (hblk.cell_ 4 rfl)
                    have y5 := Since.cell (hblk.cell_ 5 rfl)
                    have z0 := Since.cell e0
                    have z1 := Since.cell e1
                    have z2 := Since.cell e2
                    have z3 := Since.cell e3
                    repeat (go_big_quiet_step ((go_at_call 49; exact Since.calls (refStep_any ⟨p, aH, cH, aS, cS, some ⟨b, off, none⟩, cJ⟩ x _ (by omega) (by omega) (by omega) (by omega) (by omega)))))
                    refine wpQuiet_nil ?_
                    rintro _ ⟨u, rfl⟩
                    have hb3 := hbel2.trans (u.h.mono hbel2.size)
                    cases hok : stepOk p x
                    · go_wp2
                      go_ret
                      exact ⟨ret_bool (by rw [HV4.out, HS3.out, all_drop HX.out, HJ1.out, HS4.out, all_drop HX2.out, hok]; rfl), hb3⟩
                    · go_wp2
                      go_roundw
                      case rel => exact ⟨q + 1, by omega, by go_num, by rw [HS4.out, all_drop HX2.out, hok]; rfl, hblk.below u.h hblk.lt, hbo.trans (u.h.mono hbo.size), hb3⟩
                      case measure => simp [intOf]; omega
                  · obtain rfl : q = l.length := by omega
                    have h1 : jobOk p l = true := by rw [HJ1.out, HS4.out, nomore]; rfl
                    have HA := hide h1
                    clear h1
                    go_wp2_with fail
                    go_roundw
                    case rel => exact ⟨k + 1, by omega, by go_num, by rw [HS3.out, all_drop HX.out, HA.out]; rfl, hblk, hbel2⟩
                    case measure => simp [intOf]; omega
            · obtain rfl : k = p.jobs.length := by omega
              go_wp2_with fail
              go_ret
              exact ⟨ret_bool (by rw [HV4.out, HS3.out, nomore]; rfl), hbel⟩
end Go.Proofs.Ytcpnfcnobnjhdaa

/- slices.BinarySearch at []int: the walk; whether a day is free. -/
namespace Go.Proofs.Ytcpnfcnobnjhdaa
open Go.RowKit
theorem less_any (a b : Int) (w : World) : Calls Try.prog 87 #[.int .i64 a, .int .i64 b] w fun e w' => e = .returned (.bool (decide (a < b))) ∧ w = w' := by
  by_cases h : a < b
  · go_enter Try.func87, Try.ntmps87
    go_wp2
    go_ret
    exact ⟨ret_bool (by simp [h]), rfl⟩
  · go_enter Try.func87, Try.ntmps87
    go_wp2
    go_ret
    exact ⟨ret_bool (by simp; omega), rfl⟩
theorem nan_any (a : Int) (w : World) : Calls Try.prog 88 #[.int .i64 a] w fun e w' => e = .returned (.bool false) ∧ w = w' := by
  go_enter Try.func88, Try.ntmps88
  go_wp2
  go_ret
  exact ⟨rfl, rfl⟩

/-- how many elements are less than x -/
def lbN (l : List Int) (x : Int) : Nat := l.countP fun y => decide (y < x)
theorem lb_of {x : Int} : ∀ {l : List Int} {i : Nat}, i ≤ l.length → (∀ (j : Nat) y, l[j]? = some y → j < i → y < x) → (∀ (j : Nat) y, l[j]? = some y → i ≤ j → x ≤ y) → lbN l x = i
  | [], i, hi, _, _ => by simp at hi; simp [lbN, hi]
  | y :: l, 0, _, _, h2 => by
    have h := lb_of (l := l) (i := 0) (x := x) (Nat.zero_le _) (fun j y _ hj => by omega) (fun j y hy _ => h2 (j + 1) y (by simpa using hy) (by omega))
    have := h2 0 y rfl (Nat.le_refl _)
    unfold lbN at h ⊢
    rw [List.countP_cons, h]
    simp; omega
  | y :: l, i + 1, hi, h1, h2 => by
    have h := lb_of (l := l) (i := i) (x := x) (by simpa using hi) (fun j y hy hj => h1 (j + 1) y (by simpa using hy) (by omega)) (fun j y hy hj => h2 (j + 1) y (by simpa using hy) (by omega))
    have := h1 0 y rfl (by omega)
    unfold lbN at h ⊢
    rw [List.countP_cons, h]
    simp; omega
/-- strictly ascending -/
def Asc (l : List Int) : Prop := ∀ (i j : Nat) y z, i < j → l[i]? = some y → l[j]? = some z → y < z
def hasB (l : List Int) (x : Int) : Bool := l.contains x
theorem asc_has {l : List Int} {x y : Int} {i : Nat} (h : Asc l) (hi : l[i]? = some y) (h1 : ∀ (j : Nat) z, l[j]? = some z → j < i → z < x) (h2 : x ≤ y) : hasB l x = (y == x) := by
  unfold hasB
  rw [Bool.eq_iff_iff, List.contains_iff_mem, beq_iff_eq]
  constructor
  · intro hm
    obtain ⟨j, hj⟩ := List.getElem?_of_mem hm
    rcases Nat.lt_trichotomy j i with hlt | rfl | hgt
    · have := h1 j x hj hlt; omega
    · rw [hi] at hj; injection hj
    · have := h i j y x hgt hi hj; omega
  · rintro rfl
    exact List.mem_of_getElem? hi
theorem asc_no {l : List Int} {x : Int} (h1 : ∀ (j : Nat) z, l[j]? = some z → z < x) : hasB l x = false := by
  unfold hasB
  rw [← Bool.not_eq_true, List.contains_iff_mem]
  intro hm
  obtain ⟨j, hj⟩ := List.getElem?_of_mem hm
  have := h1 j x hj
  omega
/-- the loop's state -/
def SearchAt (l : List Int) (x : Int) (i j : Nat) : Prop :=
  i ≤ j ∧ j ≤ l.length ∧ (∀ (k : Nat) y, l[k]? = some y → k < i → y < x) ∧ (∀ (k : Nat) y, l[k]? = some y → j ≤ k → x ≤ y)

set_option maxRecDepth 100000 in
theorem search_any (x : Int) (A : Option Addr) (c : Nat) (l : List Int) (w : World) (hlen : l.length ≤ 1000) (ha : Asc l) (hS : Slc intEnc 1 w w.heap.size A l) :
    Calls Try.prog 76 #[.slice A l.length c, .int .i64 x] w fun e w' => e = .returned (.tuple #[.int .i64 (lbN l x), .bool (hasB l x)]) ∧ w = w' := by
  have HA := hide ha
  clear ha
  go_enter Try.func76, Try.ntmps76
  go_wp2
  go_loop [7, 8] (fun a b => ∃ i j : Nat, i ≤ j ∧ j ≤ l.length ∧ a = .int .i64 i ∧ b = .int .i64 j ∧ SearchAt l x i j) (fun a b => (intOf b).toNat - (intOf a).toNat)
  case atStart => exact ⟨0, l.length, Nat.zero_le _, Nat.le_refl _, rfl, rfl, Nat.zero_le _, Nat.le_refl _, fun k y _ h => by omega, fun k y hy h => by have := (List.getElem?_eq_some_iff.1 hy).1; omega⟩
  case round =>
    obtain ⟨i, j, hij, hj, rfl, rfl, hat⟩ := hrel
    have HT := hide hat
    clear hat
    by_cases h : i < j
    · obtain ⟨y, b, off, hx, rfl, hb, hc⟩ := ints_at' (k := (i + j) / 2) hS (by omega)
      have HX := hide hx
      clear hx
      by_cases hy : y < x
      · have hd : decide (y < x) = true := by simpa using hy
        go_wp2_with (go_at_call 87; refine (less_any _ _ _).mono ?_; rintro e w' ⟨rfl, rfl⟩)
        go_round
        case rel => 
          obtain ⟨a1, a2, a3, a4⟩ := HT.out
          refine ⟨(i + j) / 2 + 1, j, by omega, hj, by go_num, rfl, by omega, hj, fun k z hz hk => ?_, a4⟩
          by_cases hke : k = (i + j) / 2
          · rw [hke, HX.out] at hz; injection hz with hz; omega
          · by_cases hki : k < (i + j) / 2
            · have := HA.out k ((i + j) / 2) z y hki hz HX.out; omega
            · omega
        case measure => simp [intOf]; omega
      · have hd : decide (y < x) = false := by simpa using hy
        go_wp2_with (go_at_call 87; refine (less_any _ _ _).mono ?_; rintro e w' ⟨rfl, rfl⟩)
        go_round
        case rel => 
          obtain ⟨a1, a2, a3, a4⟩ := HT.out
          refine ⟨i, (i + j) / 2, by omega, by omega, rfl, by go_num, by omega, by omega, a3, fun k z hz hk => ?_⟩
          by_cases hke : k = (i + j) / 2
          · rw [hke, HX.out] at hz; injection hz with hz; omega
          · have := HA.out ((i + j) / 2) k y z (by omega) HX.out hz; omega
        case measure => simp [intOf]; omega
    · obtain rfl : i = j := by omega
      by_cases hl : i < l.length
      · obtain ⟨y, b, off, hx, rfl, hb, hc⟩ := ints_at' (k := i) hS hl
        have e1 : lbN l x = i := lb_of HT.out.2.1 HT.out.2.2.1 HT.out.2.2.2
        have e2 : hasB l x = (y == x) := asc_has HA.out hx HT.out.2.2.1 (HT.out.2.2.2 i y hx (Nat.le_refl _))
        have E1 := hide e1
        have E2 := hide e2
        clear e1 e2 hx
        by_cases hyx : y = x
        · have hd : (y == x) = true := by simpa using hyx
          have E3 := hide hd
          clear hyx
          go_wp2_with (go_at_call 88; refine (nan_any _ _).mono ?_; rintro e w' ⟨rfl, rfl⟩)
          go_ret2
          exact ⟨ret_ib (by rw [E1.out]) (by rw [E2.out, E3.out]), rfl⟩
        · have hd : (y == x) = false := by simpa using hyx
          have E3 := hide hd
          clear hyx
          go_wp2_with (go_at_call 88; refine (nan_any _ _).mono ?_; rintro e w' ⟨rfl, rfl⟩)
          go_ret2
          exact ⟨ret_ib (by rw [E1.out]) (by rw [E2.out, E3.out]), rfl⟩
      · obtain rfl : i = l.length := by omega
        have e1 : lbN l x = l.length := lb_of (Nat.le_refl _) HT.out.2.2.1 HT.out.2.2.2
        have e2 : hasB l x = false := asc_no fun j z hz => HT.out.2.2.1 j z hz (List.getElem?_eq_some_iff.1 hz).1
        have E1 := hide e1
        have E2 := hide e2
        clear e1 e2
        go_wp2_with fail
        go_ret2
        exact ⟨ret_ib (by rw [E1.out]) (by rw [E2.out]), rfl⟩
end Go.Proofs.Ytcpnfcnobnjhdaa

/- The next start: the plain law. -/
namespace Go.Proofs.Ytcpnfcnobnjhdaa
theorem holsOk_asc : ∀ {l : List Int} {prev : Int}, holsOk prev l = true → (∀ (i : Nat) y, l[i]? = some y → prev < y ∧ 0 ≤ y ∧ y ≤ 10000) ∧ Asc l
  | [], prev, _ => ⟨fun i y h => by simp at h, fun i j y z _ h => by simp at h⟩
  | d :: r, prev, h => by
    simp only [holsOk, Bool.and_eq_true, decide_eq_true_eq] at h
    obtain ⟨⟨h1, h2⟩, h3⟩ := h
    have h1' := inB_iff.1 h1
    obtain ⟨ih1, ih2⟩ := holsOk_asc h3
    refine ⟨fun i y hy => ?_, fun i j y z hij hy hz => ?_⟩
    · cases i with
      | zero => simp at hy; omega
      | succ i => have := ih1 i y (by simpa using hy); omega
    · cases j with
      | zero => omega
      | succ j =>
        cases i with
        | zero =>
          simp at hy
          have := ih1 j z (by simpa using hz)
          omega
        | succ i => exact ih2 i j y z (by omega) (by simpa using hy) (by simpa using hz)
structure VShop (p : Shop) : Prop where
  op0 : 0 ≤ p.op
  opcl : p.op < p.cl
  cl : p.cl ≤ 1440
  holn : p.hol.length ≤ 400
  mach1 : 1 ≤ p.mach
  mach6 : p.mach ≤ 6
  setn : (p.setup.length : Int) = p.mach
  jobn : p.jobs.length ≤ 12
  asc : Asc p.hol
  hol : ∀ (i : Nat) y, p.hol[i]? = some y → 0 ≤ y ∧ y ≤ 10000
  setup : ∀ (i : Nat) y, p.setup[i]? = some y → 0 ≤ y ∧ y ≤ 1000
  steps : ∀ (i : Nat) l, p.jobs[i]? = some l → l.length ≤ 8 ∧ ∀ (j : Nat) x, l[j]? = some x → 0 ≤ x.m ∧ x.m ≤ p.mach - 1 ∧ 1 ≤ x.mi ∧ x.mi ≤ p.cl - p.op ∧ 0 ≤ x.c ∧ x.c ≤ 9 ∧ 0 ≤ x.d ∧ x.d ≤ 10000
theorem valid_facts {p : Shop} (h : validShop p = true) : VShop p := by
  simp only [validShop, headOk, Bool.and_eq_true, decide_eq_true_eq] at h
  obtain ⟨⟨⟨⟨⟨⟨⟨⟨⟨h1, h2⟩, h3⟩, h4⟩, h5⟩, h6⟩, h7⟩, h8⟩, h9⟩, h10⟩ := h
  have h5' := inB_iff.1 h5
  obtain ⟨a1, a2⟩ := holsOk_asc h8
  refine ⟨h1, h2, h3, h4, h5'.1, h5'.2, h6, h7, a2, fun i y hy => ⟨(a1 i y hy).2.1, (a1 i y hy).2.2⟩, fun i y hy => ?_, fun i l hl => ?_⟩
  · exact inB_iff.1 (List.all_eq_true.1 h9 y (List.mem_of_getElem? hy))
  · have hj := List.all_eq_true.1 h10 l (List.mem_of_getElem? hl)
    simp only [jobOk, Bool.and_eq_true, decide_eq_true_eq] at hj
    refine ⟨hj.1, fun j x hx => ?_⟩
    have hs := List.all_eq_true.1 hj.2 x (List.mem_of_getElem? hx)
    simp only [stepOk, Bool.and_eq_true, inB_iff] at hs
    omega
theorem has_bd {p : Shop} (h : VShop p) {d : Int} (hd : hasB p.hol d = true) : 0 ≤ d ∧ d ≤ 10000 := by
  unfold hasB at hd
  rw [List.contains_iff_mem] at hd
  obtain ⟨j, hj⟩ := List.getElem?_of_mem hd
  exact h.hol j d hj
/-- a step of so many minutes that starts at t lies within a shift -/
def shiftB (p : Shop) (t m : Int) : Bool := !hasB p.hol (t / 1440) && decide (p.op ≤ t % 1440) && decide (t % 1440 + m ≤ p.cl)
theorem shiftB_iff {p : Shop} {t m : Int} : shiftB p t m = true ↔ hasB p.hol (t / 1440) = false ∧ p.op ≤ t % 1440 ∧ t % 1440 + m ≤ p.cl := by
  simp [shiftB, and_assoc]
theorem shiftB_no {p : Shop} {t m : Int} (h : hasB p.hol (t / 1440) = true ∨ t % 1440 < p.op ∨ p.cl < t % 1440 + m) : shiftB p t m = false := by
  rw [← Bool.not_eq_true, shiftB_iff]
  rintro ⟨h1, h2, h3⟩
  rcases h with h | h | h
  · rw [h1] at h; cases h
  · omega
  · omega
def IsNext (p : Shop) (t m r : Int) : Prop := t ≤ r ∧ shiftB p r m = true ∧ ∀ r', t ≤ r' → r' < r → shiftB p r' m = false
theorem IsNext.unique {p : Shop} {t m r s : Int} (h : IsNext p t m r) (k : IsNext p t m s) : r = s := by
  rcases Int.lt_trichotomy r s with e | e | e
  · have := k.2.2 r h.1 e; rw [h.2.1] at this; cases this
  · exact e
  · have := h.2.2 s k.1 e; rw [k.2.1] at this; cases this
open Classical in
noncomputable def nextF (p : Shop) (t m : Int) : Int := if h : ∃ r, IsNext p t m r then h.choose else 0
theorem next_eq {p : Shop} {t m r : Int} (h : IsNext p t m r) : nextF p t m = r := by
  unfold nextF
  rw [dif_pos ⟨r, h⟩]
  exact IsNext.unique (Exists.choose_spec ⟨r, h⟩) h

/-- the loop's state: day d, minute a of the day -/
structure NextAt (p : Shop) (t m d a : Int) : Prop where
  d0 : t / 1440 ≤ d
  a0 : p.op ≤ a
  a1 : a < 1440
  le : t ≤ d * 1440 + a
  first : d = t / 1440 ∨ a = p.op
  most : d ≤ 10000 ∨ d ≤ t / 1440 + 1 ∨ d ≤ 10001
  no : ∀ r', t ≤ r' → r' < d * 1440 + a → shiftB p r' m = false
theorem div_of {d a r : Int} (h1 : d * 1440 ≤ r) (h2 : r < d * 1440 + 1440) (ha : r = d * 1440 + a) : r / 1440 = d ∧ r % 1440 = a := by omega
theorem NextAt.start {p : Shop} (hv : VShop p) {t m : Int} (ht : 0 ≤ t) : NextAt p t m (t / 1440) (if t % 1440 < p.op then p.op else t % 1440) := by
  have h1 := hv.op0
  have h2 := hv.opcl
  have h3 := hv.cl
  split
  · refine ⟨Int.le_refl _, Int.le_refl _, by omega, by omega, .inl rfl, by omega, fun r' h4 h5 => shiftB_no (.inr (.inl ?_))⟩
    omega
  · refine ⟨Int.le_refl _, by omega, by omega, by omega, .inl rfl, by omega, fun r' h4 h5 => by omega⟩
theorem NextAt.stop {p : Shop} {t m d a : Int} (h : NextAt p t m d a) (hf : hasB p.hol d = false) (hm : a + m ≤ p.cl) (ha : 0 ≤ a) : IsNext p t m (d * 1440 + a) := by
  have h1 := h.a1
  obtain ⟨e1, e2⟩ := div_of (d := d) (a := a) (r := d * 1440 + a) (by omega) (by omega) rfl
  exact ⟨h.le, shiftB_iff.2 ⟨by rw [e1]; exact hf, by rw [e2]; exact h.a0, by rw [e2]; exact hm⟩, h.no⟩
theorem NextAt.go_on {p : Shop} (hv : VShop p) {t m d a : Int} (h : NextAt p t m d a) (hm1 : p.op + m ≤ p.cl) (hf : hasB p.hol d = true ∨ p.cl < a + m) : NextAt p t m (d + 1) p.op ∧ (d ≤ 10000 ∨ d ≤ t / 1440) := by
  have h1 := hv.op0
  have h2 := hv.opcl
  have h3 := hv.cl
  have k0 := h.d0
  have k1 := h.a0
  have k2 := h.a1
  have k3 := h.le
  have hd : d ≤ 10000 ∨ d ≤ t / 1440 := by
    rcases hf with hf | hf
    · exact .inl (has_bd hv hf).2
    · rcases h.first with e | e
      · exact .inr (by omega)
      · omega
  refine ⟨⟨by omega, Int.le_refl _, by omega, by omega, .inr rfl, by omega, fun r' h4 h5 => ?_⟩, hd⟩
  by_cases hr : r' < d * 1440 + a
  · exact h.no r' h4 hr
  · by_cases hr2 : r' < d * 1440 + 1440
    · have e1 : r' / 1440 = d := by omega
      rcases hf with hf | hf
      · exact shiftB_no (.inl (by rw [e1]; exact hf))
      · exact shiftB_no (.inr (.inr (by omega)))
    · exact shiftB_no (.inr (.inl (by omega)))
theorem NextAt.bd {p : Shop} {t m d a : Int} (ht : 0 ≤ t) (h : NextAt p t m d a) : 0 ≤ d ∧ d ≤ t + 10002 := by
  have := h.d0
  have := h.most
  omega
end Go.Proofs.Ytcpnfcnobnjhdaa

/- The next start: the walks of package shop. -/
namespace Go.Proofs.Ytcpnfcnobnjhdaa
open Go.RowKit

theorem free_any (s : Sh) (d : Int) (w : World) (hS : ShAt w w.heap.size s) (hv : VShop s.p) :
    Calls Try.prog 74 #[.agg #[.int .i64 s.p.op, .int .i64 s.p.cl, .slice s.aH s.p.hol.length s.cH, .int .i64 s.p.mach, .slice s.aS s.p.setup.length s.cS, .slice s.aJ s.p.jobs.length s.cJ], .int .i64 d] w fun e w' => e = .returned (.bool (!hasB s.p.hol d)) ∧ Below w.heap.size w w' := by
  have h4 := hv.holn
  go_enter Try.func74, Try.ntmps74
  go_wp2_with fail
  refine (search_any d s.aH s.cH s.p.hol _ (by omega) hv.asc ((hS.hol.below ((Below.refl _ _).alloc (Nat.le_refl _) _)).more (by simp))).mono ?_
  rintro e w2 ⟨rfl, rfl⟩
  go_wp2
  go_ret
  exact ⟨rfl, (Below.refl _ _).alloc (Nat.le_refl _) _⟩

set_option maxHeartbeats 1000000 in
theorem next_any (s : Sh) (t m : Int) (w : World) (hS : ShAt w w.heap.size s) (hv : VShop s.p) (ht : 0 ≤ t) (ht' : t ≤ 1000000000000) (hm : 1 ≤ m) (hm' : m ≤ s.p.cl - s.p.op) :
    Calls Try.prog 51 #[.agg #[.int .i64 s.p.op, .int .i64 s.p.cl, .slice s.aH s.p.hol.length s.cH, .int .i64 s.p.mach, .slice s.aS s.p.setup.length s.cS, .slice s.aJ s.p.jobs.length s.cJ], .int .i64 t, .int .i64 m] w fun e w' => e = .returned (.int .i64 (nextF s.p t m)) ∧ Below w.heap.size w w' := by
  have v1 := hv.op0
  have v2 := hv.opcl
  have v3 := hv.cl
  have hk := Blk.new w 25 #[.int .i64 s.p.op, .int .i64 s.p.cl, .slice s.aH s.p.hol.length s.cH, .int .i64 s.p.mach, .slice s.aS s.p.setup.length s.cS, .slice s.aJ s.p.jobs.length s.cJ]
  have hw := (Below.refl w.heap.size w).alloc (Nat.le_refl _) (.cells #[.int .i64 s.p.op, .int .i64 s.p.cl, .slice s.aH s.p.hol.length s.cH, .int .i64 s.p.mach, .slice s.aS s.p.setup.length s.cS, .slice s.aJ s.p.jobs.length s.cJ] 25)
  have HS1 := hide (fun (h : t % 1440 < s.p.op) => (by have h0 := NextAt.start (m := m) hv ht; rw [if_pos h] at h0; exact h0 : NextAt s.p t m (t / 1440) s.p.op))
  have HS2 := hide (fun (h : s.p.op ≤ t % 1440) => (by have h0 := NextAt.start (m := m) hv ht; rw [if_neg (by omega)] at h0; exact h0 : NextAt s.p t m (t / 1440) (t % 1440)))
  go_enter Try.func51, Try.ntmps51
  go_wp2_with fail
  generalize w.alloc (.cells #[.int .i64 s.p.op, .int .i64 s.p.cl, .slice s.aH s.p.hol.length s.cH, .int .i64 s.p.mach, .slice s.aS s.p.setup.length s.cS, .slice s.aJ s.p.jobs.length s.cJ] 25) = W at *
  refine wp_region_quiet (C := fun w' => ∃ u : Since W, w' = u.w) (by kernel_rfl) (by kernel_rfl) (Since.start W) ?_
  dsimp only
  have y0 := Since.cell (hk.cell_ 0 rfl)
  repeat (go_big_quiet_step ((fail)))
  refine wpQuiet_nil ?_
  rintro _ ⟨u, rfl⟩
  have hk1 := hk.below u.h hk.lt
  have hw1 := hw.trans (u.h.mono hw.size)
  go_wp2_with fail
  all_goals
    clear hk hw y0
    go_loopw [7, 8] (fun x y wr => ∃ d a : Int, x = .int .i64 d ∧ y = .int .i64 a ∧ NextAt s.p t m d a ∧ Blk wr w.heap.size 25 #[.int .i64 s.p.op, .int .i64 s.p.cl, .slice s.aH s.p.hol.length s.cH, .int .i64 s.p.mach, .slice s.aS s.p.setup.length s.cS, .slice s.aJ s.p.jobs.length s.cJ] ∧ Below w.heap.size w wr) (fun x _ _ => (t / 1440 + 10002 - intOf x).toNat)
    case atStart => first | exact ⟨_, _, rfl, rfl, HS1.out ‹_›, hk1, hw1⟩ | exact ⟨_, _, rfl, rfl, HS2.out ‹_›, hk1, hw1⟩
    case round =>
      clear hk1 hw1
      obtain ⟨d, a, rfl, rfl, hat, hk, hbel⟩ := hrel
      obtain ⟨d0, d1⟩ := hat.bd ht
      have a0 := hat.a0
      have a1 := hat.a1
      have dt := hat.d0
      have HAT := hide hat
      have HSW := hide (hS.on hbel)
      clear hat
      have c0 := hk.cell_ 0 rfl
      have c1 := hk.cell_ 1 rfl
      have c2 := hk.cell_ 2 rfl
      have c3 := hk.cell_ 3 rfl
      have c4 := hk.cell_ 4 rfl
      have c5 := hk.cell_ 5 rfl
      cases hf : hasB s.p.hol d
      · by_cases hle : s.p.cl < a + m
        · have hgo := HAT.out.go_on hv (by omega) (.inr hle)
          go_wp2_with fail
          refine (free_any s d _ HSW.out hv).mono ?_
          rintro e w2 ⟨rfl, hb⟩
          rw [hf]
          have hk2 := hk.below hb hk.lt
          have hb2 := hbel.trans (hb.mono hbel.size)
          have c1' := hk2.cell_ 1 rfl
          go_wp2_with fail
          refine wp_region_quiet (C := fun w' => ∃ u : Since w2, w' = u.w) (by kernel_rfl) (by kernel_rfl) (Since.start w2) ?_
          dsimp only
          have y0 := Since.cell (hk2.cell_ 0 rfl)
          have ed : IntKind.i64.wrap (d + 1) = d + 1 := IntWalk.i64_in _ (by omega)
          repeat (go_big_quiet_step ((fail)))
          refine wpQuiet_nil ?_
          rintro _ ⟨u, rfl⟩
          go_wp2_with fail
          go_roundw
          case rel => exact ⟨d + 1, s.p.op, rfl, rfl, hgo.1, hk2.below u.h hk2.lt, hb2.trans (u.h.mono hb2.size)⟩
          case measure => simp only [intOf]; omega
        · have hst := next_eq (HAT.out.stop hf (by omega) (by omega))
          have HR := hide hst
          clear hst
          go_wp2_with fail
          refine (free_any s d _ HSW.out hv).mono ?_
          rintro e w2 ⟨rfl, hb⟩
          rw [hf]
          have hk2 := hk.below hb hk.lt
          have hb2 := hbel.trans (hb.mono hbel.size)
          have c1' := hk2.cell_ 1 rfl
          go_wp2_with fail
          go_ret
          exact ⟨ret_int HR.out.symm, hb2⟩
      · have hgo := HAT.out.go_on hv (by omega) (.inl hf)
        go_wp2_with fail
        refine (free_any s d _ HSW.out hv).mono ?_
        rintro e w2 ⟨rfl, hb⟩
        rw [hf]
        have hk2 := hk.below hb hk.lt
        have hb2 := hbel.trans (hb.mono hbel.size)
        go_wp2_with fail
        refine wp_region_quiet (C := fun w' => ∃ u : Since w2, w' = u.w) (by kernel_rfl) (by kernel_rfl) (Since.start w2) ?_
        dsimp only
        have y0 := Since.cell (hk2.cell_ 0 rfl)
        have ed : IntKind.i64.wrap (d + 1) = d + 1 := IntWalk.i64_in _ (by omega)
        repeat (go_big_quiet_step ((fail)))
        refine wpQuiet_nil ?_
        rintro _ ⟨u, rfl⟩
        go_wp2_with fail
        go_roundw
        case rel => exact ⟨d + 1, s.p.op, rfl, rfl, hgo.1, hk2.below u.h hk2.lt, hb2.trans (u.h.mono hb2.size)⟩
        case measure => simp only [intOf]; omega

end Go.Proofs.Ytcpnfcnobnjhdaa

/- The next start: the walks of the specification. -/
namespace Go.Proofs.Ytcpnfcnobnjhdaa
open Go.RowKit

theorem has_drop {l : List Int} {k : Nat} {y d : Int} (hk : l[k]? = some y) : hasB (l.drop k) d = (y == d || hasB (l.drop (k + 1)) d) := by
  obtain ⟨hl, hf⟩ := List.getElem?_eq_some_iff.1 hk
  unfold hasB
  rw [List.drop_eq_getElem_cons hl, hf, List.contains_cons, Bool.beq_comm]
theorem hasB_nil (d : Int) : hasB [] d = false := rfl

theorem rfree_any (s : Sh) (d : Int) (w : World) (hS : ShAt w w.heap.size s) (hv : VShop s.p) :
    Calls Try.prog 75 #[.agg #[.int .i64 s.p.op, .int .i64 s.p.cl, .slice s.aH s.p.hol.length s.cH, .int .i64 s.p.mach, .slice s.aS s.p.setup.length s.cS, .slice s.aJ s.p.jobs.length s.cJ], .int .i64 d] w fun e w' => e = .returned (.bool (hasB s.p.hol d)) ∧ Below w.heap.size w w' := by
  have hlen := hv.holn
  obtain ⟨p, aH, cH, aS, cS, aJ, cJ⟩ := s
  obtain ⟨hS1, -, -⟩ := hS
  dsimp only at *
  go_enter Try.func75, Try.ntmps75
  go_wp2_with fail
  go_loopw [5] (fun i wr => ∃ k : Nat, k ≤ p.hol.length ∧ i = .int .i64 k ∧ hasB p.hol d = hasB (p.hol.drop k) d ∧ Blk wr w.heap.size 25 #[.int .i64 p.op, .int .i64 p.cl, .slice aH p.hol.length cH, .int .i64 p.mach, .slice aS p.setup.length cS, .slice aJ p.jobs.length cJ] ∧ Below w.heap.size w wr) (fun i _ => p.hol.length - (intOf i).toNat)
  case atStart => exact ⟨0, Nat.zero_le _, rfl, rfl, Blk.new _ _ _, (Below.refl _ _).alloc (Nat.le_refl _) _⟩
  case round =>
    obtain ⟨k, hk, rfl, hs, hblk, hbel⟩ := hrel
    have HS := hide hs
    have c2 := hblk.cell_ 2 rfl
    clear hs
    by_cases hlt : k < p.hol.length
    · obtain ⟨y, b, off, hx, hA, hb, hc⟩ := ints_at' (hS1.below hbel) hlt
      have HX := hide hx
      subst hA
      clear hx
      cases hd : (y == d)
      · go_wp2_with fail
        go_roundw
        case rel => exact ⟨k + 1, by omega, by go_num, by rw [HS.out, has_drop HX.out, hd]; rfl, hblk, hbel⟩
        case measure => simp [intOf]; omega
      · go_wp2_with fail
        go_ret
        exact ⟨ret_bool (by rw [HS.out, has_drop HX.out, hd]; rfl), hbel⟩
    · obtain rfl : k = p.hol.length := by omega
      go_wp2_with fail
      go_ret
      exact ⟨ret_bool (by rw [HS.out, nomore]; rfl), hbel⟩

theorem shift_any (s : Sh) (t m : Int) (w : World) (hS : ShAt w w.heap.size s) (hv : VShop s.p) (ht : 0 ≤ t) (ht' : t ≤ 1000000000000) (hm : 0 ≤ m) (hm' : m ≤ 1000000000) :
    Calls Try.prog 52 #[.agg #[.int .i64 s.p.op, .int .i64 s.p.cl, .slice s.aH s.p.hol.length s.cH, .int .i64 s.p.mach, .slice s.aS s.p.setup.length s.cS, .slice s.aJ s.p.jobs.length s.cJ], .int .i64 t, .int .i64 m] w fun e w' => e = .returned (.bool (shiftB s.p t m)) ∧ Below w.heap.size w w' := by
  have v1 := hv.op0
  have v2 := hv.opcl
  have v3 := hv.cl
  have hk := Blk.new w 25 #[.int .i64 s.p.op, .int .i64 s.p.cl, .slice s.aH s.p.hol.length s.cH, .int .i64 s.p.mach, .slice s.aS s.p.setup.length s.cS, .slice s.aJ s.p.jobs.length s.cJ]
  have hw := (Below.refl w.heap.size w).alloc (Nat.le_refl _) (.cells #[.int .i64 s.p.op, .int .i64 s.p.cl, .slice s.aH s.p.hol.length s.cH, .int .i64 s.p.mach, .slice s.aS s.p.setup.length s.cS, .slice s.aJ s.p.jobs.length s.cJ] 25)
  have HSW := hS.on hw
  have HE : Hid (shiftB s.p t m = (!hasB s.p.hol (t / 1440) && decide (s.p.op ≤ t % 1440) && decide (t % 1440 + m ≤ s.p.cl))) := rfl
  go_enter Try.func52, Try.ntmps52
  go_wp2_with fail
  generalize w.alloc (.cells #[.int .i64 s.p.op, .int .i64 s.p.cl, .slice s.aH s.p.hol.length s.cH, .int .i64 s.p.mach, .slice s.aS s.p.setup.length s.cS, .slice s.aJ s.p.jobs.length s.cJ] 25) = W at *
  refine (rfree_any s _ W HSW hv).mono ?_
  rintro e w2 ⟨rfl, hb⟩
  have hb2 := hw.trans (hb.mono hw.size)
  have hk2 := hk.below hb hk.lt
  have c0 := hk2.cell_ 0 rfl
  have c1 := hk2.cell_ 1 rfl
  have e1 : IntKind.i64.wrap (1440 * (t / 1440)) = 1440 * (t / 1440) := IntWalk.i64_in _ (by omega)
  have e2 : IntKind.i64.wrap (t - 1440 * (t / 1440)) = t % 1440 := by rw [IntWalk.i64_in _ (by omega)]; omega
  have e3 : IntKind.i64.wrap (t + m) = t + m := IntWalk.i64_in _ (by omega)
  have e4 : IntKind.i64.wrap (t + m - 1440 * (t / 1440)) = t % 1440 + m := by rw [IntWalk.i64_in _ (by omega)]; omega
  cases hf : hasB s.p.hol (t / 1440)
  · by_cases h2 : s.p.op ≤ t % 1440
    · by_cases h3 : t % 1440 + m ≤ s.p.cl
      · go_wp2_with fail
        go_ret
        exact ⟨ret_bool (by rw [HE.out, hf]; simp; omega), hb2⟩
      · go_wp2_with fail
        go_ret
        exact ⟨ret_bool (by rw [HE.out, hf]; simp; omega), hb2⟩
    · go_wp2_with fail
      go_ret
      exact ⟨ret_bool (by rw [HE.out, hf]; simp; omega), hb2⟩
  · go_wp2_with fail
    go_ret
    exact ⟨ret_bool (by rw [HE.out, hf]; simp), hb2⟩

/-- the search's state -/
structure RAt (p : Shop) (t m a : Int) : Prop where
  d0 : t / 1440 ≤ a / 1440
  op : a % 1440 = p.op
  most : a / 1440 ≤ 10001 ∨ a / 1440 ≤ t / 1440 + 1
  no : ∀ r', t ≤ r' → r' < a → shiftB p r' m = false
theorem RAt.start {p : Shop} (hv : VShop p) {t m : Int} (ht : 0 ≤ t) : RAt p t m (1440 * (t / 1440) + p.op) := by
  have h1 := hv.op0
  have h2 := hv.opcl
  have h3 := hv.cl
  refine ⟨by omega, by omega, by omega, fun r' h4 h5 => shiftB_no (.inr (.inl (by omega)))⟩
theorem RAt.stop {p : Shop} {t m a : Int} (h : RAt p t m a) (h1 : t ≤ a) (h2 : shiftB p a m = true) : IsNext p t m a := ⟨h1, h2, h.no⟩
theorem RAt.go_on {p : Shop} (hv : VShop p) {t m a : Int} (h : RAt p t m a) (hm : p.op + m ≤ p.cl) (hts : shiftB p t m = false) (h1 : a < t ∨ shiftB p a m = false) :
    RAt p t m (a + 1440) ∧ (a / 1440 ≤ 10000 ∨ a / 1440 ≤ t / 1440) := by
  have v1 := hv.op0
  have v2 := hv.opcl
  have v3 := hv.cl
  have k0 := h.d0
  have k1 := h.op
  have hday : hasB p.hol (a / 1440) = true ∨ (a < t ∧ p.cl < t % 1440 + m) := by
    by_cases hat : a < t
    · have e : t / 1440 = a / 1440 := by omega
      cases hh : hasB p.hol (a / 1440)
      · right
        refine ⟨hat, ?_⟩
        rw [← Bool.not_eq_true, shiftB_iff, e] at hts
        by_cases hc : p.cl < t % 1440 + m
        · exact hc
        · exact absurd ⟨hh, by omega, by omega⟩ hts
      · exact .inl rfl
    · have h1' : shiftB p a m = false := by
        rcases h1 with h1 | h1
        · omega
        · exact h1
      cases hh : hasB p.hol (a / 1440)
      · rw [← Bool.not_eq_true, shiftB_iff] at h1'
        exact absurd ⟨hh, by omega, by omega⟩ h1'
      · exact .inl rfl
  have hm2 : a / 1440 ≤ 10000 ∨ a / 1440 ≤ t / 1440 := by
    rcases hday with hd | hd
    · exact .inl (has_bd hv hd).2
    · right; omega
  refine ⟨⟨by omega, by omega, by omega, fun r' h4 h5 => ?_⟩, hm2⟩
  by_cases hr : r' < a
  · exact h.no r' h4 hr
  · by_cases hr2 : r' / 1440 = a / 1440
    · rcases hday with hd | hd
      · exact shiftB_no (.inl (by rw [hr2]; exact hd))
      · exact shiftB_no (.inr (.inr (by omega)))
    · exact shiftB_no (.inr (.inl (by omega)))

theorem refNext_any (s : Sh) (t m : Int) (w : World) (hS : ShAt w w.heap.size s) (hv : VShop s.p) (ht : 0 ≤ t) (ht' : t ≤ 100000000000) (hm : 1 ≤ m) (hm' : m ≤ s.p.cl - s.p.op) :
    Calls Try.prog 22 #[.agg #[.int .i64 s.p.op, .int .i64 s.p.cl, .slice s.aH s.p.hol.length s.cH, .int .i64 s.p.mach, .slice s.aS s.p.setup.length s.cS, .slice s.aJ s.p.jobs.length s.cJ], .int .i64 t, .int .i64 m] w fun e w' => e = .returned (.int .i64 (nextF s.p t m)) ∧ Below w.heap.size w w' := by
  have v1 := hv.op0
  have v2 := hv.opcl
  have v3 := hv.cl
  have hk := Blk.new w 25 #[.int .i64 s.p.op, .int .i64 s.p.cl, .slice s.aH s.p.hol.length s.cH, .int .i64 s.p.mach, .slice s.aS s.p.setup.length s.cS, .slice s.aJ s.p.jobs.length s.cJ]
  have hw := (Below.refl w.heap.size w).alloc (Nat.le_refl _) (.cells #[.int .i64 s.p.op, .int .i64 s.p.cl, .slice s.aH s.p.hol.length s.cH, .int .i64 s.p.mach, .slice s.aS s.p.setup.length s.cS, .slice s.aJ s.p.jobs.length s.cJ] 25)
  have HSW := hS.on hw
  cases hts : shiftB s.p t m
  · have hst := RAt.start (m := m) hv ht
    have HST := hide hst
    have e2 : IntKind.i64.wrap (1440 * (t / 1440) + s.p.op) = 1440 * (t / 1440) + s.p.op := IntWalk.i64_in _ (by omega)
    clear hst
    go_enter Try.func22, Try.ntmps22
    go_wp2_with fail
    refine (shift_any s t m _ HSW hv ht (by omega) (by omega) (by omega)).mono ?_
    rintro e w2 ⟨rfl, hb⟩
    rw [hts]
    have hb2 := hw.trans (hb.mono hw.size)
    have hk2 := hk.below hb hk.lt
    have c0 := hk2.cell_ 0 rfl
    go_wp2_with fail
    clear hk hw hb c0
    go_loopw [8] (fun x wr => ∃ a : Int, x = .int .i64 a ∧ RAt s.p t m a ∧ Blk wr w.heap.size 25 #[.int .i64 s.p.op, .int .i64 s.p.cl, .slice s.aH s.p.hol.length s.cH, .int .i64 s.p.mach, .slice s.aS s.p.setup.length s.cS, .slice s.aJ s.p.jobs.length s.cJ] ∧ Below w.heap.size w wr) (fun x _ => (t / 1440 + 10002 - intOf x / 1440).toNat)
    case atStart => exact ⟨_, rfl, HST.out, hk2, hb2⟩
    case round =>
      clear hk2 hb2
      obtain ⟨a, rfl, hat, hk, hbel⟩ := hrel
      have a0 := hat.d0
      have a1 := hat.op
      have a2 := hat.most
      have HAT := hide hat
      have HSW := hide (hS.on hbel)
      clear hat
      have c0 := hk.cell_ 0 rfl
      have c1 := hk.cell_ 1 rfl
      have c2 := hk.cell_ 2 rfl
      have c3 := hk.cell_ 3 rfl
      have c4 := hk.cell_ 4 rfl
      have c5 := hk.cell_ 5 rfl
      by_cases hle : t ≤ a
      · cases hsh : shiftB s.p a m
        · have hgo := HAT.out.go_on hv (by omega) hts (.inr hsh)
          go_wp2_with fail
          refine (shift_any s a m _ HSW.out hv (by omega) (by omega) (by omega) (by omega)).mono ?_
          rintro e w3 ⟨rfl, hb⟩
          rw [hsh]
          go_wp2_with fail
          go_roundw
          case rel => exact ⟨a + 1440, by go_num, hgo.1, hk.below hb hk.lt, hbel.trans (hb.mono hbel.size)⟩
          case measure => simp [intOf]; omega
        · have HR := hide (next_eq (HAT.out.stop hle hsh))
          go_wp2_with fail
          refine (shift_any s a m _ HSW.out hv (by omega) (by omega) (by omega) (by omega)).mono ?_
          rintro e w3 ⟨rfl, hb⟩
          rw [hsh]
          go_wp2_with fail
          go_ret
          exact ⟨ret_int HR.out.symm, hbel.trans (hb.mono hbel.size)⟩
      · have hgo := HAT.out.go_on hv (by omega) hts (.inl (by omega))
        go_wp2_with fail
        go_roundw
        case rel => exact ⟨a + 1440, by go_num, hgo.1, hk, hbel⟩
        case measure => simp [intOf]; omega
  · have hn := next_eq (p := s.p) (t := t) (m := m) ⟨Int.le_refl _, hts, fun r' h1 h2 => by omega⟩
    have HR := hide hn
    clear hn
    go_enter Try.func22, Try.ntmps22
    go_wp2_with fail
    refine (shift_any s t m _ HSW hv ht (by omega) (by omega) (by omega)).mono ?_
    rintro e w2 ⟨rfl, hb⟩
    rw [hts]
    go_wp2_with fail
    go_ret
    exact ⟨ret_int HR.out.symm, hw.trans (hb.mono hw.size)⟩
end Go.Proofs.Ytcpnfcnobnjhdaa

/- Open minutes: the plain law. -/
namespace Go.Proofs.Ytcpnfcnobnjhdaa
theorem lb_le (l : List Int) (x : Int) : lbN l x ≤ l.length := List.countP_le_length
theorem lb_mono (l : List Int) {x y : Int} (h : x ≤ y) : lbN l x ≤ lbN l y := List.countP_mono_left fun z _ hz => by simp at hz ⊢; omega
/-- the list without its first -/
theorem asc_tail {y : Int} {l : List Int} (h : Asc (y :: l)) : Asc l ∧ ∀ z ∈ l, y < z :=
  ⟨fun i j a b hij ha hb => h (i + 1) (j + 1) a b (by omega) (by simpa using ha) (by simpa using hb), fun z hz => by
    obtain ⟨j, hj⟩ := List.getElem?_of_mem hz
    exact h 0 (j + 1) y z (by omega) rfl (by simpa using hj)⟩
theorem lb_succ : ∀ {l : List Int} (_ : Asc l) (x : Int), (lbN l (x + 1) : Int) = lbN l x + (if hasB l x then 1 else 0)
  | [], _, x => rfl
  | y :: l, h, x => by
    obtain ⟨h1, h2⟩ := asc_tail h
    have ih := lb_succ h1 x
    unfold lbN hasB at ih ⊢
    rw [List.countP_cons, List.countP_cons, List.contains_cons]
    by_cases hxy : x = y
    · have hn : l.contains x = false := by
        rw [← Bool.not_eq_true, List.contains_iff_mem]
        intro hm
        have := h2 x hm
        omega
      rw [hn] at ih
      have hb : (x == y) = true := by simpa using hxy
      have e1 : decide (y < x + 1) = true := by simp; omega
      have e2 : decide (y < x) = false := by simp; omega
      rw [hn, hb, e1, e2]
      simp at ih ⊢
      omega
    · have hb : (x == y) = false := by simpa using hxy
      have e : decide (y < x + 1) = decide (y < x) := by
        rw [Bool.eq_iff_iff]; simp; omega
      rw [hb, e, Bool.false_or]
      split at ih <;> simp_all <;> split <;> omega
/-- the open minutes of day d before its minute a -/
def dayO (p : Shop) (d a : Int) : Int := if hasB p.hol d then 0 else max 0 (min a p.cl - p.op)
/-- the open minutes before a time -/
def oB (p : Shop) (t : Int) : Int := (t / 1440 - lbN p.hol (t / 1440)) * (p.cl - p.op) + dayO p (t / 1440) (t % 1440)
theorem mul_sub1 (x w : Int) : (x + 1) * w = x * w + w := by rw [Int.add_mul, Int.one_mul]
/-- within a day, its end included -/
theorem oB_day {p : Shop} (hv : VShop p) {d a : Int} (h0 : 0 ≤ a) (h1 : a ≤ 1440) : oB p (1440 * d + a) = oB p (1440 * d) + dayO p d a := by
  have v1 := hv.op0
  have v2 := hv.opcl
  have v3 := hv.cl
  have e0 : (1440 * d) / 1440 = d := by omega
  have e0' : (1440 * d) % 1440 = 0 := by omega
  have z : dayO p d 0 = 0 := by unfold dayO; split <;> omega
  by_cases h : a = 1440
  · subst h
    have e1 : (1440 * d + 1440) / 1440 = d + 1 := by omega
    have e2 : (1440 * d + 1440) % 1440 = 0 := by omega
    have z' : dayO p (d + 1) 0 = 0 := by unfold dayO; split <;> omega
    unfold oB
    rw [e0, e0', e1, e2, z, z', lb_succ hv.asc d]
    unfold dayO
    cases hh : hasB p.hol d
    · simp only [if_neg Bool.false_ne_true]
      rw [show d + 1 - ((lbN p.hol d : Int) + 0) = d - lbN p.hol d + 1 by omega, mul_sub1]
      omega
    · simp only [if_true]
      rw [show d + 1 - ((lbN p.hol d : Int) + 1) = d - lbN p.hol d by omega]
      omega
  · have e1 : (1440 * d + a) / 1440 = d := by omega
    have e2 : (1440 * d + a) % 1440 = a := by omega
    unfold oB
    rw [e0, e0', e1, e2, z]
    omega
def isO (p : Shop) (t : Int) : Int := if hasB p.hol (t / 1440) = false ∧ p.op ≤ t % 1440 ∧ t % 1440 < p.cl then 1 else 0
theorem oB_succ {p : Shop} (hv : VShop p) (t : Int) : oB p (t + 1) = oB p t + isO p t := by
  have v1 := hv.op0
  have v2 := hv.opcl
  have v3 := hv.cl
  have e : t = 1440 * (t / 1440) + t % 1440 := by omega
  have h1 := oB_day hv (d := t / 1440) (a := t % 1440) (by omega) (by omega)
  have h2 := oB_day hv (d := t / 1440) (a := t % 1440 + 1) (by omega) (by omega)
  rw [← e] at h1
  rw [show 1440 * (t / 1440) + (t % 1440 + 1) = t + 1 by omega] at h2
  rw [h1, h2]
  unfold dayO isO
  cases hh : hasB p.hol (t / 1440)
  · simp only [if_neg Bool.false_ne_true, true_and]
    split <;> omega
  · simp
theorem isO_01 (p : Shop) (t : Int) : 0 ≤ isO p t ∧ isO p t ≤ 1 := by unfold isO; split <;> omega
theorem oB_le {p : Shop} (hv : VShop p) (t : Int) (n : Nat) : oB p t ≤ oB p (t + n) ∧ oB p (t + n) ≤ oB p t + n := by
  induction n with
  | zero => simp
  | succ n ih =>
    have := oB_succ hv (t + n)
    have h1 := isO_01 p (t + n)
    rw [show t + ((n + 1 : Nat) : Int) = t + n + 1 by omega, this]
    omega
theorem oB_mono {p : Shop} (hv : VShop p) {t u : Int} (h : t ≤ u) : oB p t ≤ oB p u ∧ oB p u ≤ oB p t + (u - t) := by
  have := oB_le hv t (u - t).toNat
  rw [show t + ((u - t).toNat : Int) = u by omega] at this
  omega
theorem oB_zero {p : Shop} (hv : VShop p) : oB p 0 = 0 := by
  have v1 := hv.op0
  have v2 := hv.opcl
  have h0 : lbN p.hol 0 = 0 := lb_of (Nat.zero_le _) (fun j y _ h => by omega) (fun j y hy _ => (hv.hol j y hy).1)
  unfold oB dayO
  simp [h0]
  intro _
  omega
theorem oB_pos {p : Shop} (hv : VShop p) {t : Int} (h : 0 ≤ t) : 0 ≤ oB p t ∧ oB p t ≤ t := by
  have := oB_mono hv h
  rw [oB_zero hv] at this
  omega
/-- far enough: as many open minutes as one likes -/
theorem oB_far {p : Shop} (hv : VShop p) {want : Int} (hw : 0 ≤ want) : want ≤ oB p ((want / (p.cl - p.op) + p.hol.length + 2) * 1440) := by
  have v1 := hv.op0
  have v2 := hv.opcl
  have v3 := hv.cl
  generalize hW : p.cl - p.op = W
  have hWp : 0 < W := by omega
  have hq : 0 ≤ want / W := Int.ediv_nonneg hw (by omega)
  have hm : W * (want / W) + want % W = want := Int.mul_ediv_add_emod want W
  have hm2 := Int.emod_lt_of_pos want hWp
  generalize want / W = q at *
  have e : (q + p.hol.length + 2) * 1440 / 1440 = q + p.hol.length + 2 := by omega
  have e' : (q + p.hol.length + 2) * 1440 % 1440 = 0 := by omega
  unfold oB
  rw [e, e', hW]
  have hl := lb_le p.hol (q + p.hol.length + 2)
  have hd : 0 ≤ dayO p (q + p.hol.length + 2) 0 := by unfold dayO; split <;> omega
  have h1 : (q + 2) * W ≤ (q + p.hol.length + 2 - (lbN p.hol (q + p.hol.length + 2) : Int)) * W := Int.mul_le_mul_of_nonneg_right (by omega) (by omega)
  have h2 : (q + 2) * W = W * q + 2 * W := by rw [Int.add_mul, Int.mul_comm q W]
  omega

def IsAfter (p : Shop) (t m r : Int) : Prop := oB p t + m ≤ oB p r ∧ ∀ r', r' < r → oB p r' < oB p t + m
theorem IsAfter.unique {p : Shop} {t m r s : Int} (h : IsAfter p t m r) (k : IsAfter p t m s) : r = s := by
  rcases Int.lt_trichotomy r s with e | e | e
  · have := k.2 r e; have := h.1; omega
  · exact e
  · have := h.2 s e; have := k.1; omega
theorem after_least {p : Shop} (hv : VShop p) {t : Int} {want : Int} (h : oB p t < want) : ∀ n : Nat, want ≤ oB p (t + n) → ∃ r, t < r ∧ r ≤ t + n ∧ want ≤ oB p r ∧ ∀ r', r' < r → oB p r' < want
  | 0, h2 => by simp at h2; omega
  | n + 1, h2 => by
    by_cases h3 : want ≤ oB p (t + n)
    · obtain ⟨r, a, b, c⟩ := after_least hv h n h3
      exact ⟨r, a, by omega, c⟩
    · exact ⟨t + (n + 1 : Nat), by omega, by omega, h2, fun r' hr => by
        have := (oB_mono hv (t := r') (u := t + n) (by omega)).1
        omega⟩
theorem after_ex {p : Shop} (hv : VShop p) {t m : Int} (ht : 0 ≤ t) (hm : 1 ≤ m) : ∃ r, t < r ∧ r ≤ ((oB p t + m) / (p.cl - p.op) + p.hol.length + 2) * 1440 ∧ IsAfter p t m r := by
  have h0 := oB_pos hv ht
  have hf := oB_far hv (want := oB p t + m) (by omega)
  generalize hH : ((oB p t + m) / (p.cl - p.op) + p.hol.length + 2) * 1440 = H at *
  have hlt : t < H := by
    rcases Int.lt_or_le t H with h | h
    · exact h
    · have := (oB_mono hv h).1; omega
  obtain ⟨r, a, b, c, d⟩ := after_least hv (t := t) (want := oB p t + m) (by omega) (H - t).toNat (by rw [show t + ((H - t).toNat : Int) = H by omega]; exact hf)
  exact ⟨r, a, by omega, c, d⟩
open Classical in
noncomputable def afterF (p : Shop) (t m : Int) : Int := if m = 0 then t else if h : ∃ r, IsAfter p t m r then h.choose else 0
theorem after_eq {p : Shop} {t m r : Int} (hm : m ≠ 0) (h : IsAfter p t m r) : afterF p t m = r := by
  unfold afterF
  rw [if_neg hm, dif_pos ⟨r, h⟩]
  exact IsAfter.unique (Exists.choose_spec ⟨r, h⟩) h
theorem after_zero (p : Shop) (t : Int) : afterF p t 0 = t := by unfold afterF; rw [if_pos rfl]
theorem after_is {p : Shop} (hv : VShop p) {t m : Int} (ht : 0 ≤ t) (hm : 1 ≤ m) : IsAfter p t m (afterF p t m) ∧ t < afterF p t m ∧ afterF p t m ≤ ((oB p t + m) / (p.cl - p.op) + p.hol.length + 2) * 1440 := by
  obtain ⟨r, a, b, c⟩ := after_ex hv ht hm
  rw [after_eq (by omega) c]
  exact ⟨c, a, b⟩
/-- how far the search begins -/
theorem far_bd {p : Shop} (hv : VShop p) {t m : Int} (ht : 0 ≤ t) (hm : 0 ≤ m) (hm' : m ≤ 1000000000) : ((oB p t + m) / (p.cl - p.op) + p.hol.length + 2) * 1440 ≤ t + m * 1440 + 1440 * 405 ∧ 0 ≤ (oB p t + m) / (p.cl - p.op) := by
  have v1 := hv.op0
  have v2 := hv.opcl
  have v3 := hv.cl
  have v4 := hv.holn
  generalize hW : p.cl - p.op = W
  have hWp : 0 < W := by omega
  have h0 := oB_pos hv ht
  have hq : 0 ≤ (oB p t + m) / W := Int.ediv_nonneg (by omega) (by omega)
  refine ⟨?_, hq⟩
  -- the open minutes before t are at most (t / 1440 + 1) days
  have hb : oB p t ≤ (t / 1440 + 1) * W := by
    unfold oB
    rw [hW, mul_sub1]
    have h1 : (t / 1440 - (lbN p.hol (t / 1440) : Int)) * W ≤ (t / 1440) * W := Int.mul_le_mul_of_nonneg_right (by omega) (by omega)
    have h2 : dayO p (t / 1440) (t % 1440) ≤ W := by unfold dayO; split <;> omega
    omega
  have hq2 : (oB p t + m) / W ≤ t / 1440 + 1 + m := by
    have h3 : oB p t + m ≤ (t / 1440 + 1 + m) * W := by
      rw [Int.add_mul]
      have : m * 1 ≤ m * W := Int.mul_le_mul_of_nonneg_left (by omega) hm
      omega
    have h4 := Int.ediv_le_ediv hWp h3
    rwa [Int.mul_ediv_cancel _ (by omega : W ≠ 0)] at h4
  omega
/-- what opened of the specification says of a day -/
def opnd (p : Shop) (d f t : Int) : Int := if hasB p.hol d then 0 else max 0 (min t (1440 * d + p.cl) - max f (1440 * d + p.op))
theorem opnd_eq {p : Shop} (hv : VShop p) {d f t : Int} (h1 : f ≤ 1440 * d + 1440) (h2 : 1440 * d ≤ t) (h3 : f ≤ t) : opnd p d f t = oB p (min t (1440 * d + 1440)) - oB p (max f (1440 * d)) := by
  have v1 := hv.op0
  have v2 := hv.opcl
  have v3 := hv.cl
  have a1 := oB_day hv (d := d) (a := min t (1440 * d + 1440) - 1440 * d) (by omega) (by omega)
  have a2 := oB_day hv (d := d) (a := max f (1440 * d) - 1440 * d) (by omega) (by omega)
  rw [show 1440 * d + (min t (1440 * d + 1440) - 1440 * d) = min t (1440 * d + 1440) by omega] at a1
  rw [show 1440 * d + (max f (1440 * d) - 1440 * d) = max f (1440 * d) by omega] at a2
  rw [a1, a2]
  unfold opnd dayO
  cases hasB p.hol d
  · simp only [if_neg Bool.false_ne_true]
    omega
  · simp
/-- the day in which it ends -/
theorem after_day {p : Shop} (hv : VShop p) {t m d k : Int} (hk : 1 ≤ k) (h1 : t ≤ 1440 * d + 1440) (hw : oB p t + m = oB p (max t (1440 * d)) + k) (hn : k ≤ opnd p d t (1440 * (d + 1))) :
    IsAfter p t m (max t (1440 * d + p.op) + k) := by
  have v1 := hv.op0
  have v2 := hv.opcl
  have v3 := hv.cl
  unfold opnd at hn
  cases hh : hasB p.hol d
  · rw [hh, if_neg Bool.false_ne_true] at hn
    have a0 := oB_day hv (d := d) (a := max t (1440 * d) - 1440 * d) (by omega) (by omega)
    have a1 := oB_day hv (d := d) (a := max t (1440 * d + p.op) + k - 1440 * d) (by omega) (by omega)
    have a2 := oB_day hv (d := d) (a := max t (1440 * d + p.op) + k - 1 - 1440 * d) (by omega) (by omega)
    rw [show 1440 * d + (max t (1440 * d) - 1440 * d) = max t (1440 * d) by omega] at a0
    rw [show 1440 * d + (max t (1440 * d + p.op) + k - 1440 * d) = max t (1440 * d + p.op) + k by omega] at a1
    rw [show 1440 * d + (max t (1440 * d + p.op) + k - 1 - 1440 * d) = max t (1440 * d + p.op) + k - 1 by omega] at a2
    unfold dayO at a0 a1 a2
    rw [hh, if_neg Bool.false_ne_true] at a0 a1 a2
    refine ⟨by omega, fun r' hr => ?_⟩
    have := (oB_mono hv (t := r') (u := max t (1440 * d + p.op) + k - 1) (by omega)).1
    omega
  · rw [hh, if_pos rfl] at hn
    omega
end Go.Proofs.Ytcpnfcnobnjhdaa

/- Open minutes: the walks. -/
namespace Go.Proofs.Ytcpnfcnobnjhdaa
open Go.RowKit

theorem oprod_bd {p : Shop} (hv : VShop p) {t : Int} (ht : 0 ≤ t) : -1000000 ≤ (t / 1440 - (lbN p.hol (t / 1440) : Int)) * (p.cl - p.op) ∧ (t / 1440 - (lbN p.hol (t / 1440) : Int)) * (p.cl - p.op) ≤ t := by
  have v1 := hv.op0
  have v2 := hv.opcl
  have v3 := hv.cl
  have v4 := hv.holn
  have h1 := lb_le p.hol (t / 1440)
  generalize hW : p.cl - p.op = W
  have a1 : (t / 1440 - (lbN p.hol (t / 1440) : Int)) * W ≤ (t / 1440) * W := Int.mul_le_mul_of_nonneg_right (by omega) (by omega)
  have a2 : (t / 1440) * W ≤ (t / 1440) * 1440 := Int.mul_le_mul_of_nonneg_left (by omega) (by omega)
  have a3 : (-400) * W ≤ (t / 1440 - (lbN p.hol (t / 1440) : Int)) * W := Int.mul_le_mul_of_nonneg_right (by omega) (by omega)
  omega

theorem openBefore_any (s : Sh) (t : Int) (w : World) (hS : ShAt w w.heap.size s) (hv : VShop s.p) (ht : 0 ≤ t) (ht' : t ≤ 1000000000000) :
    Calls Try.prog 55 #[.agg #[.int .i64 s.p.op, .int .i64 s.p.cl, .slice s.aH s.p.hol.length s.cH, .int .i64 s.p.mach, .slice s.aS s.p.setup.length s.cS, .slice s.aJ s.p.jobs.length s.cJ], .int .i64 t] w fun e w' => e = .returned (.int .i64 (oB s.p t)) ∧ Below w.heap.size w w' := by
  have v1 := hv.op0
  have v2 := hv.opcl
  have v3 := hv.cl
  have v4 := hv.holn
  have hl := lb_le s.p.hol (t / 1440)
  have hX := oprod_bd hv ht
  have HE : Hid (oB s.p t = (t / 1440 - lbN s.p.hol (t / 1440)) * (s.p.cl - s.p.op) + dayO s.p (t / 1440) (t % 1440)) := rfl
  have hk := Blk.new w 25 #[.int .i64 s.p.op, .int .i64 s.p.cl, .slice s.aH s.p.hol.length s.cH, .int .i64 s.p.mach, .slice s.aS s.p.setup.length s.cS, .slice s.aJ s.p.jobs.length s.cJ]
  have hw := (Below.refl w.heap.size w).alloc (Nat.le_refl _) (.cells #[.int .i64 s.p.op, .int .i64 s.p.cl, .slice s.aH s.p.hol.length s.cH, .int .i64 s.p.mach, .slice s.aS s.p.setup.length s.cS, .slice s.aJ s.p.jobs.length s.cJ] 25)
  have HSW := hS.on hw
  go_enter Try.func55, Try.ntmps55
  go_wp2_with fail
  generalize w.alloc (.cells #[.int .i64 s.p.op, .int .i64 s.p.cl, .slice s.aH s.p.hol.length s.cH, .int .i64 s.p.mach, .slice s.aS s.p.setup.length s.cS, .slice s.aJ s.p.jobs.length s.cJ] 25) = W at *
  have c0 := hk.cell_ 0 rfl
  have c1 := hk.cell_ 1 rfl
  have c2 := hk.cell_ 2 rfl
  have c3 := hk.cell_ 3 rfl
  have c4 := hk.cell_ 4 rfl
  have c5 := hk.cell_ 5 rfl
  go_wp2_with fail
  refine (search_any _ s.aH s.cH s.p.hol _ (by omega) hv.asc HSW.hol).mono ?_
  rintro e w2 ⟨rfl, rfl⟩
  have eX : IntKind.i64.wrap ((t / 1440 - (lbN s.p.hol (t / 1440) : Int)) * (s.p.cl - s.p.op)) = (t / 1440 - (lbN s.p.hol (t / 1440) : Int)) * (s.p.cl - s.p.op) := IntWalk.i64_in _ (by omega)
  go_wp2_with fail
  generalize (t / 1440 - (lbN s.p.hol (t / 1440) : Int)) * (s.p.cl - s.p.op) = X at *
  refine (free_any s _ W HSW hv).mono ?_
  rintro e w2 ⟨rfl, hb⟩
  have hb2 := hw.trans (hb.mono hw.size)
  have hk2 := hk.below hb hk.lt
  have c0' := hk2.cell_ 0 rfl
  have c1' := hk2.cell_ 1 rfl
  cases hf : hasB s.p.hol (t / 1440)
  · by_cases h1 : s.p.cl < t % 1440
    · go_wp2_with fail
      go_ret
      exact ⟨ret_int (by rw [HE.out]; unfold dayO; rw [hf, if_neg Bool.false_ne_true]; omega), hb2⟩
    · by_cases h2 : 0 < t % 1440 - s.p.op
      · go_wp2_with fail
        go_ret
        exact ⟨ret_int (by rw [HE.out]; unfold dayO; rw [hf, if_neg Bool.false_ne_true]; omega), hb2⟩
      · go_wp2_with fail
        go_ret
        exact ⟨ret_int (by rw [HE.out]; unfold dayO; rw [hf, if_neg Bool.false_ne_true]; omega), hb2⟩
  · go_wp2_with fail
    go_ret
    exact ⟨ret_int (by rw [HE.out]; unfold dayO; rw [hf, if_pos rfl]; omega), hb2⟩

set_option maxRecDepth 100000 in
theorem after_any (s : Sh) (t m : Int) (w : World) (hS : ShAt w w.heap.size s) (hv : VShop s.p) (ht : 0 ≤ t) (ht' : t ≤ 10000000000) (hm : 0 ≤ m) (hm' : m ≤ 10000000) :
    Calls Try.prog 53 #[.agg #[.int .i64 s.p.op, .int .i64 s.p.cl, .slice s.aH s.p.hol.length s.cH, .int .i64 s.p.mach, .slice s.aS s.p.setup.length s.cS, .slice s.aJ s.p.jobs.length s.cJ], .int .i64 t, .int .i64 m] w fun e w' => e = .returned (.int .i64 (afterF s.p t m)) ∧ Below w.heap.size w w' := by
  have v1 := hv.op0
  have v2 := hv.opcl
  have v3 := hv.cl
  have v4 := hv.holn
  have hp := oB_pos hv ht
  obtain ⟨hf1, hf2⟩ := far_bd hv ht hm (by omega)
  have HF := hide (oB_far hv (want := oB s.p t + m) (by omega))
  have hk := Blk.new w 25 #[.int .i64 s.p.op, .int .i64 s.p.cl, .slice s.aH s.p.hol.length s.cH, .int .i64 s.p.mach, .slice s.aS s.p.setup.length s.cS, .slice s.aJ s.p.jobs.length s.cJ]
  have hw := (Below.refl w.heap.size w).alloc (Nat.le_refl _) (.cells #[.int .i64 s.p.op, .int .i64 s.p.cl, .slice s.aH s.p.hol.length s.cH, .int .i64 s.p.mach, .slice s.aS s.p.setup.length s.cS, .slice s.aJ s.p.jobs.length s.cJ] 25)
  have HSW := hS.on hw
  go_enter Try.func53, Try.ntmps53
  go_wp2_with fail
  refine (openBefore_any s t _ HSW hv ht (by omega)).mono ?_
  rintro e w2 ⟨rfl, hb⟩
  have hb2 := hw.trans (hb.mono hw.size)
  have hk2 := hk.below hb hk.lt
  by_cases h0 : m = 0
  · subst h0
    go_wp2_with fail
    go_ret
    exact ⟨ret_int (after_zero _ _).symm, hb2⟩
  · have hm0b : (m == 0) = false := by simpa using h0
    go_wp2_with fail
    clear hb hw hk HSW
    refine wp_region_quiet (C := fun w' => ∃ u : Since w2, w' = u.w) (by kernel_rfl) (by kernel_rfl) (Since.start w2) ?_
    dsimp only
    have y0 := Since.cell (hk2.cell_ 0 rfl)
    have y1 := Since.cell (hk2.cell_ 1 rfl)
    have y2 := Since.cell (hk2.cell_ 2 rfl)
    have hW : ¬ (s.p.cl - s.p.op = 0) := by omega
    have e1 : IntKind.i64.wrap (s.p.cl - s.p.op) = s.p.cl - s.p.op := IntWalk.i64_in _ (by omega)
    repeat (go_big_quiet_step ((fail)))
    refine wpQuiet_nil ?_
    rintro _ ⟨u, rfl⟩
    have hk3 := hk2.below u.h hk2.lt
    have hb3 := hb2.trans (u.h.mono hb2.size)
    clear y0 y1 y2 hk2 hb2
    generalize hH : ((oB s.p t + m) / (s.p.cl - s.p.op) + s.p.hol.length + 2) * 1440 = H at *
    go_wp2_with fail
    go_loopw [8, 9] (fun x y wr => ∃ lo hi : Int, x = .int .i64 lo ∧ y = .int .i64 hi ∧ t ≤ lo ∧ lo < hi ∧ hi ≤ H ∧ oB s.p lo < oB s.p t + m ∧ oB s.p t + m ≤ oB s.p hi ∧ Blk wr w.heap.size 25 #[.int .i64 s.p.op, .int .i64 s.p.cl, .slice s.aH s.p.hol.length s.cH, .int .i64 s.p.mach, .slice s.aS s.p.setup.length s.cS, .slice s.aJ s.p.jobs.length s.cJ] ∧ Below w.heap.size w wr) (fun x y _ => (intOf y - intOf x).toNat)
    case atStart =>
      refine ⟨t, H, rfl, rfl, Int.le_refl _, ?_, Int.le_refl _, by omega, HF.out, hk3, hb3⟩
      rcases Int.lt_or_le t H with h | h
      · exact h
      · have := HF.out; have := (oB_mono hv h).1; omega
    case round =>
      clear hk3 hb3
      obtain ⟨lo, hi, rfl, rfl, h1, h2, h3, h4, h5, hk, hbel⟩ := hrel
      have H4 := hide h4
      have H5 := hide h5
      clear h4 h5
      have c0 := hk.cell_ 0 rfl
      have c1 := hk.cell_ 1 rfl
      have c2 := hk.cell_ 2 rfl
      have c3 := hk.cell_ 3 rfl
      have c4 := hk.cell_ 4 rfl
      have c5 := hk.cell_ 5 rfl
      by_cases hd : 1 < hi - lo
      · go_wp2_with fail
        refine (openBefore_any s ((lo + hi) / 2) _ (hS.on hbel) hv (by omega) (by omega)).mono ?_
        rintro e w3 ⟨rfl, hb⟩
        have hb3 := hbel.trans (hb.mono hbel.size)
        have hk3 := hk.below hb hk.lt
        by_cases hm2 : oB s.p t + m ≤ oB s.p ((lo + hi) / 2)
        · have H6 := hide hm2
          go_wp2_with fail
          go_roundw
          case rel => exact ⟨lo, (lo + hi) / 2, rfl, rfl, h1, by omega, by omega, H4.out, H6.out, hk3, hb3⟩
          case measure => simp [intOf]; omega
        · have H6 := hide (Int.not_le.1 hm2)
          go_wp2_with fail
          go_roundw
          case rel => exact ⟨(lo + hi) / 2, hi, rfl, rfl, by omega, by omega, by omega, H6.out, H5.out, hk3, hb3⟩
          case measure => simp [intOf]; omega
      · go_wp2_with fail
        go_ret
        have e : hi = lo + 1 := by omega
        refine ⟨ret_int (after_eq h0 ⟨H5.out, fun r' hr => ?_⟩).symm, hbel⟩
        have := (oB_mono hv (t := r') (u := lo) (by omega)).1
        have := H4.out
        omega

theorem opened_any (s : Sh) (d f t : Int) (w : World) (hS : ShAt w w.heap.size s) (hv : VShop s.p) (hd : 0 ≤ d) (hd' : d ≤ 1000000000) (hf : 0 ≤ f) (hf' : f ≤ 1000000000000) (ht : 0 ≤ t) (ht' : t ≤ 1000000000000) :
    Calls Try.prog 54 #[.agg #[.int .i64 s.p.op, .int .i64 s.p.cl, .slice s.aH s.p.hol.length s.cH, .int .i64 s.p.mach, .slice s.aS s.p.setup.length s.cS, .slice s.aJ s.p.jobs.length s.cJ], .int .i64 d, .int .i64 f, .int .i64 t] w fun e w' => e = .returned (.int .i64 (opnd s.p d f t)) ∧ Below w.heap.size w w' := by
  have v1 := hv.op0
  have v2 := hv.opcl
  have v3 := hv.cl
  have HE : Hid (opnd s.p d f t = if hasB s.p.hol d then 0 else max 0 (min t (1440 * d + s.p.cl) - max f (1440 * d + s.p.op))) := rfl
  have hk := Blk.new w 25 #[.int .i64 s.p.op, .int .i64 s.p.cl, .slice s.aH s.p.hol.length s.cH, .int .i64 s.p.mach, .slice s.aS s.p.setup.length s.cS, .slice s.aJ s.p.jobs.length s.cJ]
  have hw := (Below.refl w.heap.size w).alloc (Nat.le_refl _) (.cells #[.int .i64 s.p.op, .int .i64 s.p.cl, .slice s.aH s.p.hol.length s.cH, .int .i64 s.p.mach, .slice s.aS s.p.setup.length s.cS, .slice s.aJ s.p.jobs.length s.cJ] 25)
  have HSW := hS.on hw
  go_enter Try.func54, Try.ntmps54
  go_wp2_with fail
  refine (rfree_any s _ _ HSW hv).mono ?_
  rintro e w2 ⟨rfl, hb⟩
  have hb2 := hw.trans (hb.mono hw.size)
  have hk2 := hk.below hb hk.lt
  have c0' := hk2.cell_ 0 rfl
  have c1' := hk2.cell_ 1 rfl
  cases hh : hasB s.p.hol d
  · by_cases h1 : 1440 * d + s.p.cl < t
    · by_cases h2 : f < 1440 * d + s.p.op
      · by_cases h3 : 0 < 1440 * d + s.p.cl - (1440 * d + s.p.op)
        · go_wp2_with fail
          go_ret
          exact ⟨ret_int (by rw [HE.out, hh, if_neg Bool.false_ne_true]; omega), hb2⟩
        · omega
      · by_cases h3 : 0 < 1440 * d + s.p.cl - f
        · go_wp2_with fail
          go_ret
          exact ⟨ret_int (by rw [HE.out, hh, if_neg Bool.false_ne_true]; omega), hb2⟩
        · go_wp2_with fail
          go_ret
          exact ⟨ret_int (by rw [HE.out, hh, if_neg Bool.false_ne_true]; omega), hb2⟩
    · by_cases h2 : f < 1440 * d + s.p.op
      · by_cases h3 : 0 < t - (1440 * d + s.p.op)
        · go_wp2_with fail
          go_ret
          exact ⟨ret_int (by rw [HE.out, hh, if_neg Bool.false_ne_true]; omega), hb2⟩
        · go_wp2_with fail
          go_ret
          exact ⟨ret_int (by rw [HE.out, hh, if_neg Bool.false_ne_true]; omega), hb2⟩
      · by_cases h3 : 0 < t - f
        · go_wp2_with fail
          go_ret
          exact ⟨ret_int (by rw [HE.out, hh, if_neg Bool.false_ne_true]; omega), hb2⟩
        · go_wp2_with fail
          go_ret
          exact ⟨ret_int (by rw [HE.out, hh, if_neg Bool.false_ne_true]; omega), hb2⟩
  · go_wp2_with fail
    go_ret
    exact ⟨ret_int (by rw [HE.out, hh, if_pos rfl]), hb2⟩

theorem refWorked_any (s : Sh) (f t : Int) (w : World) (hS : ShAt w w.heap.size s) (hv : VShop s.p) (h0 : 0 ≤ f) (hft : f ≤ t) (ht : t ≤ 100000000000) :
    Calls Try.prog 26 #[.agg #[.int .i64 s.p.op, .int .i64 s.p.cl, .slice s.aH s.p.hol.length s.cH, .int .i64 s.p.mach, .slice s.aS s.p.setup.length s.cS, .slice s.aJ s.p.jobs.length s.cJ], .int .i64 f, .int .i64 t] w fun e w' => e = .returned (.int .i64 (oB s.p t - oB s.p f)) ∧ Below w.heap.size w w' := by
  have hk := Blk.new w 25 #[.int .i64 s.p.op, .int .i64 s.p.cl, .slice s.aH s.p.hol.length s.cH, .int .i64 s.p.mach, .slice s.aS s.p.setup.length s.cS, .slice s.aJ s.p.jobs.length s.cJ]
  have hw := (Below.refl w.heap.size w).alloc (Nat.le_refl _) (.cells #[.int .i64 s.p.op, .int .i64 s.p.cl, .slice s.aH s.p.hol.length s.cH, .int .i64 s.p.mach, .slice s.aS s.p.setup.length s.cS, .slice s.aJ s.p.jobs.length s.cJ] 25)
  have hp1 := oB_pos hv h0
  have hp2 := oB_mono hv hft
  go_enter Try.func26, Try.ntmps26
  go_wp2_with fail
  go_loopw [7, 8] (fun x y wr => ∃ d : Int, x = .int .i64 (oB s.p (min t (max f (1440 * d))) - oB s.p f) ∧ y = .int .i64 d ∧ f / 1440 ≤ d ∧ d ≤ t / 1440 + 1 ∧ Blk wr w.heap.size 25 #[.int .i64 s.p.op, .int .i64 s.p.cl, .slice s.aH s.p.hol.length s.cH, .int .i64 s.p.mach, .slice s.aS s.p.setup.length s.cS, .slice s.aJ s.p.jobs.length s.cJ] ∧ Below w.heap.size w wr) (fun _ y _ => (t / 1440 + 1 - intOf y).toNat)
  case atStart => exact ⟨f / 1440, by rw [show min t (max f (1440 * (f / 1440))) = f by omega, Int.sub_self], rfl, Int.le_refl _, by omega, hk, hw⟩
  case round =>
    clear hk hw
    obtain ⟨d, rfl, rfl, h1, h2, hk, hbel⟩ := hrel
    have c0 := hk.cell_ 0 rfl
    have c1 := hk.cell_ 1 rfl
    have c2 := hk.cell_ 2 rfl
    have c3 := hk.cell_ 3 rfl
    have c4 := hk.cell_ 4 rfl
    have c5 := hk.cell_ 5 rfl
    by_cases hlt : 1440 * d < t
    · have hE := opnd_eq hv (d := d) (f := f) (t := t) (by omega) (by omega) hft
      have hm1 := oB_mono hv (t := f) (u := min t (max f (1440 * d))) (by omega)
      have hm2 := oB_mono hv (t := min t (max f (1440 * d))) (u := min t (1440 * d + 1440)) (by omega)
      have hm3 := oB_mono hv (t := min t (1440 * d + 1440)) (u := t) (by omega)
      rw [show max f (1440 * d) = min t (max f (1440 * d)) by omega] at hE
      have HE := hide hE
      have HN := hide (show min t (max f (1440 * (d + 1))) = min t (1440 * d + 1440) by omega)
      clear hE
      generalize min t (max f (1440 * d)) = A at *
      generalize min t (1440 * d + 1440) = A' at *
      go_wp2_with fail
      refine (opened_any s d f t _ (hS.on hbel) hv (by omega) (by omega) (by omega) (by omega) (by omega) (by omega)).mono ?_
      rintro e w3 ⟨rfl, hb⟩
      have hb3 := hbel.trans (hb.mono hbel.size)
      have hk3 := hk.below hb hk.lt
      rw [HE.out]
      go_wp2_with fail
      go_roundw
      case rel => exact ⟨d + 1, by rw [HN.out]; go_num, by go_num, by omega, by omega, hk3, hb3⟩
      case measure => simp [intOf]; omega
    · rw [show min t (max f (1440 * d)) = t by omega]
      go_wp2_with fail
      go_ret
      exact ⟨rfl, hbel⟩

theorem refAfter_any (s : Sh) (t m : Int) (w : World) (hS : ShAt w w.heap.size s) (hv : VShop s.p) (h0 : 0 ≤ t) (ht : t ≤ 10000000000) (hm : 0 ≤ m) (hm' : m ≤ 10000000) :
    Calls Try.prog 24 #[.agg #[.int .i64 s.p.op, .int .i64 s.p.cl, .slice s.aH s.p.hol.length s.cH, .int .i64 s.p.mach, .slice s.aS s.p.setup.length s.cS, .slice s.aJ s.p.jobs.length s.cJ], .int .i64 t, .int .i64 m] w fun e w' => e = .returned (.int .i64 (afterF s.p t m)) ∧ Below w.heap.size w w' := by
  have v1 := hv.op0
  have v2 := hv.opcl
  have v3 := hv.cl
  have v4 := hv.holn
  have hk := Blk.new w 25 #[.int .i64 s.p.op, .int .i64 s.p.cl, .slice s.aH s.p.hol.length s.cH, .int .i64 s.p.mach, .slice s.aS s.p.setup.length s.cS, .slice s.aJ s.p.jobs.length s.cJ]
  have hw := (Below.refl w.heap.size w).alloc (Nat.le_refl _) (.cells #[.int .i64 s.p.op, .int .i64 s.p.cl, .slice s.aH s.p.hol.length s.cH, .int .i64 s.p.mach, .slice s.aS s.p.setup.length s.cS, .slice s.aJ s.p.jobs.length s.cJ] 25)
  by_cases hm0 : m = 0
  · subst hm0
    go_enter Try.func24, Try.ntmps24
    go_wp2_with fail
    go_ret
    exact ⟨ret_int (after_zero _ _).symm, hw⟩
  · have hm0b : (m == 0) = false := by simpa using hm0
    obtain ⟨ha1, ha2, ha3⟩ := after_is hv h0 (m := m) (by omega)
    have hfb := far_bd hv h0 hm (by omega)
    generalize hH : ((oB s.p t + m) / (s.p.cl - s.p.op) + s.p.hol.length + 2) * 1440 = H at *
    clear hH
    go_enter Try.func24, Try.ntmps24
    go_wp2_with fail
    go_loopw [7, 2] (fun x y wr => ∃ d k : Int, x = .int .i64 d ∧ y = .int .i64 k ∧ t / 1440 ≤ d ∧ 1 ≤ k ∧ k ≤ m ∧ oB s.p t + m = oB s.p (max t (1440 * d)) + k ∧ Blk wr w.heap.size 25 #[.int .i64 s.p.op, .int .i64 s.p.cl, .slice s.aH s.p.hol.length s.cH, .int .i64 s.p.mach, .slice s.aS s.p.setup.length s.cS, .slice s.aJ s.p.jobs.length s.cJ] ∧ Below w.heap.size w wr) (fun x _ _ => (H - intOf x).toNat)
    case atStart => exact ⟨t / 1440, m, rfl, rfl, Int.le_refl _, by omega, Int.le_refl _, by rw [show max t (1440 * (t / 1440)) = t by omega], hk, hw⟩
    case round =>
      clear hk hw
      obtain ⟨d, k, rfl, rfl, h1, h2, h3, h4, hk, hbel⟩ := hrel
      have c0 := hk.cell_ 0 rfl
      have c1 := hk.cell_ 1 rfl
      have c2 := hk.cell_ 2 rfl
      have c3 := hk.cell_ 3 rfl
      have c4 := hk.cell_ 4 rfl
      have c5 := hk.cell_ 5 rfl
      have hdA : 1440 * d ≤ afterF s.p t m := by
        rcases Int.lt_or_le (afterF s.p t m) (max t (1440 * d)) with h | h
        · have := (oB_mono hv (t := afterF s.p t m) (u := max t (1440 * d)) (by omega)).1
          have := ha1.1
          omega
        · omega
      have hE := opnd_eq hv (d := d) (f := t) (t := 1440 * (d + 1)) (by omega) (by omega) (by omega)
      have H4 := hide h4
      have HA := hide ha1
      rw [show min (1440 * (d + 1)) (1440 * d + 1440) = max t (1440 * (d + 1)) by omega] at hE
      have HE := hide hE
      clear h4 hE
      go_wp2_with fail
      refine (opened_any s d t (1440 * (d + 1)) _ (hS.on hbel) hv (by omega) (by omega) (by omega) (by omega) (by omega) (by omega)).mono ?_
      rintro e w3 ⟨rfl, hb⟩
      have hb3 := hbel.trans (hb.mono hbel.size)
      have hk3 := hk.below hb hk.lt
      have c0 := hk3.cell_ 0 rfl
      by_cases hn : k ≤ opnd s.p d t (1440 * (d + 1))
      · have hR := (after_eq hm0 (after_day hv h2 (by omega) H4.out hn)).symm
        have HR := hide hR
        clear hR
        by_cases hx : t < 1440 * d + s.p.op
        · go_wp2_with fail
          go_ret
          exact ⟨ret_int (by have h9 := HR.out; omega), hb3⟩
        · go_wp2_with fail
          go_ret
          exact ⟨ret_int (by have h9 := HR.out; omega), hb3⟩
      · have hm1 := oB_mono hv (t := max t (1440 * d)) (u := max t (1440 * (d + 1))) (by omega)
        have hopn : opnd s.p d t (1440 * (d + 1)) = oB s.p (max t (1440 * (d + 1))) - oB s.p (max t (1440 * d)) := HE.out
        have HN := hide (show oB s.p t + m = oB s.p (max t (1440 * (d + 1))) + (k - opnd s.p d t (1440 * (d + 1))) by have := H4.out; omega)
        have hop : 0 ≤ opnd s.p d t (1440 * (d + 1)) := by omega
        clear hopn hm1
        generalize opnd s.p d t (1440 * (d + 1)) = N at *
        go_wp2_with fail
        go_roundw
        case rel => exact ⟨d + 1, k - N, rfl, rfl, by omega, by omega, by omega, HN.out, hk3, hb3⟩
        case measure => simp [intOf]; omega
end Go.Proofs.Ytcpnfcnobnjhdaa

/- Next, Worked and After of package shop; whether a shop is long; the sanity check of the laws. -/
namespace Go.Proofs.Ytcpnfcnobnjhdaa
open Go.RowKit

/-- no slice is longer than a slice can be -/
structure Fits (p : Shop) : Prop where
  h1 : p.hol.length ≤ 9223372036854775807
  h2 : p.setup.length ≤ 9223372036854775807
  h3 : p.jobs.length ≤ 9223372036854775807
  h4 : ∀ l ∈ p.jobs, l.length ≤ 9223372036854775807
theorem VShop.fits {p : Shop} (h : VShop p) : Fits p := by
  have := h.holn
  have := h.setn
  have := h.mach6
  have := h.jobn
  refine ⟨by omega, by omega, by omega, fun l hl => ?_⟩
  obtain ⟨i, hi⟩ := List.getElem?_of_mem hl
  have := (h.steps i l hi).1
  omega
theorem ret_ii {k k' : IntKind} {a b : Int} {c d : Int} (h : a = b) (h' : c = d) : Ending.returned (.tuple #[.int k a, .int k' c]) = .returned (.tuple #[.int k b, .int k' d]) := by rw [h, h']

noncomputable def nextV (p : Shop) (t m : Int) : Value := if inB 0 t 100000000 && inB 1 m (p.cl - p.op) then .tuple #[.int .i64 (nextF p t m), .int .i64 0] else .tuple #[.int .i64 0, .int .i64 2]
noncomputable def afterV (p : Shop) (t m : Int) : Value := if inB 0 t 100000000 && inB 0 m 1000000 then .tuple #[.int .i64 (afterF p t m), .int .i64 0] else .tuple #[.int .i64 0, .int .i64 2]
theorem nextV_no {p : Shop} {t m : Int} (h : inB 0 t 100000000 = false ∨ inB 1 m (p.cl - p.op) = false) : nextV p t m = .tuple #[.int .i64 0, .int .i64 2] := by
  unfold nextV
  rcases h with h | h <;> rw [h] <;> simp
theorem nextV_ok {p : Shop} {t m : Int} (h1 : 0 ≤ t) (h2 : t ≤ 100000000) (h3 : 1 ≤ m) (h4 : m ≤ p.cl - p.op) : nextV p t m = .tuple #[.int .i64 (nextF p t m), .int .i64 0] := by
  unfold nextV
  rw [inB_iff.2 ⟨h1, h2⟩, inB_iff.2 ⟨h3, h4⟩]; rfl
theorem afterV_no {p : Shop} {t m : Int} (h : inB 0 t 100000000 = false ∨ inB 0 m 1000000 = false) : afterV p t m = .tuple #[.int .i64 0, .int .i64 2] := by
  unfold afterV
  rcases h with h | h <;> rw [h] <;> simp
theorem afterV_ok {p : Shop} {t m : Int} (h1 : 0 ≤ t) (h2 : t ≤ 100000000) (h3 : 0 ≤ m) (h4 : m ≤ 1000000) : afterV p t m = .tuple #[.int .i64 (afterF p t m), .int .i64 0] := by
  unfold afterV
  rw [inB_iff.2 ⟨h1, h2⟩, inB_iff.2 ⟨h3, h4⟩]; rfl
theorem ret_eq {a b : Value} (h : a = b) : Ending.returned a = .returned b := by rw [h]

theorem apiNext_any (s : Sh) (t m : Int) (w : World) (hS : ShAt w w.heap.size s) (hvB : validShop s.p = true) :
    Calls Try.prog 21 #[.agg #[.int .i64 s.p.op, .int .i64 s.p.cl, .slice s.aH s.p.hol.length s.cH, .int .i64 s.p.mach, .slice s.aS s.p.setup.length s.cS, .slice s.aJ s.p.jobs.length s.cJ], .int .i64 t, .int .i64 m] w fun e w' => e = .returned (nextV s.p t m) ∧ Below w.heap.size w w' := by
  have hv := valid_facts hvB
  have v1 := hv.op0
  have v2 := hv.opcl
  have v3 := hv.cl
  have hf := hv.fits
  have hk := Blk.new w 25 #[.int .i64 s.p.op, .int .i64 s.p.cl, .slice s.aH s.p.hol.length s.cH, .int .i64 s.p.mach, .slice s.aS s.p.setup.length s.cS, .slice s.aJ s.p.jobs.length s.cJ]
  have hw := (Below.refl w.heap.size w).alloc (Nat.le_refl _) (.cells #[.int .i64 s.p.op, .int .i64 s.p.cl, .slice s.aH s.p.hol.length s.cH, .int .i64 s.p.mach, .slice s.aS s.p.setup.length s.cS, .slice s.aJ s.p.jobs.length s.cJ] 25)
  have HSW := hS.on hw
  go_enter Try.func21, Try.ntmps21
  go_wp2_with fail
  refine (valid_any s _ HSW hf.h1 hf.h2 hf.h3 hf.h4).mono ?_
  rintro e w2 ⟨rfl, hb⟩
  rw [hvB]
  have hb2 := hw.trans (hb.mono hw.size)
  have hk2 := hk.below hb hk.lt
  have c0 := hk2.cell_ 0 rfl
  have c1 := hk2.cell_ 1 rfl
  have c2 := hk2.cell_ 2 rfl
  have c3 := hk2.cell_ 3 rfl
  have c4 := hk2.cell_ 4 rfl
  have c5 := hk2.cell_ 5 rfl
  clear hb hw hk HSW
  cases ht : inB 0 t 100000000
  · go_wp2_with (go_at_call 50; refine (within_any _ _ _ _).mono ?_; rintro e w' ⟨rfl, rfl⟩)
    go_ret2
    exact ⟨ret_eq (nextV_no (.inl ht)).symm, hb2⟩
  · cases hm : inB 1 m (s.p.cl - s.p.op)
    · go_wp2_with (go_at_call 50; refine (within_any _ _ _ _).mono ?_; rintro e w' ⟨rfl, rfl⟩)
      go_ret2
      exact ⟨ret_eq (nextV_no (.inr hm)).symm, hb2⟩
    · obtain ⟨t1, t2⟩ := inB_iff.1 ht
      obtain ⟨m1, m2⟩ := inB_iff.1 hm
      go_wp2_with (go_at_call 50; refine (within_any _ _ _ _).mono ?_; rintro e w' ⟨rfl, rfl⟩)
      refine (next_any s t m _ (hS.on hb2) hv t1 (by omega) m1 m2).mono ?_
      rintro e w3 ⟨rfl, hb⟩
      go_wp2_with fail
      go_ret2
      exact ⟨ret_eq (nextV_ok t1 t2 m1 m2).symm, hb2.trans (hb.mono hb2.size)⟩

theorem apiAfter_any (s : Sh) (t m : Int) (w : World) (hS : ShAt w w.heap.size s) (hvB : validShop s.p = true) :
    Calls Try.prog 23 #[.agg #[.int .i64 s.p.op, .int .i64 s.p.cl, .slice s.aH s.p.hol.length s.cH, .int .i64 s.p.mach, .slice s.aS s.p.setup.length s.cS, .slice s.aJ s.p.jobs.length s.cJ], .int .i64 t, .int .i64 m] w fun e w' => e = .returned (afterV s.p t m) ∧ Below w.heap.size w w' := by
  have hv := valid_facts hvB
  have hf := hv.fits
  have hk := Blk.new w 25 #[.int .i64 s.p.op, .int .i64 s.p.cl, .slice s.aH s.p.hol.length s.cH, .int .i64 s.p.mach, .slice s.aS s.p.setup.length s.cS, .slice s.aJ s.p.jobs.length s.cJ]
  have hw := (Below.refl w.heap.size w).alloc (Nat.le_refl _) (.cells #[.int .i64 s.p.op, .int .i64 s.p.cl, .slice s.aH s.p.hol.length s.cH, .int .i64 s.p.mach, .slice s.aS s.p.setup.length s.cS, .slice s.aJ s.p.jobs.length s.cJ] 25)
  have HSW := hS.on hw
  go_enter Try.func23, Try.ntmps23
  go_wp2_with fail
  refine (valid_any s _ HSW hf.h1 hf.h2 hf.h3 hf.h4).mono ?_
  rintro e w2 ⟨rfl, hb⟩
  rw [hvB]
  have hb2 := hw.trans (hb.mono hw.size)
  have hk2 := hk.below hb hk.lt
  have c0 := hk2.cell_ 0 rfl
  have c1 := hk2.cell_ 1 rfl
  have c2 := hk2.cell_ 2 rfl
  have c3 := hk2.cell_ 3 rfl
  have c4 := hk2.cell_ 4 rfl
  have c5 := hk2.cell_ 5 rfl
  clear hb hw hk HSW
  cases ht : inB 0 t 100000000
  · go_wp2_with (go_at_call 50; refine (within_any _ _ _ _).mono ?_; rintro e w' ⟨rfl, rfl⟩)
    go_ret2
    exact ⟨ret_eq (afterV_no (.inl ht)).symm, hb2⟩
  · cases hm : inB 0 m 1000000
    · go_wp2_with (go_at_call 50; refine (within_any _ _ _ _).mono ?_; rintro e w' ⟨rfl, rfl⟩)
      go_ret2
      exact ⟨ret_eq (afterV_no (.inr hm)).symm, hb2⟩
    · obtain ⟨t1, t2⟩ := inB_iff.1 ht
      obtain ⟨m1, m2⟩ := inB_iff.1 hm
      go_wp2_with (go_at_call 50; refine (within_any _ _ _ _).mono ?_; rintro e w' ⟨rfl, rfl⟩)
      refine (after_any s t m _ (hS.on hb2) hv t1 (by omega) m1 (by omega)).mono ?_
      rintro e w3 ⟨rfl, hb⟩
      go_wp2_with fail
      go_ret2
      exact ⟨ret_eq (afterV_ok t1 t2 m1 m2).symm, hb2.trans (hb.mono hb2.size)⟩

theorem apiWorked_ok (s : Sh) (f t : Int) (w : World) (hS : ShAt w w.heap.size s) (hvB : validShop s.p = true) (h0 : 0 ≤ f) (h1 : f ≤ t) (h2 : t ≤ 100000000) :
    Calls Try.prog 25 #[.agg #[.int .i64 s.p.op, .int .i64 s.p.cl, .slice s.aH s.p.hol.length s.cH, .int .i64 s.p.mach, .slice s.aS s.p.setup.length s.cS, .slice s.aJ s.p.jobs.length s.cJ], .int .i64 f, .int .i64 t] w fun e w' => e = .returned (.tuple #[.int .i64 (oB s.p t - oB s.p f), .int .i64 0]) ∧ Below w.heap.size w w' := by
  have hv := valid_facts hvB
  have hf := hv.fits
  have hp1 := oB_pos hv h0
  have hp2 := oB_mono hv h1
  have hk := Blk.new w 25 #[.int .i64 s.p.op, .int .i64 s.p.cl, .slice s.aH s.p.hol.length s.cH, .int .i64 s.p.mach, .slice s.aS s.p.setup.length s.cS, .slice s.aJ s.p.jobs.length s.cJ]
  have hw := (Below.refl w.heap.size w).alloc (Nat.le_refl _) (.cells #[.int .i64 s.p.op, .int .i64 s.p.cl, .slice s.aH s.p.hol.length s.cH, .int .i64 s.p.mach, .slice s.aS s.p.setup.length s.cS, .slice s.aJ s.p.jobs.length s.cJ] 25)
  have HSW := hS.on hw
  go_enter Try.func25, Try.ntmps25
  go_wp2_with fail
  refine (valid_any s _ HSW hf.h1 hf.h2 hf.h3 hf.h4).mono ?_
  rintro e w2 ⟨rfl, hb⟩
  rw [hvB]
  have hb2 := hw.trans (hb.mono hw.size)
  have hk2 := hk.below hb hk.lt
  clear hb hw hk HSW
  go_wp2_with fail
  have HS2 := hS.on hb2
  refine wp_region_quiet (C := fun w' => ∃ u : Since w2, w' = u.w) (by kernel_rfl) (by kernel_rfl) (Since.start w2) ?_
  dsimp only
  have y0 := Since.cell (hk2.cell_ 0 rfl)
  have y1 := Since.cell (hk2.cell_ 1 rfl)
  have y2 := Since.cell (hk2.cell_ 2 rfl)
  have y3 := Since.cell (hk2.cell_ 3 rfl)
  have y4 := Since.cell (hk2.cell_ 4 rfl)
  have y5 := Since.cell (hk2.cell_ 5 rfl)
  have e1 : IntKind.i64.wrap (oB s.p t - oB s.p f) = oB s.p t - oB s.p f := IntWalk.i64_in _ (by omega)
  repeat (go_big_quiet_step ((go_at_call 55; exact Since.calls (openBefore_any s _ _ (HS2.on (Since.h _)) hv (by omega) (by omega)))))
  refine wpQuiet_nil ?_
  rintro _ ⟨u, rfl⟩
  go_wp2_with fail
  go_ret2
  exact ⟨rfl, hb2.trans (u.h.mono hb2.size)⟩

theorem apiWorked_err (s : Sh) (f t : Int) (w : World) (hS : ShAt w w.heap.size s) (hvB : validShop s.p = true) (h : f < 0 ∨ t < f ∨ 100000000 < t) :
    Calls Try.prog 25 #[.agg #[.int .i64 s.p.op, .int .i64 s.p.cl, .slice s.aH s.p.hol.length s.cH, .int .i64 s.p.mach, .slice s.aS s.p.setup.length s.cS, .slice s.aJ s.p.jobs.length s.cJ], .int .i64 f, .int .i64 t] w fun e w' => e = .returned (.tuple #[.int .i64 0, .int .i64 2]) ∧ Below w.heap.size w w' := by
  have hv := valid_facts hvB
  have hf := hv.fits
  have hk := Blk.new w 25 #[.int .i64 s.p.op, .int .i64 s.p.cl, .slice s.aH s.p.hol.length s.cH, .int .i64 s.p.mach, .slice s.aS s.p.setup.length s.cS, .slice s.aJ s.p.jobs.length s.cJ]
  have hw := (Below.refl w.heap.size w).alloc (Nat.le_refl _) (.cells #[.int .i64 s.p.op, .int .i64 s.p.cl, .slice s.aH s.p.hol.length s.cH, .int .i64 s.p.mach, .slice s.aS s.p.setup.length s.cS, .slice s.aJ s.p.jobs.length s.cJ] 25)
  have HSW := hS.on hw
  go_enter Try.func25, Try.ntmps25
  go_wp2_with fail
  refine (valid_any s _ HSW hf.h1 hf.h2 hf.h3 hf.h4).mono ?_
  rintro e w2 ⟨rfl, hb⟩
  rw [hvB]
  have hb2 := hw.trans (hb.mono hw.size)
  by_cases h1 : f < 0
  · go_wp2_with fail
    go_ret2
    exact ⟨rfl, hb2⟩
  · by_cases h2 : t < f
    · go_wp2_with fail
      go_ret2
      exact ⟨rfl, hb2⟩
    · have h3 : 100000000 < t := by omega
      go_wp2_with fail
      go_ret2
      exact ⟨rfl, hb2⟩

end Go.Proofs.Ytcpnfcnobnjhdaa

/- Times: the plain law of ShopTimes and of ShopHolidays' times. -/
namespace Go.Proofs.Ytcpnfcnobnjhdaa
theorem least_from {P : Int → Prop} [DecidablePred P] {t : Int} : ∀ n : Nat, P (t + n) → ∃ r, t ≤ r ∧ r ≤ t + n ∧ P r ∧ ∀ r', t ≤ r' → r' < r → ¬ P r'
  | 0, h => ⟨t, Int.le_refl _, by omega, by simpa using h, fun r' h1 h2 => by omega⟩
  | n + 1, h => by
    by_cases hs : ∃ k : Nat, k ≤ n ∧ P (t + k)
    · obtain ⟨k, hk, hp⟩ := hs
      have hk' : k < n + 1 := by omega
      obtain ⟨r, a, b, c⟩ := least_from k hp
      exact ⟨r, a, by omega, c⟩
    · refine ⟨t + (n + 1 : Nat), by omega, by omega, h, fun r' h1 h2 hp => hs ⟨(r' - t).toNat, by omega, ?_⟩⟩
      rw [show t + ((r' - t).toNat : Int) = r' by omega]; exact hp
theorem next_ex {p : Shop} (hv : VShop p) {t m : Int} (ht : 0 ≤ t) (hm : m ≤ p.cl - p.op) : ∃ r, IsNext p t m r ∧ r ≤ 1440 * max 10001 (t / 1440 + 1) + p.op := by
  have v1 := hv.op0
  have v2 := hv.opcl
  have v3 := hv.cl
  generalize hD : max 10001 (t / 1440 + 1) = D
  have hh : hasB p.hol D = false := by
    rw [← Bool.not_eq_true]
    intro h
    have := (has_bd hv h).2
    omega
  have hs : shiftB p (1440 * D + p.op) m = true := by
    rw [shiftB_iff]
    rw [show (1440 * D + p.op) / 1440 = D by omega, show (1440 * D + p.op) % 1440 = p.op by omega]
    exact ⟨hh, Int.le_refl _, by omega⟩
  obtain ⟨r, a, b, c, d⟩ := least_from (P := fun r => shiftB p r m = true) (t := t) (1440 * D + p.op - t).toNat (by
    rw [show t + ((1440 * D + p.op - t).toNat : Int) = 1440 * D + p.op by omega]; exact hs)
  exact ⟨r, ⟨a, c, fun r' h1 h2 => Bool.not_eq_true _ ▸ d r' h1 h2⟩, by omega⟩
theorem next_is {p : Shop} (hv : VShop p) {t m : Int} (ht : 0 ≤ t) (hm : m ≤ p.cl - p.op) : IsNext p t m (nextF p t m) ∧ nextF p t m ≤ 1440 * max 10001 (t / 1440 + 1) + p.op := by
  obtain ⟨r, h, hb⟩ := next_ex hv ht hm
  rw [next_eq h]
  exact ⟨h, hb⟩
theorem next_ge {p : Shop} (hv : VShop p) {t m : Int} (ht : 0 ≤ t) (hm : m ≤ p.cl - p.op) : t ≤ nextF p t m := (next_is hv ht hm).1.1
theorem next_mono {p : Shop} (hv : VShop p) {t u m : Int} (ht : 0 ≤ t) (htu : t ≤ u) (hm : m ≤ p.cl - p.op) : nextF p t m ≤ nextF p u m := by
  have h1 := (next_is hv ht hm).1
  have h2 := (next_is hv (t := u) (by omega) hm).1
  rcases Int.lt_or_le (nextF p u m) (nextF p t m) with h | h
  · have := h1.2.2 (nextF p u m) (by have := h2.1; omega) h
    rw [h2.2.1] at this; cases this
  · exact h
theorem after_ge {p : Shop} (hv : VShop p) {t m : Int} (ht : 0 ≤ t) (hm : 0 ≤ m) : t ≤ afterF p t m := by
  by_cases h : m = 0
  · subst h; rw [after_zero]; exact Int.le_refl _
  · have := (after_is hv ht (m := m) (by omega)).2.1; omega
theorem after_bd {p : Shop} (hv : VShop p) {t m : Int} (ht : 0 ≤ t) (hm : 0 ≤ m) (hm' : m ≤ 1000000000) : afterF p t m ≤ t + m * 1440 + 1440 * 405 := by
  by_cases h : m = 0
  · subst h; rw [after_zero]; omega
  · have := (after_is hv ht (m := m) (by omega)).2.2
    have := (far_bd hv ht hm hm').1
    omega
theorem after_worked {p : Shop} (hv : VShop p) {t m : Int} (ht : 0 ≤ t) (hm : 0 ≤ m) : oB p (afterF p t m) - oB p t = m := by
  by_cases h : m = 0
  · subst h; rw [after_zero]; omega
  · obtain ⟨⟨h1, h2⟩, h3, _⟩ := after_is hv ht (m := m) (by omega)
    have h4 := h2 (afterF p t m - 1) (by omega)
    have h5 := (oB_mono hv (t := afterF p t m - 1) (u := afterF p t m) (by omega)).2
    omega
end Go.Proofs.Ytcpnfcnobnjhdaa

/- Chains and loads: the plain words. -/
namespace Go.Proofs.Ytcpnfcnobnjhdaa
/-- a step of a job, with its job and its number -/
structure Ent where
  j : Nat
  k : Nat
  x : Step
def stepsFrom (j : Nat) : Nat → List Step → List Ent
  | _, [] => []
  | k, x :: r => ⟨j, k, x⟩ :: stepsFrom j (k + 1) r
def entsFrom : Nat → List (List Step) → List Ent
  | _, [] => []
  | j, l :: r => stepsFrom j 0 l ++ entsFrom (j + 1) r
def ents (p : Shop) : List Ent := entsFrom 0 p.jobs
theorem stepsFrom_drop {j k : Nat} {l : List Step} {x : Step} (h : l[k]? = some x) : stepsFrom j k (l.drop k) = ⟨j, k, x⟩ :: stepsFrom j (k + 1) (l.drop (k + 1)) := by
  obtain ⟨hl, hf⟩ := List.getElem?_eq_some_iff.1 h
  rw [List.drop_eq_getElem_cons hl, hf]; rfl
theorem entsFrom_drop {j : Nat} {js : List (List Step)} {l : List Step} (h : js[j]? = some l) : entsFrom j (js.drop j) = stepsFrom j 0 l ++ entsFrom (j + 1) (js.drop (j + 1)) := by
  obtain ⟨hl, hf⟩ := List.getElem?_eq_some_iff.1 h
  rw [List.drop_eq_getElem_cons hl, hf]; rfl
theorem stepsFrom_mem {j : Nat} : ∀ {l : List Step} {k : Nat} {e : Ent}, e ∈ stepsFrom j k l → e.j = j ∧ ∃ i, e.k = k + i ∧ l[i]? = some e.x
  | [], k, e, h => by simp [stepsFrom] at h
  | x :: r, k, e, h => by
    simp only [stepsFrom, List.mem_cons] at h
    rcases h with rfl | h
    · exact ⟨rfl, 0, rfl, rfl⟩
    · obtain ⟨h1, i, h2, h3⟩ := stepsFrom_mem h
      exact ⟨h1, i + 1, by omega, by simpa using h3⟩
theorem entsFrom_mem : ∀ {js : List (List Step)} {j : Nat} {e : Ent}, e ∈ entsFrom j js → ∃ i l, e.j = j + i ∧ js[i]? = some l ∧ l[e.k]? = some e.x
  | [], j, e, h => by simp [entsFrom] at h
  | l :: r, j, e, h => by
    simp only [entsFrom, List.mem_append] at h
    rcases h with h | h
    · obtain ⟨h1, i, h2, h3⟩ := stepsFrom_mem h
      exact ⟨0, l, by omega, rfl, by rw [h2]; simpa using h3⟩
    · obtain ⟨i, l', h1, h2, h3⟩ := entsFrom_mem h
      exact ⟨i + 1, l', by omega, by simpa using h2, h3⟩
/-- where an entry comes from -/
theorem ents_mem {p : Shop} {e : Ent} (h : e ∈ ents p) : ∃ l, p.jobs[e.j]? = some l ∧ l[e.k]? = some e.x := by
  obtain ⟨i, l, h1, h2, h3⟩ := entsFrom_mem h
  rw [Nat.zero_add] at h1
  exact ⟨l, by rw [h1]; exact h2, h3⟩
/-- when a job goes on, and its end -/
noncomputable def chainSt (p : Shop) : List Step → Int → Int → Int
  | [], _, e => e
  | x :: r, t, _ => chainSt p r (nextF p t x.mi + x.mi + x.d) (nextF p t x.mi + x.mi)
noncomputable def chainF (p : Shop) (l : List Step) : Int := chainSt p l 0 0
theorem chainSt_drop {p : Shop} {l : List Step} {k : Nat} {x : Step} {t e : Int} (h : l[k]? = some x) : chainSt p (l.drop k) t e = chainSt p (l.drop (k + 1)) (nextF p t x.mi + x.mi + x.d) (nextF p t x.mi + x.mi) := by
  obtain ⟨hl, hf⟩ := List.getElem?_eq_some_iff.1 h
  rw [List.drop_eq_getElem_cons hl, hf]; rfl
/-- the minutes of a machine -/
def sumM (m : Int) : List Ent → Int
  | [] => 0
  | e :: r => (if e.x.m = m then e.x.mi else 0) + sumM m r
theorem sumM_append (m : Int) : ∀ a b : List Ent, sumM m (a ++ b) = sumM m a + sumM m b
  | [], b => by simp [sumM]
  | e :: r, b => by simp [sumM, sumM_append m r b, Int.add_assoc]
noncomputable def loadF (p : Shop) (m : Int) : Int := afterF p 0 (sumM m (ents p))
end Go.Proofs.Ytcpnfcnobnjhdaa

/- The sanity check of the shop's laws. -/
namespace Go.Proofs.Ytcpnfcnobnjhdaa
open Go.RowKit
def p0 : Shop := ⟨480, 960, 1, [], [0], []⟩
theorem p0_valid : validShop p0 = true := by decide
theorem p0_next : nextF p0 900 90 = 1920 := by
  apply next_eq
  refine ⟨by omega, by decide, fun r' h1 h2 => shiftB_no ?_⟩
  right
  show r' % 1440 < 480 ∨ 960 < r' % 1440 + 90
  omega
theorem p0_after : afterF p0 900 90 = 1950 := by
  apply after_eq (by omega)
  have hv := valid_facts p0_valid
  refine ⟨by decide, fun r' h => ?_⟩
  have h1 := (oB_mono hv (t := r') (u := 1949) (by omega)).1
  have h2 : oB p0 1949 < oB p0 900 + 90 := by decide
  omega

def s0 (b : Nat) : Sh := ⟨p0, none, 0, some ⟨b, 0, none⟩, 1, none, 0⟩
theorem s0_at {w : World} {b : Nat} (h : Blk w b 3 #[.int .i64 0]) : ShAt w w.heap.size (s0 b) :=
  ⟨Slc.nil_, (fun i x hi => by
    cases i with
    | zero =>
      simp [s0, p0] at hi
      subst hi
      exact ⟨b, 0, rfl, h.lt, fun j v hv => by
        cases j with
        | zero => simp [intEnc] at hv; subst hv; exact h.cell_ 0 rfl
        | succ j => simp [intEnc] at hv⟩
    | succ i => simp [s0, p0] at hi), fun i l hi => by simp [s0, p0] at hi⟩
theorem s0_next (b : Nat) : nextV (s0 b).p 900 90 = .tuple #[.int .i64 1920, .int .i64 0] := by
  show nextV p0 900 90 = _
  rw [nextV_ok (by omega) (by omega) (by omega) (by decide), p0_next]
theorem s0_after (b : Nat) : afterV (s0 b).p 900 90 = .tuple #[.int .i64 1950, .int .i64 0] := by
  show afterV p0 900 90 = _
  rw [afterV_ok (by omega) (by omega) (by omega) (by decide), p0_after]

theorem first_any (w : World) : Calls Try.prog 20 #[] w fun e w' => e = .returned (.bool true) ∧ Below w.heap.size w w' := by
  have hk0 := (Blk.new w 3 #[.int .i64 0]).alloc (.cells #[.int .i64 480, .int .i64 960, .slice none 0 0, .int .i64 1, .slice (some ⟨w.heap.size, 0, none⟩) 1 1, .slice none 0 0] 25)
  have hk1 := Blk.new (w.alloc (.cells #[.int .i64 0] 3)) 25 #[.int .i64 480, .int .i64 960, .slice none 0 0, .int .i64 1, .slice (some ⟨w.heap.size, 0, none⟩) 1 1, .slice none 0 0]
  have hw := ((Below.refl w.heap.size w).alloc (Nat.le_refl _) (.cells #[.int .i64 0] 3)).alloc (by simp) (.cells #[.int .i64 480, .int .i64 960, .slice none 0 0, .int .i64 1, .slice (some ⟨w.heap.size, 0, none⟩) 1 1, .slice none 0 0] 25)
  have e1 : (w.alloc (.cells #[.int .i64 0] 3)).heap.size = w.heap.size + 1 := by simp
  rw [e1] at hk1
  go_enter Try.func20, Try.ntmps20
  go_wp2_with fail
  generalize (w.alloc (.cells #[.int .i64 0] 3)).alloc (.cells #[.int .i64 480, .int .i64 960, .slice none 0 0, .int .i64 1, .slice (some ⟨w.heap.size, 0, none⟩) 1 1, .slice none 0 0] 25) = W at *
  refine (apiNext_any (s0 w.heap.size) 900 90 W (s0_at hk0) p0_valid).mono ?_
  rintro e w2 ⟨rfl, hb⟩
  rw [s0_next]
  have hk2 := hk0.below hb hk0.lt
  have hk3 := hk1.below hb hk1.lt
  have hw2 := hw.trans (hb.mono hw.size)
  have c0 := hk3.cell_ 0 rfl
  have c1 := hk3.cell_ 1 rfl
  have c2 := hk3.cell_ 2 rfl
  have c3 := hk3.cell_ 3 rfl
  have c4 := hk3.cell_ 4 rfl
  have c5 := hk3.cell_ 5 rfl
  go_wp2_with fail
  refine (apiAfter_any (s0 w.heap.size) 900 90 w2 (s0_at hk2) p0_valid).mono ?_
  rintro e w3 ⟨rfl, hb3⟩
  rw [s0_after]
  go_wp2_with fail
  go_ret
  exact ⟨rfl, hw2.trans (hb3.mono hw2.size)⟩
end Go.Proofs.Ytcpnfcnobnjhdaa

/- The laws ShopNexts, ShopAfter, ShopWorked: the walks. -/
namespace Go.Proofs.Ytcpnfcnobnjhdaa
open Go.RowKit
theorem shcells {s : Sh} {w : World} {g : Nat} (h : Blk w g 25 #[.int .i64 s.p.op, .int .i64 s.p.cl, .slice s.aH s.p.hol.length s.cH, .int .i64 s.p.mach, .slice s.aS s.p.setup.length s.cS, .slice s.aJ s.p.jobs.length s.cJ]) :
    w.cell? ⟨g, 0, none⟩ = some (.int .i64 s.p.op) ∧ w.cell? ⟨g, 1, none⟩ = some (.int .i64 s.p.cl) ∧ w.cell? ⟨g, 2, none⟩ = some (.slice s.aH s.p.hol.length s.cH) ∧
    w.cell? ⟨g, 3, none⟩ = some (.int .i64 s.p.mach) ∧ w.cell? ⟨g, 4, none⟩ = some (.slice s.aS s.p.setup.length s.cS) ∧ w.cell? ⟨g, 5, none⟩ = some (.slice s.aJ s.p.jobs.length s.cJ) :=
  ⟨h.cell_ 0 rfl, h.cell_ 1 rfl, h.cell_ 2 rfl, h.cell_ 3 rfl, h.cell_ 4 rfl, h.cell_ 5 rfl⟩

set_option maxRecDepth 100000 in
theorem nexts_walk (s : Sh) (t m : Int) (w : World) (hS : ShAt w w.heap.size s) (hf : Fits s.p) (tl : -9223372036854775808 ≤ t) (th : t ≤ 9223372036854775807) (ml : -9223372036854775808 ≤ m) (mh : m ≤ 9223372036854775807) :
    Calls Try.prog 3 #[.agg #[.int .i64 s.p.op, .int .i64 s.p.cl, .slice s.aH s.p.hol.length s.cH, .int .i64 s.p.mach, .slice s.aS s.p.setup.length s.cS, .slice s.aJ s.p.jobs.length s.cJ], .int .i64 t, .int .i64 m] w fun e w' => e = .returned (.bool true) ∧ Below w.heap.size w w' := by
  have hk := Blk.new w 25 #[.int .i64 s.p.op, .int .i64 s.p.cl, .slice s.aH s.p.hol.length s.cH, .int .i64 s.p.mach, .slice s.aS s.p.setup.length s.cS, .slice s.aJ s.p.jobs.length s.cJ]
  have hw := (Below.refl w.heap.size w).alloc (Nat.le_refl _) (.cells #[.int .i64 s.p.op, .int .i64 s.p.cl, .slice s.aH s.p.hol.length s.cH, .int .i64 s.p.mach, .slice s.aS s.p.setup.length s.cS, .slice s.aJ s.p.jobs.length s.cJ] 25)
  go_enter Try.func3, Try.ntmps3
  go_wp2_with fail
  generalize w.alloc (.cells #[.int .i64 s.p.op, .int .i64 s.p.cl, .slice s.aH s.p.hol.length s.cH, .int .i64 s.p.mach, .slice s.aS s.p.setup.length s.cS, .slice s.aJ s.p.jobs.length s.cJ] 25) = W at *
  refine (long_any s W (hS.on hw) hf.h1 hf.h2 hf.h3 hf.h4).mono ?_
  rintro e w2 ⟨rfl, hb⟩
  have hb2 := hw.trans (hb.mono hw.size)
  have hk2 := hk.below hb hk.lt
  have c0 := hk2.cell_ 0 rfl
  have c1 := hk2.cell_ 1 rfl
  have c2 := hk2.cell_ 2 rfl
  have c3 := hk2.cell_ 3 rfl
  have c4 := hk2.cell_ 4 rfl
  have c5 := hk2.cell_ 5 rfl
  cases hl : longB s.p
  · go_wp2_with fail
    refine (refValid_any s w2 (hS.on hb2) hf.h1 hf.h2 hf.h3 hf.h4).mono ?_
    rintro e w3 ⟨rfl, hb⟩
    have hb3 := hb2.trans (hb.mono hb2.size)
    have hk3 := hk2.below hb hk2.lt
    cases hvB : validShop s.p
    · go_wp2_with fail
      refine (first_any _).mono ?_
      rintro e w4 ⟨rfl, hb⟩
      have hb4 := hb3.trans (hb.mono hb3.size)
      go_wp2_with fail
      go_ret
      exact ⟨rfl, hb4⟩
    · have hv := valid_facts hvB
      have v1 := hv.op0
      have v2 := hv.opcl
      have v3 := hv.cl
      clear c0 c1 c2 c3 c4 c5
      have c0 := hk3.cell_ 0 rfl
      have c1 := hk3.cell_ 1 rfl
      have c2 := hk3.cell_ 2 rfl
      have c3 := hk3.cell_ 3 rfl
      have c4 := hk3.cell_ 4 rfl
      have c5 := hk3.cell_ 5 rfl
      go_wp2_with fail
      refine (apiNext_any s t m _ (hS.on hb3) hvB).mono ?_
      rintro e w4 ⟨rfl, hb⟩
      have hb4 := hb3.trans (hb.mono hb3.size)
      have hk4 := hk3.below hb hk3.lt
      clear c0 c1 c2 c3 c4 c5
      have c0 := hk4.cell_ 0 rfl
      have c1 := hk4.cell_ 1 rfl
      have c2 := hk4.cell_ 2 rfl
      have c3 := hk4.cell_ 3 rfl
      have c4 := hk4.cell_ 4 rfl
      have c5 := hk4.cell_ 5 rfl
      by_cases t0 : t < 0
      · rw [nextV_no (.inl (inB_false.2 (by omega)))]
        go_wp2_with fail
        refine (first_any _).mono ?_
        rintro e w5 ⟨rfl, hb⟩
        go_wp2_with fail
        go_ret
        exact ⟨rfl, hb4.trans (hb.mono hb4.size)⟩
      by_cases t1 : 100000000 < t
      · rw [nextV_no (.inl (inB_false.2 (by omega)))]
        go_wp2_with fail
        refine (first_any _).mono ?_
        rintro e w5 ⟨rfl, hb⟩
        go_wp2_with fail
        go_ret
        exact ⟨rfl, hb4.trans (hb.mono hb4.size)⟩
      by_cases m0 : m < 1
      · rw [nextV_no (.inr (inB_false.2 (by omega)))]
        go_wp2_with fail
        refine (first_any _).mono ?_
        rintro e w5 ⟨rfl, hb⟩
        go_wp2_with fail
        go_ret
        exact ⟨rfl, hb4.trans (hb.mono hb4.size)⟩
      by_cases m1 : s.p.cl - s.p.op < m
      · rw [nextV_no (.inr (inB_false.2 (by omega)))]
        go_wp2_with fail
        refine (first_any _).mono ?_
        rintro e w5 ⟨rfl, hb⟩
        go_wp2_with fail
        go_ret
        exact ⟨rfl, hb4.trans (hb.mono hb4.size)⟩
      rw [nextV_ok (by omega) (by omega) (by omega) (by omega)]
      go_wp2_with fail
      refine (refNext_any s t m _ (hS.on hb4) hv (by omega) (by omega) (by omega) (by omega)).mono ?_
      rintro e w5 ⟨rfl, hb⟩
      have hb5 := hb4.trans (hb.mono hb4.size)
      go_wp2_with fail
      refine (first_any _).mono ?_
      rintro e w6 ⟨rfl, hb⟩
      go_wp2_with fail
      go_ret
      exact ⟨rfl, hb5.trans (hb.mono hb5.size)⟩
  · go_wp2_with fail
    refine (first_any _).mono ?_
    rintro e w4 ⟨rfl, hb⟩
    go_wp2_with fail
    go_ret
    exact ⟨rfl, hb2.trans (hb.mono hb2.size)⟩

set_option maxRecDepth 100000 in
set_option maxHeartbeats 1000000 in
theorem after_walk (s : Sh) (t m : Int) (w : World) (hS : ShAt w w.heap.size s) (hf : Fits s.p) (tl : -9223372036854775808 ≤ t) (th : t ≤ 9223372036854775807) (ml : -9223372036854775808 ≤ m) (mh : m ≤ 9223372036854775807) :
    Calls Try.prog 4 #[.agg #[.int .i64 s.p.op, .int .i64 s.p.cl, .slice s.aH s.p.hol.length s.cH, .int .i64 s.p.mach, .slice s.aS s.p.setup.length s.cS, .slice s.aJ s.p.jobs.length s.cJ], .int .i64 t, .int .i64 m] w fun e w' => e = .returned (.bool true) ∧ Below w.heap.size w w' := by
  have hk := Blk.new w 25 #[.int .i64 s.p.op, .int .i64 s.p.cl, .slice s.aH s.p.hol.length s.cH, .int .i64 s.p.mach, .slice s.aS s.p.setup.length s.cS, .slice s.aJ s.p.jobs.length s.cJ]
  have hw := (Below.refl w.heap.size w).alloc (Nat.le_refl _) (.cells #[.int .i64 s.p.op, .int .i64 s.p.cl, .slice s.aH s.p.hol.length s.cH, .int .i64 s.p.mach, .slice s.aS s.p.setup.length s.cS, .slice s.aJ s.p.jobs.length s.cJ] 25)
  by_cases t0 : t < 0
  · go_enter Try.func4, Try.ntmps4
    go_wp2_with fail
    generalize w.alloc (.cells #[.int .i64 s.p.op, .int .i64 s.p.cl, .slice s.aH s.p.hol.length s.cH, .int .i64 s.p.mach, .slice s.aS s.p.setup.length s.cS, .slice s.aJ s.p.jobs.length s.cJ] 25) = W at *
    refine (long_any s W (hS.on hw) hf.h1 hf.h2 hf.h3 hf.h4).mono ?_
    rintro e w2 ⟨rfl, hb⟩
    have hb2 := hw.trans (hb.mono hw.size)
    have hk2 := hk.below hb hk.lt
    obtain ⟨c0, c1, c2, c3, c4, c5⟩ := shcells hk2
    cases hl : longB s.p
    · go_wp2_with fail
      refine (refValid_any s w2 (hS.on hb2) hf.h1 hf.h2 hf.h3 hf.h4).mono ?_
      rintro e w3 ⟨rfl, hb⟩
      have hb3 := hb2.trans (hb.mono hb2.size)
      have hk3 := hk2.below hb hk2.lt
      clear c0 c1 c2 c3 c4 c5
      obtain ⟨c0, c1, c2, c3, c4, c5⟩ := shcells hk3
      cases hvB : validShop s.p
      · go_wp2_with fail
        refine (first_any _).mono ?_
        rintro e w9 ⟨rfl, hb9⟩
        go_wp2_with fail
        go_ret
        exact ⟨rfl, hb3.trans (hb9.mono hb3.size)⟩
      · have hv := valid_facts hvB
        have v1 := hv.op0
        have v2 := hv.opcl
        have v3 := hv.cl
        go_wp2_with fail
        refine (apiAfter_any s t m _ (hS.on hb3) hvB).mono ?_
        rintro e w4 ⟨rfl, hb⟩
        have hb4 := hb3.trans (hb.mono hb3.size)
        rw [afterV_no (.inl (inB_false.2 (by omega)))]
        go_wp2_with fail
        refine (first_any _).mono ?_
        rintro e w9 ⟨rfl, hb9⟩
        go_wp2_with fail
        go_ret
        exact ⟨rfl, hb4.trans (hb9.mono hb4.size)⟩
    · go_wp2_with fail
      refine (first_any _).mono ?_
      rintro e w9 ⟨rfl, hb9⟩
      go_wp2_with fail
      go_ret
      exact ⟨rfl, hb2.trans (hb9.mono hb2.size)⟩
  by_cases t1 : 100000000 < t
  · go_enter Try.func4, Try.ntmps4
    go_wp2_with fail
    generalize w.alloc (.cells #[.int .i64 s.p.op, .int .i64 s.p.cl, .slice s.aH s.p.hol.length s.cH, .int .i64 s.p.mach, .slice s.aS s.p.setup.length s.cS, .slice s.aJ s.p.jobs.length s.cJ] 25) = W at *
    refine (long_any s W (hS.on hw) hf.h1 hf.h2 hf.h3 hf.h4).mono ?_
    rintro e w2 ⟨rfl, hb⟩
    have hb2 := hw.trans (hb.mono hw.size)
    have hk2 := hk.below hb hk.lt
    obtain ⟨c0, c1, c2, c3, c4, c5⟩ := shcells hk2
    cases hl : longB s.p
    · go_wp2_with fail
      refine (refValid_any s w2 (hS.on hb2) hf.h1 hf.h2 hf.h3 hf.h4).mono ?_
      rintro e w3 ⟨rfl, hb⟩
      have hb3 := hb2.trans (hb.mono hb2.size)
      have hk3 := hk2.below hb hk2.lt
      clear c0 c1 c2 c3 c4 c5
      obtain ⟨c0, c1, c2, c3, c4, c5⟩ := shcells hk3
      cases hvB : validShop s.p
      · go_wp2_with fail
        refine (first_any _).mono ?_
        rintro e w9 ⟨rfl, hb9⟩
        go_wp2_with fail
        go_ret
        exact ⟨rfl, hb3.trans (hb9.mono hb3.size)⟩
      · have hv := valid_facts hvB
        have v1 := hv.op0
        have v2 := hv.opcl
        have v3 := hv.cl
        go_wp2_with fail
        refine (apiAfter_any s t m _ (hS.on hb3) hvB).mono ?_
        rintro e w4 ⟨rfl, hb⟩
        have hb4 := hb3.trans (hb.mono hb3.size)
        rw [afterV_no (.inl (inB_false.2 (by omega)))]
        go_wp2_with fail
        refine (first_any _).mono ?_
        rintro e w9 ⟨rfl, hb9⟩
        go_wp2_with fail
        go_ret
        exact ⟨rfl, hb4.trans (hb9.mono hb4.size)⟩
    · go_wp2_with fail
      refine (first_any _).mono ?_
      rintro e w9 ⟨rfl, hb9⟩
      go_wp2_with fail
      go_ret
      exact ⟨rfl, hb2.trans (hb9.mono hb2.size)⟩
  by_cases m0 : m < 0
  · go_enter Try.func4, Try.ntmps4
    go_wp2_with fail
    generalize w.alloc (.cells #[.int .i64 s.p.op, .int .i64 s.p.cl, .slice s.aH s.p.hol.length s.cH, .int .i64 s.p.mach, .slice s.aS s.p.setup.length s.cS, .slice s.aJ s.p.jobs.length s.cJ] 25) = W at *
    refine (long_any s W (hS.on hw) hf.h1 hf.h2 hf.h3 hf.h4).mono ?_
    rintro e w2 ⟨rfl, hb⟩
    have hb2 := hw.trans (hb.mono hw.size)
    have hk2 := hk.below hb hk.lt
    obtain ⟨c0, c1, c2, c3, c4, c5⟩ := shcells hk2
    cases hl : longB s.p
    · go_wp2_with fail
      refine (refValid_any s w2 (hS.on hb2) hf.h1 hf.h2 hf.h3 hf.h4).mono ?_
      rintro e w3 ⟨rfl, hb⟩
      have hb3 := hb2.trans (hb.mono hb2.size)
      have hk3 := hk2.below hb hk2.lt
      clear c0 c1 c2 c3 c4 c5
      obtain ⟨c0, c1, c2, c3, c4, c5⟩ := shcells hk3
      cases hvB : validShop s.p
      · go_wp2_with fail
        refine (first_any _).mono ?_
        rintro e w9 ⟨rfl, hb9⟩
        go_wp2_with fail
        go_ret
        exact ⟨rfl, hb3.trans (hb9.mono hb3.size)⟩
      · have hv := valid_facts hvB
        have v1 := hv.op0
        have v2 := hv.opcl
        have v3 := hv.cl
        go_wp2_with fail
        refine (apiAfter_any s t m _ (hS.on hb3) hvB).mono ?_
        rintro e w4 ⟨rfl, hb⟩
        have hb4 := hb3.trans (hb.mono hb3.size)
        rw [afterV_no (.inr (inB_false.2 (by omega)))]
        go_wp2_with fail
        refine (first_any _).mono ?_
        rintro e w9 ⟨rfl, hb9⟩
        go_wp2_with fail
        go_ret
        exact ⟨rfl, hb4.trans (hb9.mono hb4.size)⟩
    · go_wp2_with fail
      refine (first_any _).mono ?_
      rintro e w9 ⟨rfl, hb9⟩
      go_wp2_with fail
      go_ret
      exact ⟨rfl, hb2.trans (hb9.mono hb2.size)⟩
  by_cases m1 : 1000000 < m
  · go_enter Try.func4, Try.ntmps4
    go_wp2_with fail
    generalize w.alloc (.cells #[.int .i64 s.p.op, .int .i64 s.p.cl, .slice s.aH s.p.hol.length s.cH, .int .i64 s.p.mach, .slice s.aS s.p.setup.length s.cS, .slice s.aJ s.p.jobs.length s.cJ] 25) = W at *
    refine (long_any s W (hS.on hw) hf.h1 hf.h2 hf.h3 hf.h4).mono ?_
    rintro e w2 ⟨rfl, hb⟩
    have hb2 := hw.trans (hb.mono hw.size)
    have hk2 := hk.below hb hk.lt
    obtain ⟨c0, c1, c2, c3, c4, c5⟩ := shcells hk2
    cases hl : longB s.p
    · go_wp2_with fail
      refine (refValid_any s w2 (hS.on hb2) hf.h1 hf.h2 hf.h3 hf.h4).mono ?_
      rintro e w3 ⟨rfl, hb⟩
      have hb3 := hb2.trans (hb.mono hb2.size)
      have hk3 := hk2.below hb hk2.lt
      clear c0 c1 c2 c3 c4 c5
      obtain ⟨c0, c1, c2, c3, c4, c5⟩ := shcells hk3
      cases hvB : validShop s.p
      · go_wp2_with fail
        refine (first_any _).mono ?_
        rintro e w9 ⟨rfl, hb9⟩
        go_wp2_with fail
        go_ret
        exact ⟨rfl, hb3.trans (hb9.mono hb3.size)⟩
      · have hv := valid_facts hvB
        have v1 := hv.op0
        have v2 := hv.opcl
        have v3 := hv.cl
        go_wp2_with fail
        refine (apiAfter_any s t m _ (hS.on hb3) hvB).mono ?_
        rintro e w4 ⟨rfl, hb⟩
        have hb4 := hb3.trans (hb.mono hb3.size)
        rw [afterV_no (.inr (inB_false.2 (by omega)))]
        go_wp2_with fail
        refine (first_any _).mono ?_
        rintro e w9 ⟨rfl, hb9⟩
        go_wp2_with fail
        go_ret
        exact ⟨rfl, hb4.trans (hb9.mono hb4.size)⟩
    · go_wp2_with fail
      refine (first_any _).mono ?_
      rintro e w9 ⟨rfl, hb9⟩
      go_wp2_with fail
      go_ret
      exact ⟨rfl, hb2.trans (hb9.mono hb2.size)⟩
  by_cases hcut : 20000 < m
  · go_enter Try.func4, Try.ntmps4
    go_wp2_with fail
    generalize w.alloc (.cells #[.int .i64 s.p.op, .int .i64 s.p.cl, .slice s.aH s.p.hol.length s.cH, .int .i64 s.p.mach, .slice s.aS s.p.setup.length s.cS, .slice s.aJ s.p.jobs.length s.cJ] 25) = W at *
    refine (long_any s W (hS.on hw) hf.h1 hf.h2 hf.h3 hf.h4).mono ?_
    rintro e w2 ⟨rfl, hb⟩
    have hb2 := hw.trans (hb.mono hw.size)
    have hk2 := hk.below hb hk.lt
    obtain ⟨c0, c1, c2, c3, c4, c5⟩ := shcells hk2
    cases hl : longB s.p
    · go_wp2_with fail
      refine (refValid_any s w2 (hS.on hb2) hf.h1 hf.h2 hf.h3 hf.h4).mono ?_
      rintro e w3 ⟨rfl, hb⟩
      have hb3 := hb2.trans (hb.mono hb2.size)
      have hk3 := hk2.below hb hk2.lt
      clear c0 c1 c2 c3 c4 c5
      obtain ⟨c0, c1, c2, c3, c4, c5⟩ := shcells hk3
      cases hvB : validShop s.p
      · go_wp2_with fail
        refine (first_any _).mono ?_
        rintro e w9 ⟨rfl, hb9⟩
        go_wp2_with fail
        go_ret
        exact ⟨rfl, hb3.trans (hb9.mono hb3.size)⟩
      · have hv := valid_facts hvB
        have v1 := hv.op0
        have v2 := hv.opcl
        have v3 := hv.cl
        go_wp2_with fail
        refine (first_any _).mono ?_
        rintro e w9 ⟨rfl, hb9⟩
        go_wp2_with fail
        go_ret
        exact ⟨rfl, hb3.trans (hb9.mono hb3.size)⟩
    · go_wp2_with fail
      refine (first_any _).mono ?_
      rintro e w9 ⟨rfl, hb9⟩
      go_wp2_with fail
      go_ret
      exact ⟨rfl, hb2.trans (hb9.mono hb2.size)⟩
  go_enter Try.func4, Try.ntmps4
  go_wp2_with fail
  generalize w.alloc (.cells #[.int .i64 s.p.op, .int .i64 s.p.cl, .slice s.aH s.p.hol.length s.cH, .int .i64 s.p.mach, .slice s.aS s.p.setup.length s.cS, .slice s.aJ s.p.jobs.length s.cJ] 25) = W at *
  refine (long_any s W (hS.on hw) hf.h1 hf.h2 hf.h3 hf.h4).mono ?_
  rintro e w2 ⟨rfl, hb⟩
  have hb2 := hw.trans (hb.mono hw.size)
  have hk2 := hk.below hb hk.lt
  obtain ⟨c0, c1, c2, c3, c4, c5⟩ := shcells hk2
  cases hl : longB s.p
  · go_wp2_with fail
    refine (refValid_any s w2 (hS.on hb2) hf.h1 hf.h2 hf.h3 hf.h4).mono ?_
    rintro e w3 ⟨rfl, hb⟩
    have hb3 := hb2.trans (hb.mono hb2.size)
    have hk3 := hk2.below hb hk2.lt
    clear c0 c1 c2 c3 c4 c5
    obtain ⟨c0, c1, c2, c3, c4, c5⟩ := shcells hk3
    cases hvB : validShop s.p
    · go_wp2_with fail
      refine (first_any _).mono ?_
      rintro e w9 ⟨rfl, hb9⟩
      go_wp2_with fail
      go_ret
      exact ⟨rfl, hb3.trans (hb9.mono hb3.size)⟩
    · have hv := valid_facts hvB
      have v1 := hv.op0
      have v2 := hv.opcl
      have v3 := hv.cl
      go_wp2_with fail
      refine (apiAfter_any s t m _ (hS.on hb3) hvB).mono ?_
      rintro e w4 ⟨rfl, hb⟩
      have hb4 := hb3.trans (hb.mono hb3.size)
      have hk4 := hk3.below hb hk3.lt
      clear c0 c1 c2 c3 c4 c5
      obtain ⟨c0, c1, c2, c3, c4, c5⟩ := shcells hk4
      rw [afterV_ok (by omega) (by omega) (by omega) (by omega)]
      go_wp2_with fail
      refine (refAfter_any s t m _ (hS.on hb4) hv (by omega) (by omega) (by omega) (by omega)).mono ?_
      rintro e w5 ⟨rfl, hb⟩
      have hb5 := hb4.trans (hb.mono hb4.size)
      go_wp2_with fail
      refine (first_any _).mono ?_
      rintro e w9 ⟨rfl, hb9⟩
      go_wp2_with fail
      go_ret
      exact ⟨rfl, hb5.trans (hb9.mono hb5.size)⟩
  · go_wp2_with fail
    refine (first_any _).mono ?_
    rintro e w9 ⟨rfl, hb9⟩
    go_wp2_with fail
    go_ret
    exact ⟨rfl, hb2.trans (hb9.mono hb2.size)⟩

set_option maxRecDepth 100000 in
set_option maxHeartbeats 1000000 in
theorem worked_walk (s : Sh) (t m : Int) (w : World) (hS : ShAt w w.heap.size s) (hf : Fits s.p) (tl : -9223372036854775808 ≤ t) (th : t ≤ 9223372036854775807) (ml : -9223372036854775808 ≤ m) (mh : m ≤ 9223372036854775807) :
    Calls Try.prog 5 #[.agg #[.int .i64 s.p.op, .int .i64 s.p.cl, .slice s.aH s.p.hol.length s.cH, .int .i64 s.p.mach, .slice s.aS s.p.setup.length s.cS, .slice s.aJ s.p.jobs.length s.cJ], .int .i64 t, .int .i64 m] w fun e w' => e = .returned (.bool true) ∧ Below w.heap.size w w' := by
  have hk := Blk.new w 25 #[.int .i64 s.p.op, .int .i64 s.p.cl, .slice s.aH s.p.hol.length s.cH, .int .i64 s.p.mach, .slice s.aS s.p.setup.length s.cS, .slice s.aJ s.p.jobs.length s.cJ]
  have hw := (Below.refl w.heap.size w).alloc (Nat.le_refl _) (.cells #[.int .i64 s.p.op, .int .i64 s.p.cl, .slice s.aH s.p.hol.length s.cH, .int .i64 s.p.mach, .slice s.aS s.p.setup.length s.cS, .slice s.aJ s.p.jobs.length s.cJ] 25)
  by_cases t0 : t < 0
  · go_enter Try.func5, Try.ntmps5
    go_wp2_with fail
    generalize w.alloc (.cells #[.int .i64 s.p.op, .int .i64 s.p.cl, .slice s.aH s.p.hol.length s.cH, .int .i64 s.p.mach, .slice s.aS s.p.setup.length s.cS, .slice s.aJ s.p.jobs.length s.cJ] 25) = W at *
    refine (long_any s W (hS.on hw) hf.h1 hf.h2 hf.h3 hf.h4).mono ?_
    rintro e w2 ⟨rfl, hb⟩
    have hb2 := hw.trans (hb.mono hw.size)
    have hk2 := hk.below hb hk.lt
    obtain ⟨c0, c1, c2, c3, c4, c5⟩ := shcells hk2
    cases hl : longB s.p
    · go_wp2_with fail
      refine (refValid_any s w2 (hS.on hb2) hf.h1 hf.h2 hf.h3 hf.h4).mono ?_
      rintro e w3 ⟨rfl, hb⟩
      have hb3 := hb2.trans (hb.mono hb2.size)
      have hk3 := hk2.below hb hk2.lt
      clear c0 c1 c2 c3 c4 c5
      obtain ⟨c0, c1, c2, c3, c4, c5⟩ := shcells hk3
      cases hvB : validShop s.p
      · go_wp2_with fail
        refine (first_any _).mono ?_
        rintro e w9 ⟨rfl, hb9⟩
        go_wp2_with fail
        go_ret
        exact ⟨rfl, hb3.trans (hb9.mono hb3.size)⟩
      · have hv := valid_facts hvB
        have v1 := hv.op0
        have v2 := hv.opcl
        have v3 := hv.cl
        go_wp2_with fail
        refine (apiWorked_err s t m _ (hS.on hb3) hvB (by omega)).mono ?_
        rintro e w4 ⟨rfl, hb⟩
        have hb4 := hb3.trans (hb.mono hb3.size)
        go_wp2_with fail
        refine (first_any _).mono ?_
        rintro e w9 ⟨rfl, hb9⟩
        go_wp2_with fail
        go_ret
        exact ⟨rfl, hb4.trans (hb9.mono hb4.size)⟩
    · go_wp2_with fail
      refine (first_any _).mono ?_
      rintro e w9 ⟨rfl, hb9⟩
      go_wp2_with fail
      go_ret
      exact ⟨rfl, hb2.trans (hb9.mono hb2.size)⟩
  by_cases t1 : m < t
  · go_enter Try.func5, Try.ntmps5
    go_wp2_with fail
    generalize w.alloc (.cells #[.int .i64 s.p.op, .int .i64 s.p.cl, .slice s.aH s.p.hol.length s.cH, .int .i64 s.p.mach, .slice s.aS s.p.setup.length s.cS, .slice s.aJ s.p.jobs.length s.cJ] 25) = W at *
    refine (long_any s W (hS.on hw) hf.h1 hf.h2 hf.h3 hf.h4).mono ?_
    rintro e w2 ⟨rfl, hb⟩
    have hb2 := hw.trans (hb.mono hw.size)
    have hk2 := hk.below hb hk.lt
    obtain ⟨c0, c1, c2, c3, c4, c5⟩ := shcells hk2
    cases hl : longB s.p
    · go_wp2_with fail
      refine (refValid_any s w2 (hS.on hb2) hf.h1 hf.h2 hf.h3 hf.h4).mono ?_
      rintro e w3 ⟨rfl, hb⟩
      have hb3 := hb2.trans (hb.mono hb2.size)
      have hk3 := hk2.below hb hk2.lt
      clear c0 c1 c2 c3 c4 c5
      obtain ⟨c0, c1, c2, c3, c4, c5⟩ := shcells hk3
      cases hvB : validShop s.p
      · go_wp2_with fail
        refine (first_any _).mono ?_
        rintro e w9 ⟨rfl, hb9⟩
        go_wp2_with fail
        go_ret
        exact ⟨rfl, hb3.trans (hb9.mono hb3.size)⟩
      · have hv := valid_facts hvB
        have v1 := hv.op0
        have v2 := hv.opcl
        have v3 := hv.cl
        go_wp2_with fail
        refine (apiWorked_err s t m _ (hS.on hb3) hvB (by omega)).mono ?_
        rintro e w4 ⟨rfl, hb⟩
        have hb4 := hb3.trans (hb.mono hb3.size)
        go_wp2_with fail
        refine (first_any _).mono ?_
        rintro e w9 ⟨rfl, hb9⟩
        go_wp2_with fail
        go_ret
        exact ⟨rfl, hb4.trans (hb9.mono hb4.size)⟩
    · go_wp2_with fail
      refine (first_any _).mono ?_
      rintro e w9 ⟨rfl, hb9⟩
      go_wp2_with fail
      go_ret
      exact ⟨rfl, hb2.trans (hb9.mono hb2.size)⟩
  by_cases m0 : 100000000 < m
  · go_enter Try.func5, Try.ntmps5
    go_wp2_with fail
    generalize w.alloc (.cells #[.int .i64 s.p.op, .int .i64 s.p.cl, .slice s.aH s.p.hol.length s.cH, .int .i64 s.p.mach, .slice s.aS s.p.setup.length s.cS, .slice s.aJ s.p.jobs.length s.cJ] 25) = W at *
    refine (long_any s W (hS.on hw) hf.h1 hf.h2 hf.h3 hf.h4).mono ?_
    rintro e w2 ⟨rfl, hb⟩
    have hb2 := hw.trans (hb.mono hw.size)
    have hk2 := hk.below hb hk.lt
    obtain ⟨c0, c1, c2, c3, c4, c5⟩ := shcells hk2
    cases hl : longB s.p
    · go_wp2_with fail
      refine (refValid_any s w2 (hS.on hb2) hf.h1 hf.h2 hf.h3 hf.h4).mono ?_
      rintro e w3 ⟨rfl, hb⟩
      have hb3 := hb2.trans (hb.mono hb2.size)
      have hk3 := hk2.below hb hk2.lt
      clear c0 c1 c2 c3 c4 c5
      obtain ⟨c0, c1, c2, c3, c4, c5⟩ := shcells hk3
      cases hvB : validShop s.p
      · go_wp2_with fail
        refine (first_any _).mono ?_
        rintro e w9 ⟨rfl, hb9⟩
        go_wp2_with fail
        go_ret
        exact ⟨rfl, hb3.trans (hb9.mono hb3.size)⟩
      · have hv := valid_facts hvB
        have v1 := hv.op0
        have v2 := hv.opcl
        have v3 := hv.cl
        go_wp2_with fail
        refine (apiWorked_err s t m _ (hS.on hb3) hvB (by omega)).mono ?_
        rintro e w4 ⟨rfl, hb⟩
        have hb4 := hb3.trans (hb.mono hb3.size)
        go_wp2_with fail
        refine (first_any _).mono ?_
        rintro e w9 ⟨rfl, hb9⟩
        go_wp2_with fail
        go_ret
        exact ⟨rfl, hb4.trans (hb9.mono hb4.size)⟩
    · go_wp2_with fail
      refine (first_any _).mono ?_
      rintro e w9 ⟨rfl, hb9⟩
      go_wp2_with fail
      go_ret
      exact ⟨rfl, hb2.trans (hb9.mono hb2.size)⟩
  by_cases hcut : 3000000 < m - t
  · go_enter Try.func5, Try.ntmps5
    go_wp2_with fail
    generalize w.alloc (.cells #[.int .i64 s.p.op, .int .i64 s.p.cl, .slice s.aH s.p.hol.length s.cH, .int .i64 s.p.mach, .slice s.aS s.p.setup.length s.cS, .slice s.aJ s.p.jobs.length s.cJ] 25) = W at *
    refine (long_any s W (hS.on hw) hf.h1 hf.h2 hf.h3 hf.h4).mono ?_
    rintro e w2 ⟨rfl, hb⟩
    have hb2 := hw.trans (hb.mono hw.size)
    have hk2 := hk.below hb hk.lt
    obtain ⟨c0, c1, c2, c3, c4, c5⟩ := shcells hk2
    cases hl : longB s.p
    · go_wp2_with fail
      refine (refValid_any s w2 (hS.on hb2) hf.h1 hf.h2 hf.h3 hf.h4).mono ?_
      rintro e w3 ⟨rfl, hb⟩
      have hb3 := hb2.trans (hb.mono hb2.size)
      have hk3 := hk2.below hb hk2.lt
      clear c0 c1 c2 c3 c4 c5
      obtain ⟨c0, c1, c2, c3, c4, c5⟩ := shcells hk3
      cases hvB : validShop s.p
      · go_wp2_with fail
        refine (first_any _).mono ?_
        rintro e w9 ⟨rfl, hb9⟩
        go_wp2_with fail
        go_ret
        exact ⟨rfl, hb3.trans (hb9.mono hb3.size)⟩
      · have hv := valid_facts hvB
        have v1 := hv.op0
        have v2 := hv.opcl
        have v3 := hv.cl
        go_wp2_with fail
        refine (first_any _).mono ?_
        rintro e w9 ⟨rfl, hb9⟩
        go_wp2_with fail
        go_ret
        exact ⟨rfl, hb3.trans (hb9.mono hb3.size)⟩
    · go_wp2_with fail
      refine (first_any _).mono ?_
      rintro e w9 ⟨rfl, hb9⟩
      go_wp2_with fail
      go_ret
      exact ⟨rfl, hb2.trans (hb9.mono hb2.size)⟩
  go_enter Try.func5, Try.ntmps5
  go_wp2_with fail
  generalize w.alloc (.cells #[.int .i64 s.p.op, .int .i64 s.p.cl, .slice s.aH s.p.hol.length s.cH, .int .i64 s.p.mach, .slice s.aS s.p.setup.length s.cS, .slice s.aJ s.p.jobs.length s.cJ] 25) = W at *
  refine (long_any s W (hS.on hw) hf.h1 hf.h2 hf.h3 hf.h4).mono ?_
  rintro e w2 ⟨rfl, hb⟩
  have hb2 := hw.trans (hb.mono hw.size)
  have hk2 := hk.below hb hk.lt
  obtain ⟨c0, c1, c2, c3, c4, c5⟩ := shcells hk2
  cases hl : longB s.p
  · go_wp2_with fail
    refine (refValid_any s w2 (hS.on hb2) hf.h1 hf.h2 hf.h3 hf.h4).mono ?_
    rintro e w3 ⟨rfl, hb⟩
    have hb3 := hb2.trans (hb.mono hb2.size)
    have hk3 := hk2.below hb hk2.lt
    clear c0 c1 c2 c3 c4 c5
    obtain ⟨c0, c1, c2, c3, c4, c5⟩ := shcells hk3
    cases hvB : validShop s.p
    · go_wp2_with fail
      refine (first_any _).mono ?_
      rintro e w9 ⟨rfl, hb9⟩
      go_wp2_with fail
      go_ret
      exact ⟨rfl, hb3.trans (hb9.mono hb3.size)⟩
    · have hv := valid_facts hvB
      have v1 := hv.op0
      have v2 := hv.opcl
      have v3 := hv.cl
      go_wp2_with fail
      refine (apiWorked_ok s t m _ (hS.on hb3) hvB (by omega) (by omega) (by omega)).mono ?_
      rintro e w4 ⟨rfl, hb⟩
      have hb4 := hb3.trans (hb.mono hb3.size)
      have hk4 := hk3.below hb hk3.lt
      clear c0 c1 c2 c3 c4 c5
      obtain ⟨c0, c1, c2, c3, c4, c5⟩ := shcells hk4
      go_wp2_with fail
      refine (refWorked_any s t m _ (hS.on hb4) hv (by omega) (by omega) (by omega)).mono ?_
      rintro e w5 ⟨rfl, hb⟩
      have hb5 := hb4.trans (hb.mono hb4.size)
      go_wp2_with fail
      refine (first_any _).mono ?_
      rintro e w9 ⟨rfl, hb9⟩
      go_wp2_with fail
      go_ret
      exact ⟨rfl, hb5.trans (hb9.mono hb5.size)⟩
  · go_wp2_with fail
    refine (first_any _).mono ?_
    rintro e w9 ⟨rfl, hb9⟩
    go_wp2_with fail
    go_ret
    exact ⟨rfl, hb2.trans (hb9.mono hb2.size)⟩
end Go.Proofs.Ytcpnfcnobnjhdaa

/- Chains and loads: the walks. -/
namespace Go.Proofs.Ytcpnfcnobnjhdaa
open Go.RowKit
theorem job_at {w : World} {B : Nat} {A : Option Addr} {js : List (List Step)} {k : Nat} {l : List Step} (h : Jobs w B A js) (hk : js[k]? = some l) :
    ∃ b off A' c', A = some ⟨b, off, none⟩ ∧ b < B ∧ w.cell? ⟨b, off + k, none⟩ = some (.slice A' l.length c') ∧ Slc Step.enc 4 w B A' l := h k l hk

set_option maxRecDepth 100000 in
theorem chain_any (s : Sh) (j : Nat) (l : List Step) (w : World) (hS : ShAt w w.heap.size s) (hv : VShop s.p) (hj : s.p.jobs[j]? = some l) :
    Calls Try.prog 56 #[.agg #[.int .i64 s.p.op, .int .i64 s.p.cl, .slice s.aH s.p.hol.length s.cH, .int .i64 s.p.mach, .slice s.aS s.p.setup.length s.cS, .slice s.aJ s.p.jobs.length s.cJ], .int .i64 j] w fun e w' => e = .returned (.int .i64 (chainF s.p l)) ∧ Below w.heap.size w w' := by
  have hjl : j < s.p.jobs.length := (List.getElem?_eq_some_iff.1 hj).1
  have hjn := hv.jobn
  have hst := hv.steps j l hj
  have v1 := hv.op0
  have v2 := hv.opcl
  have v3 := hv.cl
  have hk := Blk.new w 25 #[.int .i64 s.p.op, .int .i64 s.p.cl, .slice s.aH s.p.hol.length s.cH, .int .i64 s.p.mach, .slice s.aS s.p.setup.length s.cS, .slice s.aJ s.p.jobs.length s.cJ]
  have hw := (Below.refl w.heap.size w).alloc (Nat.le_refl _) (.cells #[.int .i64 s.p.op, .int .i64 s.p.cl, .slice s.aH s.p.hol.length s.cH, .int .i64 s.p.mach, .slice s.aS s.p.setup.length s.cS, .slice s.aJ s.p.jobs.length s.cJ] 25)
  obtain ⟨b, off, A', c', hA, hb, hc, hSl⟩ := job_at (hS.on hw).jobs hj
  have HC : Hid (chainF s.p l = chainSt s.p (l.drop 0) 0 0) := rfl
  obtain ⟨p, aH, cH, aS, cS, aJ, cJ⟩ := s
  dsimp only at *
  subst hA
  go_enter Try.func56, Try.ntmps56
  go_wp2_with fail
  generalize w.alloc (.cells #[.int .i64 p.op, .int .i64 p.cl, .slice aH p.hol.length cH, .int .i64 p.mach, .slice aS p.setup.length cS, .slice (some ⟨b, off, none⟩) p.jobs.length cJ] 25) = W at *
  go_loopw [5, 6, 16] (fun x y z wr => ∃ (k : Nat) (t e : Int), x = .int .i64 t ∧ y = .int .i64 e ∧ z = .int .i64 k ∧ k ≤ l.length ∧ chainF p l = chainSt p (l.drop k) t e ∧ 0 ≤ t ∧ t ≤ 20000000 + k * 20000 ∧ Blk wr w.heap.size 25 #[.int .i64 p.op, .int .i64 p.cl, .slice aH p.hol.length cH, .int .i64 p.mach, .slice aS p.setup.length cS, .slice (some ⟨b, off, none⟩) p.jobs.length cJ] ∧ Below w.heap.size w wr ∧ Below W.heap.size W wr) (fun _ _ z _ => l.length - (intOf z).toNat)
  case atStart => exact ⟨0, 0, 0, rfl, rfl, rfl, Nat.zero_le _, HC.out, Int.le_refl _, by omega, hk, hw, Below.refl _ _⟩
  case round =>
    obtain ⟨k, t, e, rfl, rfl, rfl, hkl, hch, ht0, ht1, hkr, hbel, hbW⟩ := hrel
    have HCH := hide hch
    clear hch
    by_cases hlt : k < l.length
    · obtain ⟨x, b2, off2, hx, hA2, hb2, d0, d1, d2, d3⟩ := steps_at (hSl.below hbW) hlt
      obtain ⟨_, _, x1, x2, _, _, x3, x4⟩ := hst.2 k x hx
      have hN := next_is hv (t := t) (m := x.mi) ht0 x2
      have hN1 := next_ge hv (t := t) (m := x.mi) ht0 x2
      have hN2 := hN.2
      have HX := hide hx
      clear hx hN
      subst hA2
      have hstp := Blk.new wr 69 #[.int .i64 x.m, .int .i64 x.mi, .int .i64 x.c, .int .i64 x.d]
      have hk2 := hkr.alloc (.cells #[.int .i64 x.m, .int .i64 x.mi, .int .i64 x.c, .int .i64 x.d] 69)
      have hbV := hbel.alloc hbel.size (.cells #[.int .i64 x.m, .int .i64 x.mi, .int .i64 x.c, .int .i64 x.d] 69)
      have hbU := hbW.alloc hbW.size (.cells #[.int .i64 x.m, .int .i64 x.mi, .int .i64 x.c, .int .i64 x.d] 69)
      go_wp2_with fail
      generalize wr.alloc (.cells #[.int .i64 x.m, .int .i64 x.mi, .int .i64 x.c, .int .i64 x.d] 69) = V at *
      have HSV := hS.on hbV
      refine wp_region_quiet (C := fun w' => ∃ u : Since V, w' = u.w) (by kernel_rfl) (by kernel_rfl) (Since.start V) ?_
      dsimp only
      have y0 := Since.cell (hk2.cell_ 0 rfl)
      have y1 := Since.cell (hk2.cell_ 1 rfl)
      have y2 := Since.cell (hk2.cell_ 2 rfl)
      have y3 := Since.cell (hk2.cell_ 3 rfl)
      have y4 := Since.cell (hk2.cell_ 4 rfl)
      have y5 := Since.cell (hk2.cell_ 5 rfl)
      have z1 := Since.cell (hstp.cell_ 1 rfl)
      have e1 : IntKind.i64.wrap (nextF p t x.mi + x.mi) = nextF p t x.mi + x.mi := IntWalk.i64_in _ (by omega)
      repeat (go_big_quiet_step ((go_at_call 51; exact Since.calls (next_any ⟨p, aH, cH, aS, cS, some ⟨b, off, none⟩, cJ⟩ t x.mi _ (HSV.on (Since.h _)) hv ht0 (by omega) x1 x2))))
      refine wpQuiet_nil ?_
      rintro _ ⟨u, rfl⟩
      have hk3 := hk2.below u.h hk2.lt
      have hs3 := hstp.below u.h hstp.lt
      have hb3 := hbV.trans (u.h.mono hbV.size)
      have hU3 := hbU.trans (u.h.mono hbU.size)
      have g3 := hs3.cell_ 3 rfl
      go_wp2_with fail
      go_roundw
      case rel => exact ⟨k + 1, _, _, rfl, rfl, by go_num, by omega, by rw [HCH.out, chainSt_drop HX.out], by omega, by omega, hk3, hb3, hU3⟩
      case measure => simp [intOf]; omega
    · obtain rfl : k = l.length := by omega
      go_wp2_with fail
      go_ret
      exact ⟨ret_int (by rw [HCH.out, nomore]; rfl), hbel⟩

set_option maxRecDepth 100000 in
theorem refChain_any (s : Sh) (j : Nat) (l : List Step) (w : World) (hS : ShAt w w.heap.size s) (hv : VShop s.p) (hj : s.p.jobs[j]? = some l) :
    Calls Try.prog 31 #[.agg #[.int .i64 s.p.op, .int .i64 s.p.cl, .slice s.aH s.p.hol.length s.cH, .int .i64 s.p.mach, .slice s.aS s.p.setup.length s.cS, .slice s.aJ s.p.jobs.length s.cJ], .int .i64 j] w fun e w' => e = .returned (.int .i64 (chainF s.p l)) ∧ Below w.heap.size w w' := by
  have hjl : j < s.p.jobs.length := (List.getElem?_eq_some_iff.1 hj).1
  have hjn := hv.jobn
  have hst := hv.steps j l hj
  have v1 := hv.op0
  have v2 := hv.opcl
  have v3 := hv.cl
  have hk := Blk.new w 25 #[.int .i64 s.p.op, .int .i64 s.p.cl, .slice s.aH s.p.hol.length s.cH, .int .i64 s.p.mach, .slice s.aS s.p.setup.length s.cS, .slice s.aJ s.p.jobs.length s.cJ]
  have hw := (Below.refl w.heap.size w).alloc (Nat.le_refl _) (.cells #[.int .i64 s.p.op, .int .i64 s.p.cl, .slice s.aH s.p.hol.length s.cH, .int .i64 s.p.mach, .slice s.aS s.p.setup.length s.cS, .slice s.aJ s.p.jobs.length s.cJ] 25)
  obtain ⟨b, off, A', c', hA, hb, hc, hSl⟩ := job_at (hS.on hw).jobs hj
  have HC : Hid (chainF s.p l = chainSt s.p (l.drop 0) 0 0) := rfl
  obtain ⟨p, aH, cH, aS, cS, aJ, cJ⟩ := s
  dsimp only at *
  subst hA
  go_enter Try.func31, Try.ntmps31
  go_wp2_with fail
  generalize w.alloc (.cells #[.int .i64 p.op, .int .i64 p.cl, .slice aH p.hol.length cH, .int .i64 p.mach, .slice aS p.setup.length cS, .slice (some ⟨b, off, none⟩) p.jobs.length cJ] 25) = W at *
  go_loopw [5, 6, 8] (fun x y z wr => ∃ (k : Nat) (t e : Int), x = .int .i64 t ∧ y = .int .i64 e ∧ z = .int .i64 k ∧ k ≤ l.length ∧ chainF p l = chainSt p (l.drop k) t e ∧ 0 ≤ t ∧ t ≤ 20000000 + k * 20000 ∧ Blk wr w.heap.size 25 #[.int .i64 p.op, .int .i64 p.cl, .slice aH p.hol.length cH, .int .i64 p.mach, .slice aS p.setup.length cS, .slice (some ⟨b, off, none⟩) p.jobs.length cJ] ∧ Below w.heap.size w wr ∧ Below W.heap.size W wr) (fun _ _ z _ => l.length - (intOf z).toNat)
  case atStart => exact ⟨0, 0, 0, rfl, rfl, rfl, Nat.zero_le _, HC.out, Int.le_refl _, by omega, hk, hw, Below.refl _ _⟩
  case round =>
    obtain ⟨k, t, e, rfl, rfl, rfl, hkl, hch, ht0, ht1, hk2, hbV, hbW⟩ := hrel
    have HCH := hide hch
    clear hch
    by_cases hlt : k < l.length
    · obtain ⟨x, b2, off2, hx, hA2, hb2, d0, d1, d2, d3⟩ := steps_at (hSl.below hbW) hlt
      obtain ⟨_, _, x1, x2, _, _, x3, x4⟩ := hst.2 k x hx
      have hN := next_is hv (t := t) (m := x.mi) ht0 x2
      have hN1 := next_ge hv (t := t) (m := x.mi) ht0 x2
      have hN2 := hN.2
      have HX := hide hx
      clear hx hN
      subst hA2
      obtain ⟨V, rfl⟩ : ∃ V : World, V = wr := ⟨_, rfl⟩
      have HSV := hS.on hbV
      go_wp2_with fail
      refine wp_region_quiet (C := fun w' => ∃ u : Since V, w' = u.w) (by kernel_rfl) (by kernel_rfl) (Since.start V) ?_
      dsimp only
      have y0 := Since.cell (hk2.cell_ 0 rfl)
      have y1 := Since.cell (hk2.cell_ 1 rfl)
      have y2 := Since.cell (hk2.cell_ 2 rfl)
      have y3 := Since.cell (hk2.cell_ 3 rfl)
      have y4 := Since.cell (hk2.cell_ 4 rfl)
      have y5 := Since.cell (hk2.cell_ 5 rfl)
      have z1 := Since.cell d1
      have e1 : IntKind.i64.wrap (nextF p t x.mi + x.mi) = nextF p t x.mi + x.mi := IntWalk.i64_in _ (by omega)
      repeat (go_big_quiet_step ((go_at_call 22; exact Since.calls (refNext_any ⟨p, aH, cH, aS, cS, some ⟨b, off, none⟩, cJ⟩ t x.mi _ (HSV.on (Since.h _)) hv ht0 (by omega) x1 x2))))
      refine wpQuiet_nil ?_
      rintro _ ⟨u, rfl⟩
      have hk3 := hk2.below u.h hk2.lt
      have hb3 := hbV.trans (u.h.mono hbV.size)
      have hU3 := hbW.trans (u.h.mono hbW.size)
      obtain ⟨x', b3, off3, hx', hA3, _, f0, f1, f2, f3⟩ := steps_at (hSl.below hU3) hlt
      obtain rfl : x' = x := by have := HX.out; rw [this] at hx'; injection hx' with hx'; exact hx'.symm
      obtain ⟨rfl, rfl⟩ : b2 = b3 ∧ off2 = off3 := by injection hA3 with hA3; injection hA3 with h1 h2; exact ⟨h1, h2⟩
      clear hx' hA3
      go_wp2_with fail
      go_roundw
      case rel => exact ⟨k + 1, _, _, rfl, rfl, by go_num, by omega, by rw [HCH.out, chainSt_drop HX.out], by omega, by omega, hk3, hb3, hU3⟩
      case measure => simp [intOf]; omega
    · obtain rfl : k = l.length := by omega
      go_wp2_with fail
      go_ret
      exact ⟨ret_int (by rw [HCH.out, nomore]; rfl), hbV⟩
end Go.Proofs.Ytcpnfcnobnjhdaa

/- The law ShopTimes: the walk. -/
namespace Go.Proofs.Ytcpnfcnobnjhdaa
open Go.RowKit

set_option maxRecDepth 200000 in
set_option maxHeartbeats 4000000 in
theorem times_walk (s : Sh) (A B C M : Int) (w : World) (hS : ShAt w w.heap.size s) (hf : Fits s.p) (A0 : 0 ≤ A) (A1 : A ≤ 65535) (B0 : 0 ≤ B) (B1 : B ≤ 65535) (C0 : 0 ≤ C) (C1 : C ≤ 65535) (M0 : 0 ≤ M) (M1 : M ≤ 65535) :
    Calls Try.prog 6 #[.agg #[.int .i64 s.p.op, .int .i64 s.p.cl, .slice s.aH s.p.hol.length s.cH, .int .i64 s.p.mach, .slice s.aS s.p.setup.length s.cS, .slice s.aJ s.p.jobs.length s.cJ], .agg #[.int .u16 A, .int .u16 B, .int .u16 C, .int .u16 M]] w fun e w' => e = .returned (.bool true) ∧ Below w.heap.size w w' := by
  have hk := (Blk.new w 25 #[.int .i64 s.p.op, .int .i64 s.p.cl, .slice s.aH s.p.hol.length s.cH, .int .i64 s.p.mach, .slice s.aS s.p.setup.length s.cS, .slice s.aJ s.p.jobs.length s.cJ]).alloc (.cells #[.int .u16 A, .int .u16 B, .int .u16 C, .int .u16 M] 35)
  have hT := Blk.new (w.alloc (.cells #[.int .i64 s.p.op, .int .i64 s.p.cl, .slice s.aH s.p.hol.length s.cH, .int .i64 s.p.mach, .slice s.aS s.p.setup.length s.cS, .slice s.aJ s.p.jobs.length s.cJ] 25)) 35 #[.int .u16 A, .int .u16 B, .int .u16 C, .int .u16 M]
  have e1 : (w.alloc (.cells #[.int .i64 s.p.op, .int .i64 s.p.cl, .slice s.aH s.p.hol.length s.cH, .int .i64 s.p.mach, .slice s.aS s.p.setup.length s.cS, .slice s.aJ s.p.jobs.length s.cJ] 25)).heap.size = w.heap.size + 1 := by simp
  rw [e1] at hT
  have hw := ((Below.refl w.heap.size w).alloc (Nat.le_refl _) (.cells #[.int .i64 s.p.op, .int .i64 s.p.cl, .slice s.aH s.p.hol.length s.cH, .int .i64 s.p.mach, .slice s.aS s.p.setup.length s.cS, .slice s.aJ s.p.jobs.length s.cJ] 25)).alloc (by simp) (.cells #[.int .u16 A, .int .u16 B, .int .u16 C, .int .u16 M] 35)
  go_enter Try.func6, Try.ntmps6
  go_wp2_with fail
  generalize (w.alloc (.cells #[.int .i64 s.p.op, .int .i64 s.p.cl, .slice s.aH s.p.hol.length s.cH, .int .i64 s.p.mach, .slice s.aS s.p.setup.length s.cS, .slice s.aJ s.p.jobs.length s.cJ] 25)).alloc (.cells #[.int .u16 A, .int .u16 B, .int .u16 C, .int .u16 M] 35) = W at *
  refine (long_any s W (hS.on hw) hf.h1 hf.h2 hf.h3 hf.h4).mono ?_
  rintro e w2 ⟨rfl, hb⟩
  have hb2 := hw.trans (hb.mono hw.size)
  have hk2 := hk.below hb hk.lt
  have hT2 := hT.below hb hT.lt
  clear hk hT hw
  obtain ⟨c0, c1, c2, c3, c4, c5⟩ := shcells hk2
  cases hl : longB s.p
  · go_wp2_with fail
    refine (refValid_any s w2 (hS.on hb2) hf.h1 hf.h2 hf.h3 hf.h4).mono ?_
    rintro e w3 ⟨rfl, hb⟩
    have hb3 := hb2.trans (hb.mono hb2.size)
    have hk3 := hk2.below hb hk2.lt
    have hT3 := hT2.below hb hT2.lt
    clear c0 c1 c2 c3 c4 c5 hk2 hT2
    obtain ⟨c0, c1, c2, c3, c4, c5⟩ := shcells hk3
    cases hvB : validShop s.p
    · go_wp2_with fail
      refine (first_any _).mono ?_
      rintro e w9 ⟨rfl, hb9⟩
      go_wp2_with fail
      go_ret
      exact ⟨rfl, hb3.trans (hb9.mono hb3.size)⟩
    · have hv := valid_facts hvB
      have v1 := hv.op0
      have v2 := hv.opcl
      have v3 := hv.cl
      have t0 := hT3.cell_ 0 rfl
      have t1 := hT3.cell_ 1 rfl
      have t2 := hT3.cell_ 2 rfl
      have t3 := hT3.cell_ 3 rfl
      have hrem0 := Int.emod_nonneg M (show s.p.cl - s.p.op ≠ 0 by omega)
      have hrem1 := Int.emod_lt_of_pos M (show 0 < s.p.cl - s.p.op by omega)
      have hW : ¬ (s.p.cl - s.p.op = 0) := by omega
      go_wp2_with fail
      generalize M % (s.p.cl - s.p.op) = K at *
      have n1 := next_ge hv A0 (m := 1 + K) (by omega)
      have n2 := next_mono hv A0 (u := A + B) (m := 1 + K) (by omega) (by omega)
      have n3 := after_ge hv A0 (m := M % 5000) (by omega)
      have n4 := after_bd hv A0 (m := M % 5000) (by omega) (by omega)
      have n5 := hide (after_worked hv A0 (m := M % 5000) (by omega))
      have o1 := oB_mono hv (t := A) (u := A + B) (by omega)
      have o2 := oB_mono hv (t := A + B) (u := A + B + C) (by omega)
      refine (apiNext_any s A (1 + K) _ (hS.on hb3) hvB).mono ?_
      rintro e w4 ⟨rfl, hb⟩
      rw [nextV_ok (by omega) (by omega) (by omega) (by omega)]
      have hb4 := hb3.trans (hb.mono hb3.size)
      have hk4 := hk3.below hb hk3.lt
      have hT4 := hT3.below hb hT3.lt
      clear c0 c1 c2 c3 c4 c5 t0 t1 t2 t3 hk3 hT3 hb
      obtain ⟨c0, c1, c2, c3, c4, c5⟩ := shcells hk4
      have t0 := hT4.cell_ 0 rfl
      have t1 := hT4.cell_ 1 rfl
      have t2 := hT4.cell_ 2 rfl
      have t3 := hT4.cell_ 3 rfl
      go_wp2_with fail
      refine (apiNext_any s (A + B) (1 + K) _ (hS.on hb4) hvB).mono ?_
      rintro e w5 ⟨rfl, hb⟩
      rw [nextV_ok (by omega) (by omega) (by omega) (by omega)]
      have hb5 := hb4.trans (hb.mono hb4.size)
      have hk5 := hk4.below hb hk4.lt
      have hT5 := hT4.below hb hT4.lt
      clear c0 c1 c2 c3 c4 c5 t0 t1 t2 t3 hk4 hT4 hb
      obtain ⟨c0, c1, c2, c3, c4, c5⟩ := shcells hk5
      have t0 := hT5.cell_ 0 rfl
      have t1 := hT5.cell_ 1 rfl
      have t2 := hT5.cell_ 2 rfl
      have t3 := hT5.cell_ 3 rfl
      go_wp2_with fail
      refine (apiAfter_any s A (M % 5000) _ (hS.on hb5) hvB).mono ?_
      rintro e w6 ⟨rfl, hb⟩
      rw [afterV_ok (by omega) (by omega) (by omega) (by omega)]
      have hb6 := hb5.trans (hb.mono hb5.size)
      have hk6 := hk5.below hb hk5.lt
      have hT6 := hT5.below hb hT5.lt
      clear c0 c1 c2 c3 c4 c5 t0 t1 t2 t3 hk5 hT5 hb
      obtain ⟨c0, c1, c2, c3, c4, c5⟩ := shcells hk6
      have t0 := hT6.cell_ 0 rfl
      have t1 := hT6.cell_ 1 rfl
      have t2 := hT6.cell_ 2 rfl
      have t3 := hT6.cell_ 3 rfl
      go_wp2_with fail
      refine (apiWorked_ok s A (afterF s.p A (M % 5000)) _ (hS.on hb6) hvB (by omega) (by omega) (by omega)).mono ?_
      rintro e w7 ⟨rfl, hb⟩
      rw [n5.out]
      have hb7 := hb6.trans (hb.mono hb6.size)
      have hk7 := hk6.below hb hk6.lt
      have hT7 := hT6.below hb hT6.lt
      clear c0 c1 c2 c3 c4 c5 t0 t1 t2 t3 hk6 hT6 hb
      obtain ⟨c0, c1, c2, c3, c4, c5⟩ := shcells hk7
      have t0 := hT7.cell_ 0 rfl
      have t1 := hT7.cell_ 1 rfl
      have t2 := hT7.cell_ 2 rfl
      have t3 := hT7.cell_ 3 rfl
      go_wp2_with fail
      refine (apiWorked_ok s A (A + B) _ (hS.on hb7) hvB (by omega) (by omega) (by omega)).mono ?_
      rintro e w8 ⟨rfl, hb⟩
      have hb8 := hb7.trans (hb.mono hb7.size)
      have hk8 := hk7.below hb hk7.lt
      have hT8 := hT7.below hb hT7.lt
      clear c0 c1 c2 c3 c4 c5 t0 t1 t2 t3 hk7 hT7 hb
      obtain ⟨c0, c1, c2, c3, c4, c5⟩ := shcells hk8
      have t0 := hT8.cell_ 0 rfl
      have t1 := hT8.cell_ 1 rfl
      have t2 := hT8.cell_ 2 rfl
      have t3 := hT8.cell_ 3 rfl
      go_wp2_with fail
      refine (apiWorked_ok s (A + B) (A + B + C) _ (hS.on hb8) hvB (by omega) (by omega) (by omega)).mono ?_
      rintro e w9 ⟨rfl, hb⟩
      have hb9 := hb8.trans (hb.mono hb8.size)
      have hk9 := hk8.below hb hk8.lt
      have hT9 := hT8.below hb hT8.lt
      clear c0 c1 c2 c3 c4 c5 t0 t1 t2 t3 hk8 hT8 hb
      obtain ⟨c0, c1, c2, c3, c4, c5⟩ := shcells hk9
      have t0 := hT9.cell_ 0 rfl
      have t1 := hT9.cell_ 1 rfl
      have t2 := hT9.cell_ 2 rfl
      have t3 := hT9.cell_ 3 rfl
      go_wp2_with fail
      have p1 := oB_pos hv A0
      have e5 : IntKind.i64.wrap (oB s.p (A + B) - oB s.p A + (oB s.p (A + B + C) - oB s.p (A + B))) = oB s.p (A + B + C) - oB s.p A := by rw [IntWalk.i64_in _ (by omega)]; omega
      refine (apiWorked_ok s A (A + B + C) _ (hS.on hb9) hvB (by omega) (by omega) (by omega)).mono ?_
      rintro e w10 ⟨rfl, hb⟩
      have hb10 := hb9.trans (hb.mono hb9.size)
      have hk10 := hk9.below hb hk9.lt
      have hT10 := hT9.below hb hT9.lt
      clear c0 c1 c2 c3 c4 c5 t0 t1 t2 t3 hk9 hT9 hb
      obtain ⟨c0, c1, c2, c3, c4, c5⟩ := shcells hk10
      have t0 := hT10.cell_ 0 rfl
      have t1 := hT10.cell_ 1 rfl
      have t2 := hT10.cell_ 2 rfl
      have t3 := hT10.cell_ 3 rfl
      go_wp2_with fail
      refine (first_any _).mono ?_
      rintro e w11 ⟨rfl, hb⟩
      go_wp2_with fail
      go_ret
      exact ⟨rfl, hb10.trans (hb.mono hb10.size)⟩
  · go_wp2_with fail
    refine (first_any _).mono ?_
    rintro e w9 ⟨rfl, hb9⟩
    go_wp2_with fail
    go_ret
    exact ⟨rfl, hb2.trans (hb9.mono hb2.size)⟩
end Go.Proofs.Ytcpnfcnobnjhdaa
