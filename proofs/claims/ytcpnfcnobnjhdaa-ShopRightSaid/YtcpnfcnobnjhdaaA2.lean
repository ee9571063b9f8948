/- Parts of the proofs of this seat: Next, RefNext, HoursP, Hours, ShopApi, OpenShop, TimesP, ChainP, ShopFirst. Each part says what it proves; no condition beyond those stated there. -/
import Derived.Test.YtcpnfcnobnjhdaaA1

/- The next start: the walks of package shop. -/
namespace Go.Proofs.Ytcpnfcnobnjhdaa
open Go.RowKit

theorem free_any (s : Sh) (d : Int) (w : World) (hS : ShAt w w.heap.size s) (hv : VShop s.p) :
    Calls Try.prog 74 #[.agg #[.int .i64 s.p.op, .int .i64 s.p.cl, .slice s.aH s.p.hol.length s.cH, .int .i64 s.p.mach, .slice s.aS s.p.setup.length s.cS, .slice s.aJ s.p.jobs.length s.cJ], .int .i64 d] w fun e w' => e = .returned (.bool (!hasB s.p.hol d)) ∧ Below w.heap.size w w' := by
  have h4 := hv.holn
  go_enter Try.func74, Try.ntmps74
  go_wp2_with fail
  refine (search_any d s.aH s.cH s.p.hol _ (by omega) hv.asc ((hS.hol.below ((Below.refl _ _).alloc (Nat.le_refl _) _)).more (by simp))).mono ?_
  rintro e w2 ⟨rfl, rfl⟩
  go_wp2
  go_ret
  exact ⟨rfl, (Below.refl _ _).alloc (Nat.le_refl _) _⟩

set_option maxHeartbeats 1000000 in
theorem next_any (s : Sh) (t m : Int) (w : World) (hS : ShAt w w.heap.size s) (hv : VShop s.p) (ht : 0 ≤ t) (ht' : t ≤ 1000000000000) (hm : 1 ≤ m) (hm' : m ≤ s.p.cl - s.p.op) :
    Calls Try.prog 51 #[.agg #[.int .i64 s.p.op, .int .i64 s.p.cl, .slice s.aH s.p.hol.length s.cH, .int .i64 s.p.mach, .slice s.aS s.p.setup.length s.cS, .slice s.aJ s.p.jobs.length s.cJ], .int .i64 t, .int .i64 m] w fun e w' => e = .returned (.int .i64 (nextF s.p t m)) ∧ Below w.heap.size w w' := by
  have v1 := hv.op0
  have v2 := hv.opcl
  have v3 := hv.cl
  have hk := Blk.new w 25 #[.int .i64 s.p.op, .int .i64 s.p.cl, .slice s.aH s.p.hol.length s.cH, .int .i64 s.p.mach, .slice s.aS s.p.setup.length s.cS, .slice s.aJ s.p.jobs.length s.cJ]
  have hw := (Below.refl w.heap.size w).alloc (Nat.le_refl _) (.cells #[.int .i64 s.p.op, .int .i64 s.p.cl, .slice s.aH s.p.hol.length s.cH, .int .i64 s.p.mach, .slice s.aS s.p.setup.length s.cS, .slice s.aJ s.p.jobs.length s.cJ] 25)
  have HS1 := hide (fun (h : t % 1440 < s.p.op) => (by have h0 := NextAt.start (m := m) hv ht; rw [if_pos h] at h0; exact h0 : NextAt s.p t m (t / 1440) s.p.op))
  have HS2 := hide (fun (h : s.p.op ≤ t % 1440) => (by have h0 := NextAt.start (m := m) hv ht; rw [if_neg (by omega)] at h0; exact h0 : NextAt s.p t m (t / 1440) (t % 1440)))
  go_enter Try.func51, Try.ntmps51
  go_wp2_with fail
  generalize w.alloc (.cells #[.int .i64 s.p.op, .int .i64 s.p.cl, .slice s.aH s.p.hol.length s.cH, .int .i64 s.p.mach, .slice s.aS s.p.setup.length s.cS, .slice s.aJ s.p.jobs.length s.cJ] 25) = W at *
  refine wp_region_quiet (C := fun w' => ∃ u : Since W, w' = u.w) (by kernel_rfl) (by kernel_rfl) (Since.start W) ?_
  dsimp only
  have y0 := Since.cell (hk.cell_ 0 rfl)
  repeat (go_big_quiet_step ((fail)))
  refine wpQuiet_nil ?_
  rintro _ ⟨u, rfl⟩
  have hk1 := hk.below u.h hk.lt
  have hw1 := hw.trans (u.h.mono hw.size)
  go_wp2_with fail
  all_goals
    clear hk hw y0
    go_loopw [7, 8] (fun x y wr => ∃ d a : Int, x = .int .i64 d ∧ y = .int .i64 a ∧ NextAt s.p t m d a ∧ Blk wr w.heap.size 25 #[.int .i64 s.p.op, .int .i64 s.p.cl, .slice s.aH s.p.hol.length s.cH, .int .i64 s.p.mach, .slice s.aS s.p.setup.length s.cS, .slice s.aJ s.p.jobs.length s.cJ] ∧ Below w.heap.size w wr) (fun x _ _ => (t / 1440 + 10002 - intOf x).toNat)
    case atStart => first | exact ⟨_, _, rfl, rfl, HS1.out ‹_›, hk1, hw1⟩ | exact ⟨_, _, rfl, rfl, HS2.out ‹_›, hk1, hw1⟩
    case round =>
      clear hk1 hw1
      obtain ⟨d, a, rfl, rfl, hat, hk, hbel⟩ := hrel
      obtain ⟨d0, d1⟩ := hat.bd ht
      have a0 := hat.a0
      have a1 := hat.a1
      have dt := hat.d0
      have HAT := hide hat
      have HSW := hide (hS.on hbel)
      clear hat
      have c0 := hk.cell_ 0 rfl
      have c1 := hk.cell_ 1 rfl
      have c2 := hk.cell_ 2 rfl
      have c3 := hk.cell_ 3 rfl
      have c4 := hk.cell_ 4 rfl
      have c5 := hk.cell_ 5 rfl
      cases hf : hasB s.p.hol d
      · by_cases hle : s.p.cl < a + m
        · have hgo := HAT.out.go_on hv (by omega) (.inr hle)
          go_wp2_with fail
          refine (free_any s d _ HSW.out hv).mono ?_
          rintro e w2 ⟨rfl, hb⟩
          rw [hf]
          have hk2 := hk.below hb hk.lt
          have hb2 := hbel.trans (hb.mono hbel.size)
          have c1' := hk2.cell_ 1 rfl
          go_wp2_with fail
          refine wp_region_quiet (C := fun w' => ∃ u : Since w2, w' = u.w) (by kernel_rfl) (by kernel_rfl) (Since.start w2) ?_
          dsimp only
          have y0 := Since.cell (hk2.cell_ 0 rfl)
          have ed : IntKind.i64.wrap (d + 1) = d + 1 := IntWalk.i64_in _ (by omega)
          repeat (go_big_quiet_step ((fail)))
          refine wpQuiet_nil ?_
          rintro _ ⟨u, rfl⟩
          go_wp2_with fail
          go_roundw
          case rel => exact ⟨d + 1, s.p.op, rfl, rfl, hgo.1, hk2.below u.h hk2.lt, hb2.trans (u.h.mono hb2.size)⟩
          case measure => simp only [intOf]; omega
        · have hst := next_eq (HAT.out.stop hf (by omega) (by omega))
          have HR := hide hst
          clear hst
          go_wp2_with fail
          refine (free_any s d _ HSW.out hv).mono ?_
          rintro e w2 ⟨rfl, hb⟩
          rw [hf]
          have hk2 := hk.below hb hk.lt
          have hb2 := hbel.trans (hb.mono hbel.size)
          have c1' := hk2.cell_ 1 rfl
          go_wp2_with fail
          go_ret
          exact ⟨ret_int HR.out.symm, hb2⟩
      · have hgo := HAT.out.go_on hv (by omega) (.inl hf)
        go_wp2_with fail
        refine (free_any s d _ HSW.out hv).mono ?_
        rintro e w2 ⟨rfl, hb⟩
        rw [hf]
        have hk2 := hk.below hb hk.lt
        have hb2 := hbel.trans (hb.mono hbel.size)
        go_wp2_with fail
        refine wp_region_quiet (C := fun w' => ∃ u : Since w2, w' = u.w) (by kernel_rfl) (by kernel_rfl) (Since.start w2) ?_
        dsimp only
        have y0 := Since.cell (hk2.cell_ 0 rfl)
        have ed : IntKind.i64.wrap (d + 1) = d + 1 := IntWalk.i64_in _ (by omega)
        repeat (go_big_quiet_step ((fail)))
        refine wpQuiet_nil ?_
        rintro _ ⟨u, rfl⟩
        go_wp2_with fail
        go_roundw
        case rel => exact ⟨d + 1, s.p.op, rfl, rfl, hgo.1, hk2.below u.h hk2.lt, hb2.trans (u.h.mono hb2.size)⟩
        case measure => simp only [intOf]; omega

end Go.Proofs.Ytcpnfcnobnjhdaa

/- The next start: the walks of the specification. -/
namespace Go.Proofs.Ytcpnfcnobnjhdaa
open Go.RowKit

theorem has_drop {l : List Int} {k : Nat} {y d : Int} (hk : l[k]? = some y) : hasB (l.drop k) d = (y == d || hasB (l.drop (k + 1)) d) := by
  obtain ⟨hl, hf⟩ := List.getElem?_eq_some_iff.1 hk
  unfold hasB
  rw [List.drop_eq_getElem_cons hl, hf, List.contains_cons, Bool.beq_comm]
theorem hasB_nil (d : Int) : hasB [] d = false := rfl

theorem rfree_any (s : Sh) (d : Int) (w : World) (hS : ShAt w w.heap.size s) (hv : VShop s.p) :
    Calls Try.prog 75 #[.agg #[.int .i64 s.p.op, .int .i64 s.p.cl, .slice s.aH s.p.hol.length s.cH, .int .i64 s.p.mach, .slice s.aS s.p.setup.length s.cS, .slice s.aJ s.p.jobs.length s.cJ], .int .i64 d] w fun e w' => e = .returned (.bool (hasB s.p.hol d)) ∧ Below w.heap.size w w' := by
  have hlen := hv.holn
  obtain ⟨p, aH, cH, aS, cS, aJ, cJ⟩ := s
  obtain ⟨hS1, -, -⟩ := hS
  dsimp only at *
  go_enter Try.func75, Try.ntmps75
  go_wp2_with fail
  go_loopw [5] (fun i wr => ∃ k : Nat, k ≤ p.hol.length ∧ i = .int .i64 k ∧ hasB p.hol d = hasB (p.hol.drop k) d ∧ Blk wr w.heap.size 25 #[.int .i64 p.op, .int .i64 p.cl, .slice aH p.hol.length cH, .int .i64 p.mach, .slice aS p.setup.length cS, .slice aJ p.jobs.length cJ] ∧ Below w.heap.size w wr) (fun i _ => p.hol.length - (intOf i).toNat)
  case atStart => exact ⟨0, Nat.zero_le _, rfl, rfl, Blk.new _ _ _, (Below.refl _ _).alloc (Nat.le_refl _) _⟩
  case round =>
    obtain ⟨k, hk, rfl, hs, hblk, hbel⟩ := hrel
    have HS := hide hs
    have c2 := hblk.cell_ 2 rfl
    clear hs
    by_cases hlt : k < p.hol.length
    · obtain ⟨y, b, off, hx, hA, hb, hc⟩ := ints_at' (hS1.below hbel) hlt
      have HX := hide hx
      subst hA
      clear hx
      cases hd : (y == d)
      · go_wp2_with fail
        go_roundw
        case rel => exact ⟨k + 1, by omega, by go_num, by rw [HS.out, has_drop HX.out, hd]; rfl, hblk, hbel⟩
        case measure => simp [intOf]; omega
      · go_wp2_with fail
        go_ret
        exact ⟨ret_bool (by rw [HS.out, has_drop HX.out, hd]; rfl), hbel⟩
    · obtain rfl : k = p.hol.length := by omega
      go_wp2_with fail
      go_ret
      exact ⟨ret_bool (by rw [HS.out, nomore]; rfl), hbel⟩

theorem shift_any (s : Sh) (t m : Int) (w : World) (hS : ShAt w w.heap.size s) (hv : VShop s.p) (ht : 0 ≤ t) (ht' : t ≤ 1000000000000) (hm : 0 ≤ m) (hm' : m ≤ 1000000000) :
    Calls Try.prog 52 #[.agg #[.int .i64 s.p.op, .int .i64 s.p.cl, .slice s.aH s.p.hol.length s.cH, .int .i64 s.p.mach, .slice s.aS s.p.setup.length s.cS, .slice s.aJ s.p.jobs.length s.cJ], .int .i64 t, .int .i64 m] w fun e w' => e = .returned (.bool (shiftB s.p t m)) ∧ Below w.heap.size w w' := by
  have v1 := hv.op0
  have v2 := hv.opcl
  have v3 := hv.cl
  have hk := Blk.new w 25 #[.int .i64 s.p.op, .int .i64 s.p.cl, .slice s.aH s.p.hol.length s.cH, .int .i64 s.p.mach, .slice s.aS s.p.setup.length s.cS, .slice s.aJ s.p.jobs.length s.cJ]
  have hw := (Below.refl w.heap.size w).alloc (Nat.le_refl _) (.cells #[.int .i64 s.p.op, .int .i64 s.p.cl, .slice s.aH s.p.hol.length s.cH, .int .i64 s.p.mach, .slice s.aS s.p.setup.length s.cS, .slice s.aJ s.p.jobs.length s.cJ] 25)
  have HSW := hS.on hw
  have HE : Hid (shiftB s.p t m = (!hasB s.p.hol (t / 1440) && decide (s.p.op ≤ t % 1440) && decide (t % 1440 + m ≤ s.p.cl))) := rfl
  go_enter Try.func52, Try.ntmps52
  go_wp2_with fail
  generalize w.alloc (.cells #[.int .i64 s.p.op, .int .i64 s.p.cl, .slice s.aH s.p.hol.length s.cH, .int .i64 s.p.mach, .slice s.aS s.p.setup.length s.cS, .slice s.aJ s.p.jobs.length s.cJ] 25) = W at *
  refine (rfree_any s _ W HSW hv).mono ?_
  rintro e w2 ⟨rfl, hb⟩
  have hb2 := hw.trans (hb.mono hw.size)
  have hk2 := hk.below hb hk.lt
  have c0 := hk2.cell_ 0 rfl
  have c1 := hk2.cell_ 1 rfl
  have e1 : IntKind.i64.wrap (1440 * (t / 1440)) = 1440 * (t / 1440) := IntWalk.i64_in _ (by omega)
  have e2 : IntKind.i64.wrap (t - 1440 * (t / 1440)) = t % 1440 := by rw [IntWalk.i64_in _ (by omega)]; omega
  have e3 : IntKind.i64.wrap (t + m) = t + m := IntWalk.i64_in _ (by omega)
  have e4 : IntKind.i64.wrap (t + m - 1440 * (t / 1440)) = t % 1440 + m := by rw [IntWalk.i64_in _ (by omega)]; omega
  cases hf : hasB s.p.hol (t / 1440)
  · by_cases h2 : s.p.op ≤ t % 1440
    · by_cases h3 : t % 1440 + m ≤ s.p.cl
      · go_wp2_with fail
        go_ret
        exact ⟨ret_bool (by rw [HE.out, hf]; simp; omega), hb2⟩
      · go_wp2_with fail
        go_ret
        exact ⟨ret_bool (by rw [HE.out, hf]; simp; omega), hb2⟩
    · go_wp2_with fail
      go_ret
      exact ⟨ret_bool (by rw [HE.out, hf]; simp; omega), hb2⟩
  · go_wp2_with fail
    go_ret
    exact ⟨ret_bool (by rw [HE.out, hf]; simp), hb2⟩

/-- the search's state -/
structure RAt (p : Shop) (t m a : Int) : Prop where
  d0 : t / 1440 ≤ a / 1440
  op : a % 1440 = p.op
  most : a / 1440 ≤ 10001 ∨ a / 1440 ≤ t / 1440 + 1
  no : ∀ r', t ≤ r' → r' < a → shiftB p r' m = false
theorem RAt.start {p : Shop} (hv : VShop p) {t m : Int} (ht : 0 ≤ t) : RAt p t m (1440 * (t / 1440) + p.op) := by
  have h1 := hv.op0
  have h2 := hv.opcl
  have h3 := hv.cl
  refine ⟨by omega, by omega, by omega, fun r' h4 h5 => shiftB_no (.inr (.inl (by omega)))⟩
theorem RAt.stop {p : Shop} {t m a : Int} (h : RAt p t m a) (h1 : t ≤ a) (h2 : shiftB p a m = true) : IsNext p t m a := ⟨h1, h2, h.no⟩
theorem RAt.go_on {p : Shop} (hv : VShop p) {t m a : Int} (h : RAt p t m a) (hm : p.op + m ≤ p.cl) (hts : shiftB p t m = false) (h1 : a < t ∨ shiftB p a m = false) :
    RAt p t m (a + 1440) ∧ (a / 1440 ≤ 10000 ∨ a / 1440 ≤ t / 1440) := by
  have v1 := hv.op0
  have v2 := hv.opcl
  have v3 := hv.cl
  have k0 := h.d0
  have k1 := h.op
  have hday : hasB p.hol (a / 1440) = true ∨ (a < t ∧ p.cl < t % 1440 + m) := by
    by_cases hat : a < t
    · have e : t / 1440 = a / 1440 := by omega
      cases hh : hasB p.hol (a / 1440)
      · right
        refine ⟨hat, ?_⟩
        rw [← Bool.not_eq_true, shiftB_iff, e] at hts
        by_cases hc : p.cl < t % 1440 + m
        · exact hc
        · exact absurd ⟨hh, by omega, by omega⟩ hts
      · exact .inl rfl
    · have h1' : shiftB p a m = false := by
        rcases h1 with h1 | h1
        · omega
        · exact h1
      cases hh : hasB p.hol (a / 1440)
      · rw [← Bool.not_eq_true, shiftB_iff] at h1'
        exact absurd ⟨hh, by omega, by omega⟩ h1'
      · exact .inl rfl
  have hm2 : a / 1440 ≤ 10000 ∨ a / 1440 ≤ t / 1440 := by
    rcases hday with hd | hd
    · exact .inl (has_bd hv hd).2
    · right; omega
  refine ⟨⟨by omega, by omega, by omega, fun r' h4 h5 => ?_⟩, hm2⟩
  by_cases hr : r' < a
  · exact h.no r' h4 hr
  · by_cases hr2 : r' / 1440 = a / 1440
    · rcases hday with hd | hd
      · exact shiftB_no (.inl (by rw [hr2]; exact hd))
      · exact shiftB_no (.inr (.inr (by omega)))
    · exact shiftB_no (.inr (.inl (by omega)))

theorem refNext_any (s : Sh) (t m : Int) (w : World) (hS : ShAt w w.heap.size s) (hv : VShop s.p) (ht : 0 ≤ t) (ht' : t ≤ 100000000000) (hm : 1 ≤ m) (hm' : m ≤ s.p.cl - s.p.op) :
    Calls Try.prog 22 #[.agg #[.int .i64 s.p.op, .int .i64 s.p.cl, .slice s.aH s.p.hol.length s.cH, .int .i64 s.p.mach, .slice s.aS s.p.setup.length s.cS, .slice s.aJ s.p.jobs.length s.cJ], .int .i64 t, .int .i64 m] w fun e w' => e = .returned (.int .i64 (nextF s.p t m)) ∧ Below w.heap.size w w' := by
  have v1 := hv.op0
  have v2 := hv.opcl
  have v3 := hv.cl
  have hk := Blk.new w 25 #[.int .i64 s.p.op, .int .i64 s.p.cl, .slice s.aH s.p.hol.length s.cH, .int .i64 s.p.mach, .slice s.aS s.p.setup.length s.cS, .slice s.aJ s.p.jobs.length s.cJ]
  have hw := (Below.refl w.heap.size w).alloc (Nat.le_refl _) (.cells #[.int .i64 s.p.op, .int .i64 s.p.cl, .slice s.aH s.p.hol.length s.cH, .int .i64 s.p.mach, .slice s.aS s.p.setup.length s.cS, .slice s.aJ s.p.jobs.length s.cJ] 25)
  have HSW := hS.on hw
  cases hts : shiftB s.p t m
  · have hst := RAt.start (m := m) hv ht
    have HST := hide hst
    have e2 : IntKind.i64.wrap (1440 * (t / 1440) + s.p.op) = 1440 * (t / 1440) + s.p.op := IntWalk.i64_in _ (by omega)
    clear hst
    go_enter Try.func22, Try.ntmps22
    go_wp2_with fail
    refine (shift_any s t m _ HSW hv ht (by omega) (by omega) (by omega)).mono ?_
    rintro e w2 ⟨rfl, hb⟩
    rw [hts]
    have hb2 := hw.trans (hb.mono hw.size)
    have hk2 := hk.below hb hk.lt
    have c0 := hk2.cell_ 0 rfl
    go_wp2_with fail
    clear hk hw hb c0
    go_loopw [8] (fun x wr => ∃ a : Int, x = .int .i64 a ∧ RAt s.p t m a ∧ Blk wr w.heap.size 25 #[.int .i64 s.p.op, .int .i64 s.p.cl, .slice s.aH s.p.hol.length s.cH, .int .i64 s.p.mach, .slice s.aS s.p.setup.length s.cS, .slice s.aJ s.p.jobs.length s.cJ] ∧ Below w.heap.size w wr) (fun x _ => (t / 1440 + 10002 - intOf x / 1440).toNat)
    case atStart => exact ⟨_, rfl, HST.out, hk2, hb2⟩
    case round =>
      clear hk2 hb2
      obtain ⟨a, rfl, hat, hk, hbel⟩ := hrel
      have a0 := hat.d0
      have a1 := hat.op
      have a2 := hat.most
      have HAT := hide hat
      have HSW := hide (hS.on hbel)
      clear hat
      have c0 := hk.cell_ 0 rfl
      have c1 := hk.cell_ 1 rfl
      have c2 := hk.cell_ 2 rfl
      have c3 := hk.cell_ 3 rfl
      have c4 := hk.cell_ 4 rfl
      have c5 := hk.cell_ 5 rfl
      by_cases hle : t ≤ a
      · cases hsh : shiftB s.p a m
        · have hgo := HAT.out.go_on hv (by omega) hts (.inr hsh)
          go_wp2_with fail
          refine (shift_any s a m _ HSW.out hv (by omega) (by omega) (by omega) (by omega)).mono ?_
          rintro e w3 ⟨rfl, hb⟩
          rw [hsh]
          go_wp2_with fail
          go_roundw
          case rel => exact ⟨a + 1440, by go_num, hgo.1, hk.below hb hk.lt, hbel.trans (hb.mono hbel.size)⟩
          case measure => simp [intOf]; omega
        · have HR := hide (next_eq (HAT.out.stop hle hsh))
          go_wp2_with fail
          refine (shift_any s a m _ HSW.out hv (by omega) (by omega) (by omega) (by omega)).mono ?_
          rintro e w3 ⟨rfl, hb⟩
          rw [hsh]
          go_wp2_with fail
          go_ret
          exact ⟨ret_int HR.out.symm, hbel.trans (hb.mono hbel.size)⟩
      · have hgo := HAT.out.go_on hv (by omega) hts (.inl (by omega))
        go_wp2_with fail
        go_roundw
        case rel => exact ⟨a + 1440, by go_num, hgo.1, hk, hbel⟩
        case measure => simp [intOf]; omega
  · have hn := next_eq (p := s.p) (t := t) (m := m) ⟨Int.le_refl _, hts, fun r' h1 h2 => by omega⟩
    have HR := hide hn
    clear hn
    go_enter Try.func22, Try.ntmps22
    go_wp2_with fail
    refine (shift_any s t m _ HSW hv ht (by omega) (by omega) (by omega)).mono ?_
    rintro e w2 ⟨rfl, hb⟩
    rw [hts]
    go_wp2_with fail
    go_ret
    exact ⟨ret_int HR.out.symm, hw.trans (hb.mono hw.size)⟩
end Go.Proofs.Ytcpnfcnobnjhdaa

/- Open minutes: the plain law. -/
namespace Go.Proofs.Ytcpnfcnobnjhdaa
theorem lb_le (l : List Int) (x : Int) : lbN l x ≤ l.length := List.countP_le_length
theorem lb_mono (l : List Int) {x y : Int} (h : x ≤ y) : lbN l x ≤ lbN l y := List.countP_mono_left fun z _ hz => by simp at hz ⊢; omega
/-- the list without its first -/
theorem asc_tail {y : Int} {l : List Int} (h : Asc (y :: l)) : Asc l ∧ ∀ z ∈ l, y < z :=
  ⟨fun i j a b hij ha hb => h (i + 1) (j + 1) a b (by omega) (by simpa using ha) (by simpa using hb), fun z hz => by
    obtain ⟨j, hj⟩ := List.getElem?_of_mem hz
    exact h 0 (j + 1) y z (by omega) rfl (by simpa using hj)⟩
theorem lb_succ : ∀ {l : List Int} (_ : Asc l) (x : Int), (lbN l (x + 1) : Int) = lbN l x + (if hasB l x then 1 else 0)
  | [], _, x => rfl
  | y :: l, h, x => by
    obtain ⟨h1, h2⟩ := asc_tail h
    have ih := lb_succ h1 x
    unfold lbN hasB at ih ⊢
    rw [List.countP_cons, List.countP_cons, List.contains_cons]
    by_cases hxy : x = y
    · have hn : l.contains x = false := by
        rw [← Bool.not_eq_true, List.contains_iff_mem]
        intro hm
        have := h2 x hm
        omega
      rw [hn] at ih
      have hb : (x == y) = true := by simpa using hxy
      have e1 : decide (y < x + 1) = true := by simp; omega
      have e2 : decide (y < x) = false := by simp; omega
      rw [hn, hb, e1, e2]
      simp at ih ⊢
      omega
    · have hb : (x == y) = false := by simpa using hxy
      have e : decide (y < x + 1) = decide (y < x) := by
        rw [Bool.eq_iff_iff]; simp; omega
      rw [hb, e, Bool.false_or]
      split at ih <;> simp_all <;> split <;> omega
/-- the open minutes of day d before its minute a -/
def dayO (p : Shop) (d a : Int) : Int := if hasB p.hol d then 0 else max 0 (min a p.cl - p.op)
/-- the open minutes before a time -/
def oB (p : Shop) (t : Int) : Int := (t / 1440 - lbN p.hol (t / 1440)) * (p.cl - p.op) + dayO p (t / 1440) (t % 1440)
theorem mul_sub1 (x w : Int) : (x + 1) * w = x * w + w := by rw [Int.add_mul, Int.one_mul]
/-- within a day, its end included -/
theorem oB_day {p : Shop} (hv : VShop p) {d a : Int} (h0 : 0 ≤ a) (h1 : a ≤ 1440) : oB p (1440 * d + a) = oB p (1440 * d) + dayO p d a := by
  have v1 := hv.op0
  have v2 := hv.opcl
  have v3 := hv.cl
  have e0 : (1440 * d) / 1440 = d := by omega
  have e0' : (1440 * d) % 1440 = 0 := by omega
  have z : dayO p d 0 = 0 := by unfold dayO; split <;> omega
  by_cases h : a = 1440
  · subst h
    have e1 : (1440 * d + 1440) / 1440 = d + 1 := by omega
    have e2 : (1440 * d + 1440) % 1440 = 0 := by omega
    have z' : dayO p (d + 1) 0 = 0 := by unfold dayO; split <;> omega
    unfold oB
    rw [e0, e0', e1, e2, z, z', lb_succ hv.asc d]
    unfold dayO
    cases hh : hasB p.hol d
    · simp only [if_neg Bool.false_ne_true]
      rw [show d + 1 - ((lbN p.hol d : Int) + 0) = d - lbN p.hol d + 1 by omega, mul_sub1]
      omega
    · simp only [if_true]
      rw [show d + 1 - ((lbN p.hol d : Int) + 1) = d - lbN p.hol d by omega]
      omega
  · have e1 : (1440 * d + a) / 1440 = d := by omega
    have e2 : (1440 * d + a) % 1440 = a := by omega
    unfold oB
    rw [e0, e0', e1, e2, z]
    omega
def isO (p : Shop) (t : Int) : Int := if hasB p.hol (t / 1440) = false ∧ p.op ≤ t % 1440 ∧ t % 1440 < p.cl then 1 else 0
theorem oB_succ {p : Shop} (hv : VShop p) (t : Int) : oB p (t + 1) = oB p t + isO p t := by
  have v1 := hv.op0
  have v2 := hv.opcl
  have v3 := hv.cl
  have e : t = 1440 * (t / 1440) + t % 1440 := by omega
  have h1 := oB_day hv (d := t / 1440) (a := t % 1440) (by omega) (by omega)
  have h2 := oB_day hv (d := t / 1440) (a := t % 1440 + 1) (by omega) (by omega)
  rw [← e] at h1
  rw [show 1440 * (t / 1440) + (t % 1440 + 1) = t + 1 by omega] at h2
  rw [h1, h2]
  unfold dayO isO
  cases hh : hasB p.hol (t / 1440)
  · simp only [if_neg Bool.false_ne_true, true_and]
    split <;> omega
  · simp
theorem isO_01 (p : Shop) (t : Int) : 0 ≤ isO p t ∧ isO p t ≤ 1 := by unfold isO; split <;> omega
theorem oB_le {p : Shop} (hv : VShop p) (t : Int) (n : Nat) : oB p t ≤ oB p (t + n) ∧ oB p (t + n) ≤ oB p t + n := by
  induction n with
  | zero => simp
  | succ n ih =>
    have := oB_succ hv (t + n)
    have h1 := isO_01 p (t + n)
    rw [show t + ((n + 1 : Nat) : Int) = t + n + 1 by omega, this]
    omega
theorem oB_mono {p : Shop} (hv : VShop p) {t u : Int} (h : t ≤ u) : oB p t ≤ oB p u ∧ oB p u ≤ oB p t + (u - t) := by
  have := oB_le hv t (u - t).toNat
  rw [show t + ((u - t).toNat : Int) = u by omega] at this
  omega
theorem oB_zero {p : Shop} (hv : VShop p) : oB p 0 = 0 := by
  have v1 := hv.op0
  have v2 := hv.opcl
  have h0 : lbN p.hol 0 = 0 := lb_of (Nat.zero_le _) (fun j y _ h => by omega) (fun j y hy _ => (hv.hol j y hy).1)
  unfold oB dayO
  simp [h0]
  intro _
  omega
theorem oB_pos {p : Shop} (hv : VShop p) {t : Int} (h : 0 ≤ t) : 0 ≤ oB p t ∧ oB p t ≤ t := by
  have := oB_mono hv h
  rw [oB_zero hv] at this
  omega
/-- far enough: as many open minutes as one likes -/
theorem oB_far {p : Shop} (hv : VShop p) {want : Int} (hw : 0 ≤ want) : want ≤ oB p ((want / (p.cl - p.op) + p.hol.length + 2) * 1440) := by
  have v1 := hv.op0
  have v2 := hv.opcl
  have v3 := hv.cl
  generalize hW : p.cl - p.op = W
  have hWp : 0 < W := by omega
  have hq : 0 ≤ want / W := Int.ediv_nonneg hw (by omega)
  have hm : W * (want / W) + want % W = want := Int.mul_ediv_add_emod want W
  have hm2 := Int.emod_lt_of_pos want hWp
  generalize want / W = q at *
  have e : (q + p.hol.length + 2) * 1440 / 1440 = q + p.hol.length + 2 := by omega
  have e' : (q + p.hol.length + 2) * 1440 % 1440 = 0 := by omega
  unfold oB
  rw [e, e', hW]
  have hl := lb_le p.hol (q + p.hol.length + 2)
  have hd : 0 ≤ dayO p (q + p.hol.length + 2) 0 := by unfold dayO; split <;> omega
  have h1 : (q + 2) * W ≤ (q + p.hol.length + 2 - (lbN p.hol (q + p.hol.length + 2) : Int)) * W := Int.mul_le_mul_of_nonneg_right (by omega) (by omega)
  have h2 : (q + 2) * W = W * q + 2 * W := by rw [Int.add_mul, Int.mul_comm q W]
  omega

def IsAfter (p : Shop) (t m r : Int) : Prop := oB p t + m ≤ oB p r ∧ ∀ r', r' < r → oB p r' < oB p t + m
theorem IsAfter.unique {p : Shop} {t m r s : Int} (h : IsAfter p t m r) (k : IsAfter p t m s) : r = s := by
  rcases Int.lt_trichotomy r s with e | e | e
  · have := k.2 r e; have := h.1; omega
  · exact e
  · have := h.2 s e; have := k.1; omega
theorem after_least {p : Shop} (hv : VShop p) {t : Int} {want : Int} (h : oB p t < want) : ∀ n : Nat, want ≤ oB p (t + n) → ∃ r, t < r ∧ r ≤ t + n ∧ want ≤ oB p r ∧ ∀ r', r' < r → oB p r' < want
  | 0, h2 => by simp at h2; omega
  | n + 1, h2 => by
    by_cases h3 : want ≤ oB p (t + n)
    · obtain ⟨r, a, b, c⟩ := after_least hv h n h3
      exact ⟨r, a, by omega, c⟩
    · exact ⟨t + (n + 1 : Nat), by omega, by omega, h2, fun r' hr => by
        have := (oB_mono hv (t := r') (u := t + n) (by omega)).1
        omega⟩
theorem after_ex {p : Shop} (hv : VShop p) {t m : Int} (ht : 0 ≤ t) (hm : 1 ≤ m) : ∃ r, t < r ∧ r ≤ ((oB p t + m) / (p.cl - p.op) + p.hol.length + 2) * 1440 ∧ IsAfter p t m r := by
  have h0 := oB_pos hv ht
  have hf := oB_far hv (want := oB p t + m) (by omega)
  generalize hH : ((oB p t + m) / (p.cl - p.op) + p.hol.length + 2) * 1440 = H at *
  have hlt : t < H := by
    rcases Int.lt_or_le t H with h | h
    · exact h
    · have := (oB_mono hv h).1; omega
  obtain ⟨r, a, b, c, d⟩ := after_least hv (t := t) (want := oB p t + m) (by omega) (H - t).toNat (by rw [show t + ((H - t).toNat : Int) = H by omega]; exact hf)
  exact ⟨r, a, by omega, c, d⟩
open Classical in
noncomputable def afterF (p : Shop) (t m : Int) : Int := if m = 0 then t else if h : ∃ r, IsAfter p t m r then h.choose else 0
theorem after_eq {p : Shop} {t m r : Int} (hm : m ≠ 0) (h : IsAfter p t m r) : afterF p t m = r := by
  unfold afterF
  rw [if_neg hm, dif_pos ⟨r, h⟩]
  exact IsAfter.unique (Exists.choose_spec ⟨r, h⟩) h
theorem after_zero (p : Shop) (t : Int) : afterF p t 0 = t := by unfold afterF; rw [if_pos rfl]
theorem after_is {p : Shop} (hv : VShop p) {t m : Int} (ht : 0 ≤ t) (hm : 1 ≤ m) : IsAfter p t m (afterF p t m) ∧ t < afterF p t m ∧ afterF p t m ≤ ((oB p t + m) / (p.cl - p.op) + p.hol.length + 2) * 1440 := by
  obtain ⟨r, a, b, c⟩ := after_ex hv ht hm
  rw [after_eq (by omega) c]
  exact ⟨c, a, b⟩
/-- how far the search begins -/
theorem far_bd {p : Shop} (hv : VShop p) {t m : Int} (ht : 0 ≤ t) (hm : 0 ≤ m) (hm' : m ≤ 1000000000) : ((oB p t + m) / (p.cl - p.op) + p.hol.length + 2) * 1440 ≤ t + m * 1440 + 1440 * 405 ∧ 0 ≤ (oB p t + m) / (p.cl - p.op) := by
  have v1 := hv.op0
  have v2 := hv.opcl
  have v3 := hv.cl
  have v4 := hv.holn
  generalize hW : p.cl - p.op = W
  have hWp : 0 < W := by omega
  have h0 := oB_pos hv ht
  have hq : 0 ≤ (oB p t + m) / W := Int.ediv_nonneg (by omega) (by omega)
  refine ⟨?_, hq⟩
  -- the open minutes before t are at most (t / 1440 + 1) days
  have hb : oB p t ≤ (t / 1440 + 1) * W := by
    unfold oB
    rw [hW, mul_sub1]
    have h1 : (t / 1440 - (lbN p.hol (t / 1440) : Int)) * W ≤ (t / 1440) * W := Int.mul_le_mul_of_nonneg_right (by omega) (by omega)
    have h2 : dayO p (t / 1440) (t % 1440) ≤ W := by unfold dayO; split <;> omega
    omega
  have hq2 : (oB p t + m) / W ≤ t / 1440 + 1 + m := by
    have h3 : oB p t + m ≤ (t / 1440 + 1 + m) * W := by
      rw [Int.add_mul]
      have : m * 1 ≤ m * W := Int.mul_le_mul_of_nonneg_left (by omega) hm
      omega
    have h4 := Int.ediv_le_ediv hWp h3
    rwa [Int.mul_ediv_cancel _ (by omega : W ≠ 0)] at h4
  omega
/-- what opened of the specification says of a day -/
def opnd (p : Shop) (d f t : Int) : Int := if hasB p.hol d then 0 else max 0 (min t (1440 * d + p.cl) - max f (1440 * d + p.op))
theorem opnd_eq {p : Shop} (hv : VShop p) {d f t : Int} (h1 : f ≤ 1440 * d + 1440) (h2 : 1440 * d ≤ t) (h3 : f ≤ t) : opnd p d f t = oB p (min t (1440 * d + 1440)) - oB p (max f (1440 * d)) := by
  have v1 := hv.op0
  have v2 := hv.opcl
  have v3 := hv.cl
  have a1 := oB_day hv (d := d) (a := min t (1440 * d + 1440) - 1440 * d) (by omega) (by omega)
  have a2 := oB_day hv (d := d) (a := max f (1440 * d) - 1440 * d) (by omega) (by omega)
  rw [show 1440 * d + (min t (1440 * d + 1440) - 1440 * d) = min t (1440 * d + 1440) by omega] at a1
  rw [show 1440 * d + (max f (1440 * d) - 1440 * d) = max f (1440 * d) by omega] at a2
  rw [a1, a2]
  unfold opnd dayO
  cases hasB p.hol d
  · simp only [if_neg Bool.false_ne_true]
    omega
  · simp
/-- the day in which it ends -/
theorem after_day {p : Shop} (hv : VShop p) {t m d k : Int} (hk : 1 ≤ k) (h1 : t ≤ 1440 * d + 1440) (hw : oB p t + m = oB p (max t (1440 * d)) + k) (hn : k ≤ opnd p d t (1440 * (d + 1))) :
    IsAfter p t m (max t (1440 * d + p.op) + k) := by
  have v1 := hv.op0
  have v2 := hv.opcl
  have v3 := hv.cl
  unfold opnd at hn
  cases hh : hasB p.hol d
  · rw [hh, if_neg Bool.false_ne_true] at hn
    have a0 := oB_day hv (d := d) (a := max t (1440 * d) - 1440 * d) (by omega) (by omega)
    have a1 := oB_day hv (d := d) (a := max t (1440 * d + p.op) + k - 1440 * d) (by omega) (by omega)
    have a2 := oB_day hv (d := d) (a := max t (1440 * d + p.op) + k - 1 - 1440 * d) (by omega) (by omega)
    rw [show 1440 * d + (max t (1440 * d) - 1440 * d) = max t (1440 * d) by omega] at a0
    rw [show 1440 * d + (max t (1440 * d + p.op) + k - 1440 * d) = max t (1440 * d + p.op) + k by omega] at a1
    rw [show 1440 * d + (max t (1440 * d + p.op) + k - 1 - 1440 * d) = max t (1440 * d + p.op) + k - 1 by omega] at a2
    unfold dayO at a0 a1 a2
    rw [hh, if_neg Bool.false_ne_true] at a0 a1 a2
    refine ⟨by omega, fun r' hr => ?_⟩
    have := (oB_mono hv (t := r') (u := max t (1440 * d + p.op) + k - 1) (by omega)).1
    omega
  · rw [hh, if_pos rfl] at hn
    omega
end Go.Proofs.Ytcpnfcnobnjhdaa

/- Open minutes: the walks. -/
namespace Go.Proofs.Ytcpnfcnobnjhdaa
open Go.RowKit

theorem oprod_bd {p : Shop} (hv : VShop p) {t : Int} (ht : 0 ≤ t) : -1000000 ≤ (t / 1440 - (lbN p.hol (t / 1440) : Int)) * (p.cl - p.op) ∧ (t / 1440 - (lbN p.hol (t / 1440) : Int)) * (p.cl - p.op) ≤ t := by
  have v1 := hv.op0
  have v2 := hv.opcl
  have v3 := hv.cl
  have v4 := hv.holn
  have h1 := lb_le p.hol (t / 1440)
  generalize hW : p.cl - p.op = W
  have a1 : (t / 1440 - (lbN p.hol (t / 1440) : Int)) * W ≤ (t / 1440) * W := Int.mul_le_mul_of_nonneg_right (by omega) (by omega)
  have a2 : (t / 1440) * W ≤ (t / 1440) * 1440 := Int.mul_le_mul_of_nonneg_left (by omega) (by omega)
  have a3 : (-400) * W ≤ (t / 1440 - (lbN p.hol (t / 1440) : Int)) * W := Int.mul_le_mul_of_nonneg_right (by omega) (by omega)
  omega

theorem openBefore_any (s : Sh) (t : Int) (w : World) (hS : ShAt w w.heap.size s) (hv : VShop s.p) (ht : 0 ≤ t) (ht' : t ≤ 1000000000000) :
    Calls Try.prog 55 #[.agg #[.int .i64 s.p.op, .int .i64 s.p.cl, .slice s.aH s.p.hol.length s.cH, .int .i64 s.p.mach, .slice s.aS s.p.setup.length s.cS, .slice s.aJ s.p.jobs.length s.cJ], .int .i64 t] w fun e w' => e = .returned (.int .i64 (oB s.p t)) ∧ Below w.heap.size w w' := by
  have v1 := hv.op0
  have v2 := hv.opcl
  have v3 := hv.cl
  have v4 := hv.holn
  have hl := lb_le s.p.hol (t / 1440)
  have hX := oprod_bd hv ht
  have HE : Hid (oB s.p t = (t / 1440 - lbN s.p.hol (t / 1440)) * (s.p.cl - s.p.op) + dayO s.p (t / 1440) (t % 1440)) := rfl
  have hk := Blk.new w 25 #[.int .i64 s.p.op, .int .i64 s.p.cl, .slice s.aH s.p.hol.length s.cH, .int .i64 s.p.mach, .slice s.aS s.p.setup.length s.cS, .slice s.aJ s.p.jobs.length s.cJ]
  have hw := (Below.refl w.heap.size w).alloc (Nat.le_refl _) (.cells #[.int .i64 s.p.op, .int .i64 s.p.cl, .slice s.aH s.p.hol.length s.cH, .int .i64 s.p.mach, .slice s.aS s.p.setup.length s.cS, .slice s.aJ s.p.jobs.length s.cJ] 25)
  have HSW := hS.on hw
  go_enter Try.func55, Try.ntmps55
  go_wp2_with fail
  generalize w.alloc (.cells #[.int .i64 s.p.op, .int .i64 s.p.cl, .slice s.aH s.p.hol.length s.cH, .int .i64 s.p.mach, .slice s.aS s.p.setup.length s.cS, .slice s.aJ s.p.jobs.length s.cJ] 25) = W at *
  have c0 := hk.cell_ 0 rfl
  have c1 := hk.cell_ 1 rfl
  have c2 := hk.cell_ 2 rfl
  have c3 := hk.cell_ 3 rfl
  have c4 := hk.cell_ 4 rfl
  have c5 := hk.cell_ 5 rfl
  go_wp2_with fail
  refine (search_any _ s.aH s.cH s.p.hol _ (by omega) hv.asc HSW.hol).mono ?_
  rintro e w2 ⟨rfl, rfl⟩
  have eX : IntKind.i64.wrap ((t / 1440 - (lbN s.p.hol (t / 1440) : Int)) * (s.p.cl - s.p.op)) = (t / 1440 - (lbN s.p.hol (t / 1440) : Int)) * (s.p.cl - s.p.op) := IntWalk.i64_in _ (by omega)
  go_wp2_with fail
  generalize (t / 1440 - (lbN s.p.hol (t / 1440) : Int)) * (s.p.cl - s.p.op) = X at *
  refine (free_any s _ W HSW hv).mono ?_
  rintro e w2 ⟨rfl, hb⟩
  have hb2 := hw.trans (hb.mono hw.size)
  have hk2 := hk.below hb hk.lt
  have c0' := hk2.cell_ 0 rfl
  have c1' := hk2.cell_ 1 rfl
  cases hf : hasB s.p.hol (t / 1440)
  · by_cases h1 : s.p.cl < t % 1440
    · go_wp2_with fail
      go_ret
      exact ⟨ret_int (by rw [HE.out]; unfold dayO; rw [hf, if_neg Bool.false_ne_true]; omega), hb2⟩
    · by_cases h2 : 0 < t % 1440 - s.p.op
      · go_wp2_with fail
        go_ret
        exact ⟨ret_int (by rw [HE.out]; unfold dayO; rw [hf, if_neg Bool.false_ne_true]; omega), hb2⟩
      · go_wp2_with fail
        go_ret
        exact ⟨ret_int (by rw [HE.out]; unfold dayO; rw [hf, if_neg Bool.false_ne_true]; omega), hb2⟩
  · go_wp2_with fail
    go_ret
    exact ⟨ret_int (by rw [HE.out]; unfold dayO; rw [hf, if_pos rfl]; omega), hb2⟩

set_option maxRecDepth 100000 in
theorem after_any (s : Sh) (t m : Int) (w : World) (hS : ShAt w w.heap.size s) (hv : VShop s.p) (ht : 0 ≤ t) (ht' : t ≤ 10000000000) (hm : 0 ≤ m) (hm' : m ≤ 10000000) :
    Calls Try.prog 53 #[.agg #[.int .i64 s.p.op, .int .i64 s.p.cl, .slice s.aH s.p.hol.length s.cH, .int .i64 s.p.mach, .slice s.aS s.p.setup.length s.cS, .slice s.aJ s.p.jobs.length s.cJ], .int .i64 t, .int .i64 m] w fun e w' => e = .returned (.int .i64 (afterF s.p t m)) ∧ Below w.heap.size w w' := by
  have v1 := hv.op0
  have v2 := hv.opcl
  have v3 := hv.cl
  have v4 := hv.holn
  have hp := oB_pos hv ht
  obtain ⟨hf1, hf2⟩ := far_bd hv ht hm (by omega)
  have HF := hide (oB_far hv (want := oB s.p t + m) (by omega))
  have hk := Blk.new w 25 #[.int .i64 s.p.op, .int .i64 s.p.cl, .slice s.aH s.p.hol.length s.cH, .int .i64 s.p.mach, .slice s.aS s.p.setup.length s.cS, .slice s.aJ s.p.jobs.length s.cJ]
  have hw := (Below.refl w.heap.size w).alloc (Nat.le_refl _) (.cells #[.int .i64 s.p.op, .int .i64 s.p.cl, .slice s.aH s.p.hol.length s.cH, .int .i64 s.p.mach, .slice s.aS s.p.setup.length s.cS, .slice s.aJ s.p.jobs.length s.cJ] 25)
  have HSW := hS.on hw
  go_enter Try.func53, Try.ntmps53
  go_wp2_with fail
  refine (openBefore_any s t _ HSW hv ht (by omega)).mono ?_
  rintro e w2 ⟨rfl, hb⟩
  have hb2 := hw.trans (hb.mono hw.size)
  have hk2 := hk.below hb hk.lt
  by_cases h0 : m = 0
  · subst h0
    go_wp2_with fail
    go_ret
    exact ⟨ret_int (after_zero _ _).symm, hb2⟩
  · have hm0b : (m == 0) = false := by simpa using h0
    go_wp2_with fail
    clear hb hw hk HSW
    refine wp_region_quiet (C := fun w' => ∃ u : Since w2, w' = u.w) (by kernel_rfl) (by kernel_rfl) (Since.start w2) ?_
    dsimp only
    have y0 := Since.cell (hk2.cell_ 0 rfl)
    have y1 := Since.cell (hk2.cell_ 1 rfl)
    have y2 := Since.cell (hk2.cell_ 2 rfl)
    have hW : ¬ (s.p.cl - s.p.op = 0) := by omega
    have e1 : IntKind.i64.wrap (s.p.cl - s.p.op) = s.p.cl - s.p.op := IntWalk.i64_in _ (by omega)
    repeat (go_big_quiet_step ((fail)))
    refine wpQuiet_nil ?_
    rintro _ ⟨u, rfl⟩
    have hk3 := hk2.below u.h hk2.lt
    have hb3 := hb2.trans (u.h.mono hb2.size)
    clear y0 y1 y2 hk2 hb2
    generalize hH : ((oB s.p t + m) / (s.p.cl - s.p.op) + s.p.hol.length + 2) * 1440 = H at *
    go_wp2_with fail
    go_loopw [8, 9] (fun x y wr => ∃ lo hi : Int, x = .int .i64 lo ∧ y = .int .i64 hi ∧ t ≤ lo ∧ lo < hi ∧ hi ≤ H ∧ oB s.p lo < oB s.p t + m ∧ oB s.p t + m ≤ oB s.p hi ∧ Blk wr w.heap.size 25 #[.int .i64 s.p.op, .int .i64 s.p.cl, .slice s.aH s.p.hol.length s.cH, .int .i64 s.p.mach, .slice s.aS s.p.setup.length s.cS, .slice s.aJ s.p.jobs.length s.cJ] ∧ Below w.heap.size w wr) (fun x y _ => (intOf y - intOf x).toNat)
    case atStart =>
      refine ⟨t, H, rfl, rfl, Int.le_refl _, ?_, Int.le_refl _, by omega, HF.out, hk3, hb3⟩
      rcases Int.lt_or_le t H with h | h
      · exact h
      · have := HF.out; have := (oB_mono hv h).1; omega
    case round =>
      clear hk3 hb3
      obtain ⟨lo, hi, rfl, rfl, h1, h2, h3, h4, h5, hk, hbel⟩ := hrel
      have H4 := hide h4
      have H5 := hide h5
      clear h4 h5
      have c0 := hk.cell_ 0 rfl
      have c1 := hk.cell_ 1 rfl
      have c2 := hk.cell_ 2 rfl
      have c3 := hk.cell_ 3 rfl
      have c4 := hk.cell_ 4 rfl
      have c5 := hk.cell_ 5 rfl
      by_cases hd : 1 < hi - lo
      · go_wp2_with fail
        refine (openBefore_any s ((lo + hi) / 2) _ (hS.on hbel) hv (by omega) (by omega)).mono ?_
        rintro e w3 ⟨rfl, hb⟩
        have hb3 := hbel.trans (hb.mono hbel.size)
        have hk3 := hk.below hb hk.lt
        by_cases hm2 : oB s.p t + m ≤ oB s.p ((lo + hi) / 2)
        · have H6 := hide hm2
          go_wp2_with fail
          go_roundw
          case rel => exact ⟨lo, (lo + hi) / 2, rfl, rfl, h1, by omega, by omega, H4.out, H6.out, hk3, hb3⟩
          case measure => simp [intOf]; omega
        · have H6 := hide (Int.not_le.1 hm2)
          go_wp2_with fail
          go_roundw
          case rel => exact ⟨(lo + hi) / 2, hi, rfl, rfl, by omega, by omega, by omega, H6.out, H5.out, hk3, hb3⟩
          case measure => simp [intOf]; omega
      · go_wp2_with fail
        go_ret
        have e : hi = lo + 1 := by omega
        refine ⟨ret_int (after_eq h0 ⟨H5.out, fun r' hr => ?_⟩).symm, hbel⟩
        have := (oB_mono hv (t := r') (u := lo) (by omega)).1
        have := H4.out
        omega

theorem opened_any (s : Sh) (d f t : Int) (w : World) (hS : ShAt w w.heap.size s) (hv : VShop s.p) (hd : 0 ≤ d) (hd' : d ≤ 1000000000) (hf : 0 ≤ f) (hf' : f ≤ 1000000000000) (ht : 0 ≤ t) (ht' : t ≤ 1000000000000) :
    Calls Try.prog 54 #[.agg #[.int .i64 s.p.op, .int .i64 s.p.cl, .slice s.aH s.p.hol.length s.cH, .int .i64 s.p.mach, .slice s.aS s.p.setup.length s.cS, .slice s.aJ s.p.jobs.length s.cJ], .int .i64 d, .int .i64 f, .int .i64 t] w fun e w' => e = .returned (.int .i64 (opnd s.p d f t)) ∧ Below w.heap.size w w' := by
  have v1 := hv.op0
  have v2 := hv.opcl
  have v3 := hv.cl
  have HE : Hid (opnd s.p d f t = if hasB s.p.hol d then 0 else max 0 (min t (1440 * d + s.p.cl) - max f (1440 * d + s.p.op))) := rfl
  have hk := Blk.new w 25 #[.int .i64 s.p.op, .int .i64 s.p.cl, .slice s.aH s.p.hol.length s.cH, .int .i64 s.p.mach, .slice s.aS s.p.setup.length s.cS, .slice s.aJ s.p.jobs.length s.cJ]
  have hw := (Below.refl w.heap.size w).alloc (Nat.le_refl _) (.cells #[.int .i64 s.p.op, .int .i64 s.p.cl, .slice s.aH s.p.hol.length s.cH, .int .i64 s.p.mach, .slice s.aS s.p.setup.length s.cS, .slice s.aJ s.p.jobs.length s.cJ] 25)
  have HSW := hS.on hw
  go_enter Try.func54, Try.ntmps54
  go_wp2_with fail
  refine (rfree_any s _ _ HSW hv).mono ?_
  rintro e w2 ⟨rfl, hb⟩
  have hb2 := hw.trans (hb.mono hw.size)
  have hk2 := hk.below hb hk.lt
  have c0' := hk2.cell_ 0 rfl
  have c1' := hk2.cell_ 1 rfl
  cases hh : hasB s.p.hol d
  · by_cases h1 : 1440 * d + s.p.cl < t
    · by_cases h2 : f < 1440 * d + s.p.op
      · by_cases h3 : 0 < 1440 * d + s.p.cl - (1440 * d + s.p.op)
        · go_wp2_with fail
          go_ret
          exact ⟨ret_int (by rw [HE.out, hh, if_neg Bool.false_ne_true]; omega), hb2⟩
        · omega
      · by_cases h3 : 0 < 1440 * d + s.p.cl - f
        · go_wp2_with fail
          go_ret
          exact ⟨ret_int (by rw [HE.out, hh, if_neg Bool.false_ne_true]; omega), hb2⟩
        · go_wp2_with fail
          go_ret
          exact ⟨ret_int (by rw [HE.out, hh, if_neg Bool.false_ne_true]; omega), hb2⟩
    · by_cases h2 : f < 1440 * d + s.p.op
      · by_cases h3 : 0 < t - (1440 * d + s.p.op)
        · go_wp2_with fail
          go_ret
          exact ⟨ret_int (by rw [HE.out, hh, if_neg Bool.false_ne_true]; omega), hb2⟩
        · go_wp2_with fail
          go_ret
          exact ⟨ret_int (by rw [HE.out, hh, if_neg Bool.false_ne_true]; omega), hb2⟩
      · by_cases h3 : 0 < t - f
        · go_wp2_with fail
          go_ret
          exact ⟨ret_int (by rw [HE.out, hh, if_neg Bool.false_ne_true]; omega), hb2⟩
        · go_wp2_with fail
          go_ret
          exact ⟨ret_int (by rw [HE.out, hh, if_neg Bool.false_ne_true]; omega), hb2⟩
  · go_wp2_with fail
    go_ret
    exact ⟨ret_int (by rw [HE.out, hh, if_pos rfl]), hb2⟩

theorem refWorked_any (s : Sh) (f t : Int) (w : World) (hS : ShAt w w.heap.size s) (hv : VShop s.p) (h0 : 0 ≤ f) (hft : f ≤ t) (ht : t ≤ 100000000000) :
    Calls Try.prog 26 #[.agg #[.int .i64 s.p.op, .int .i64 s.p.cl, .slice s.aH s.p.hol.length s.cH, .int .i64 s.p.mach, .slice s.aS s.p.setup.length s.cS, .slice s.aJ s.p.jobs.length s.cJ], .int .i64 f, .int .i64 t] w fun e w' => e = .returned (.int .i64 (oB s.p t - oB s.p f)) ∧ Below w.heap.size w w' := by
  have hk := Blk.new w 25 #[.int .i64 s.p.op, .int .i64 s.p.cl, .slice s.aH s.p.hol.length s.cH, .int .i64 s.p.mach, .slice s.aS s.p.setup.length s.cS, .slice s.aJ s.p.jobs.length s.cJ]
  have hw := (Below.refl w.heap.size w).alloc (Nat.le_refl _) (.cells #[.int .i64 s.p.op, .int .i64 s.p.cl, .slice s.aH s.p.hol.length s.cH, .int .i64 s.p.mach, .slice s.aS s.p.setup.length s.cS, .slice s.aJ s.p.jobs.length s.cJ] 25)
  have hp1 := oB_pos hv h0
  have hp2 := oB_mono hv hft
  go_enter Try.func26, Try.ntmps26
  go_wp2_with fail
  go_loopw [7, 8] (fun x y wr => ∃ d : Int, x = .int .i64 (oB s.p (min t (max f (1440 * d))) - oB s.p f) ∧ y = .int .i64 d ∧ f / 1440 ≤ d ∧ d ≤ t / 1440 + 1 ∧ Blk wr w.heap.size 25 #[.int .i64 s.p.op, .int .i64 s.p.cl, .slice s.aH s.p.hol.length s.cH, .int .i64 s.p.mach, .slice s.aS s.p.setup.length s.cS, .slice s.aJ s.p.jobs.length s.cJ] ∧ Below w.heap.size w wr) (fun _ y _ => (t / 1440 + 1 - intOf y).toNat)
  case atStart => exact ⟨f / 1440, by rw [show min t (max f (1440 * (f / 1440))) = f by omega, Int.sub_self], rfl, Int.le_refl _, by omega, hk, hw⟩
  case round =>
    clear hk hw
    obtain ⟨d, rfl, rfl, h1, h2, hk, hbel⟩ := hrel
    have c0 := hk.cell_ 0 rfl
    have c1 := hk.cell_ 1 rfl
    have c2 := hk.cell_ 2 rfl
    have c3 := hk.cell_ 3 rfl
    have c4 := hk.cell_ 4 rfl
    have c5 := hk.cell_ 5 rfl
    by_cases hlt : 1440 * d < t
    · have hE := opnd_eq hv (d := d) (f := f) (t := t) (by omega) (by omega) hft
      have hm1 := oB_mono hv (t := f) (u := min t (max f (1440 * d))) (by omega)
      have hm2 := oB_mono hv (t := min t (max f (1440 * d))) (u := min t (1440 * d + 1440)) (by omega)
      have hm3 := oB_mono hv (t := min t (1440 * d + 1440)) (u := t) (by omega)
      rw [show max f (1440 * d) = min t (max f (1440 * d)) by omega] at hE
      have HE := hide hE
      have HN := hide (show min t (max f (1440 * (d + 1))) = min t (1440 * d + 1440) by omega)
      clear hE
      generalize min t (max f (1440 * d)) = A at *
      generalize min t (1440 * d + 1440) = A' at *
      go_wp2_with fail
      refine (opened_any s d f t _ (hS.on hbel) hv (by omega) (by omega) (by omega) (by omega) (by omega) (by omega)).mono ?_
      rintro e w3 ⟨rfl, hb⟩
      have hb3 := hbel.trans (hb.mono hbel.size)
      have hk3 := hk.below hb hk.lt
      rw [HE.out]
      go_wp2_with fail
      go_roundw
      case rel => exact ⟨d + 1, by rw [HN.out]; go_num, by go_num, by omega, by omega, hk3, hb3⟩
      case measure => simp [intOf]; omega
    · rw [show min t (max f (1440 * d)) = t by omega]
      go_wp2_with fail
      go_ret
      exact ⟨rfl, hbel⟩

theorem refAfter_any (s : Sh) (t m : Int) (w : World) (hS : ShAt w w.heap.size s) (hv : VShop s.p) (h0 : 0 ≤ t) (ht : t ≤ 10000000000) (hm : 0 ≤ m) (hm' : m ≤ 10000000) :
    Calls Try.prog 24 #[.agg #[.int .i64 s.p.op, .int .i64 s.p.cl, .slice s.aH s.p.hol.length s.cH, .int .i64 s.p.mach, .slice s.aS s.p.setup.length s.cS, .slice s.aJ s.p.jobs.length s.cJ], .int .i64 t, .int .i64 m] w fun e w' => e = .returned (.int .i64 (afterF s.p t m)) ∧ Below w.heap.size w w' := by
  have v1 := hv.op0
  have v2 := hv.opcl
  have v3 := hv.cl
  have v4 := hv.holn
  have hk := Blk.new w 25 #[.int .i64 s.p.op, .int .i64 s.p.cl, .slice s.aH s.p.hol.length s.cH, .int .i64 s.p.mach, .slice s.aS s.p.setup.length s.cS, .slice s.aJ s.p.jobs.length s.cJ]
  have hw := (Below.refl w.heap.size w).alloc (Nat.le_refl _) (.cells #[.int .i64 s.p.op, .int .i64 s.p.cl, .slice s.aH s.p.hol.length s.cH, .int .i64 s.p.mach, .slice s.aS s.p.setup.length s.cS, .slice s.aJ s.p.jobs.length s.cJ] 25)
  by_cases hm0 : m = 0
  · subst hm0
    go_enter Try.func24, Try.ntmps24
    go_wp2_with fail
    go_ret
    exact ⟨ret_int (after_zero _ _).symm, hw⟩
  · have hm0b : (m == 0) = false := by simpa using hm0
    obtain ⟨ha1, ha2, ha3⟩ := after_is hv h0 (m := m) (by omega)
    have hfb := far_bd hv h0 hm (by omega)
    generalize hH : ((oB s.p t + m) / (s.p.cl - s.p.op) + s.p.hol.length + 2) * 1440 = H at *
    clear hH
    go_enter Try.func24, Try.ntmps24
    go_wp2_with fail
    go_loopw [7, 2] (fun x y wr => ∃ d k : Int, x = .int .i64 d ∧ y = .int .i64 k ∧ t / 1440 ≤ d ∧ 1 ≤ k ∧ k ≤ m ∧ oB s.p t + m = oB s.p (max t (1440 * d)) + k ∧ Blk wr w.heap.size 25 #[.int .i64 s.p.op, .int .i64 s.p.cl, .slice s.aH s.p.hol.length s.cH, .int .i64 s.p.mach, .slice s.aS s.p.setup.length s.cS, .slice s.aJ s.p.jobs.length s.cJ] ∧ Below w.heap.size w wr) (fun x _ _ => (H - intOf x).toNat)
    case atStart => exact ⟨t / 1440, m, rfl, rfl, Int.le_refl _, by omega, Int.le_refl _, by rw [show max t (1440 * (t / 1440)) = t by omega], hk, hw⟩
    case round =>
      clear hk hw
      obtain ⟨d, k, rfl, rfl, h1, h2, h3, h4, hk, hbel⟩ := hrel
      have c0 := hk.cell_ 0 rfl
      have c1 := hk.cell_ 1 rfl
      have c2 := hk.cell_ 2 rfl
      have c3 := hk.cell_ 3 rfl
      have c4 := hk.cell_ 4 rfl
      have c5 := hk.cell_ 5 rfl
      have hdA : 1440 * d ≤ afterF s.p t m := by
        rcases Int.lt_or_le (afterF s.p t m) (max t (1440 * d)) with h | h
        · have := (oB_mono hv (t := afterF s.p t m) (u := max t (1440 * d)) (by omega)).1
          have := ha1.1
          omega
        · omega
      have hE := opnd_eq hv (d := d) (f := t) (t := 1440 * (d + 1)) (by omega) (by omega) (by omega)
      have H4 := hide h4
      have HA := hide ha1
      rw [show min (1440 * (d + 1)) (1440 * d + 1440) = max t (1440 * (d + 1)) by omega] at hE
      have HE := hide hE
      clear h4 hE
      go_wp2_with fail
      refine (opened_any s d t (1440 * (d + 1)) _ (hS.on hbel) hv (by omega) (by omega) (by omega) (by omega) (by omega) (by omega)).mono ?_
      rintro e w3 ⟨rfl, hb⟩
      have hb3 := hbel.trans (hb.mono hbel.size)
      have hk3 := hk.below hb hk.lt
      have c0 := hk3.cell_ 0 rfl
      by_cases hn : k ≤ opnd s.p d t (1440 * (d + 1))
      · have hR := (after_eq hm0 (after_day hv h2 (by omega) H4.out hn)).symm
        have HR := hide hR
        clear hR
        by_cases hx : t < 1440 * d + s.p.op
        · go_wp2_with fail
          go_ret
          exact ⟨ret_int (by have h9 := HR.out; omega), hb3⟩
        · go_wp2_with fail
          go_ret
          exact ⟨ret_int (by have h9 := HR.out; omega), hb3⟩
      · have hm1 := oB_mono hv (t := max t (1440 * d)) (u := max t (1440 * (d + 1))) (by omega)
        have hopn : opnd s.p d t (1440 * (d + 1)) = oB s.p (max t (1440 * (d + 1))) - oB s.p (max t (1440 * d)) := HE.out
        have HN := hide (show oB s.p t + m = oB s.p (max t (1440 * (d + 1))) + (k - opnd s.p d t (1440 * (d + 1))) by have := H4.out; omega)
        have hop : 0 ≤ opnd s.p d t (1440 * (d + 1)) := by omega
        clear hopn hm1
        generalize opnd s.p d t (1440 * (d + 1)) = N at *
        go_wp2_with fail
        go_roundw
        case rel => exact ⟨d + 1, k - N, rfl, rfl, by omega, by omega, by omega, HN.out, hk3, hb3⟩
        case measure => simp [intOf]; omega
end Go.Proofs.Ytcpnfcnobnjhdaa

/- Next, Worked and After of package shop; whether a shop is long; the sanity check of the laws. -/
namespace Go.Proofs.Ytcpnfcnobnjhdaa
open Go.RowKit

/-- no slice is longer than a slice can be -/
structure Fits (p : Shop) : Prop where
  h1 : p.hol.length ≤ 9223372036854775807
  h2 : p.setup.length ≤ 9223372036854775807
  h3 : p.jobs.length ≤ 9223372036854775807
  h4 : ∀ l ∈ p.jobs, l.length ≤ 9223372036854775807
theorem VShop.fits {p : Shop} (h : VShop p) : Fits p := by
  have := h.holn
  have := h.setn
  have := h.mach6
  have := h.jobn
  refine ⟨by omega, by omega, by omega, fun l hl => ?_⟩
  obtain ⟨i, hi⟩ := List.getElem?_of_mem hl
  have := (h.steps i l hi).1
  omega
theorem ret_ii {k k' : IntKind} {a b : Int} {c d : Int} (h : a = b) (h' : c = d) : Ending.returned (.tuple #[.int k a, .int k' c]) = .returned (.tuple #[.int k b, .int k' d]) := by rw [h, h']

noncomputable def nextV (p : Shop) (t m : Int) : Value := if inB 0 t 100000000 && inB 1 m (p.cl - p.op) then .tuple #[.int .i64 (nextF p t m), .int .i64 0] else .tuple #[.int .i64 0, .int .i64 2]
noncomputable def afterV (p : Shop) (t m : Int) : Value := if inB 0 t 100000000 && inB 0 m 1000000 then .tuple #[.int .i64 (afterF p t m), .int .i64 0] else .tuple #[.int .i64 0, .int .i64 2]
theorem nextV_no {p : Shop} {t m : Int} (h : inB 0 t 100000000 = false ∨ inB 1 m (p.cl - p.op) = false) : nextV p t m = .tuple #[.int .i64 0, .int .i64 2] := by
  unfold nextV
  rcases h with h | h <;> rw [h] <;> simp
theorem nextV_ok {p : Shop} {t m : Int} (h1 : 0 ≤ t) (h2 : t ≤ 100000000) (h3 : 1 ≤ m) (h4 : m ≤ p.cl - p.op) : nextV p t m = .tuple #[.int .i64 (nextF p t m), .int .i64 0] := by
  unfold nextV
  rw [inB_iff.2 ⟨h1, h2⟩, inB_iff.2 ⟨h3, h4⟩]; rfl
theorem afterV_no {p : Shop} {t m : Int} (h : inB 0 t 100000000 = false ∨ inB 0 m 1000000 = false) : afterV p t m = .tuple #[.int .i64 0, .int .i64 2] := by
  unfold afterV
  rcases h with h | h <;> rw [h] <;> simp
theorem afterV_ok {p : Shop} {t m : Int} (h1 : 0 ≤ t) (h2 : t ≤ 100000000) (h3 : 0 ≤ m) (h4 : m ≤ 1000000) : afterV p t m = .tuple #[.int .i64 (afterF p t m), .int .i64 0] := by
  unfold afterV
  rw [inB_iff.2 ⟨h1, h2⟩, inB_iff.2 ⟨h3, h4⟩]; rfl
theorem ret_eq {a b : Value} (h : a = b) : Ending.returned a = .returned b := by rw [h]

theorem apiNext_any (s : Sh) (t m : Int) (w : World) (hS : ShAt w w.heap.size s) (hvB : validShop s.p = true) :
    Calls Try.prog 21 #[.agg #[.int .i64 s.p.op, .int .i64 s.p.cl, .slice s.aH s.p.hol.length s.cH, .int .i64 s.p.mach, .slice s.aS s.p.setup.length s.cS, .slice s.aJ s.p.jobs.length s.cJ], .int .i64 t, .int .i64 m] w fun e w' => e = .returned (nextV s.p t m) ∧ Below w.heap.size w w' := by
  have hv := valid_facts hvB
  have v1 := hv.op0
  have v2 := hv.opcl
  have v3 := hv.cl
  have hf := hv.fits
  have hk := Blk.new w 25 #[.int .i64 s.p.op, .int .i64 s.p.cl, .slice s.aH s.p.hol.length s.cH, .int .i64 s.p.mach, .slice s.aS s.p.setup.length s.cS, .slice s.aJ s.p.jobs.length s.cJ]
  have hw := (Below.refl w.heap.size w).alloc (Nat.le_refl _) (.cells #[.int .i64 s.p.op, .int .i64 s.p.cl, .slice s.aH s.p.hol.length s.cH, .int .i64 s.p.mach, .slice s.aS s.p.setup.length s.cS, .slice s.aJ s.p.jobs.length s.cJ] 25)
  have HSW := hS.on hw
  go_enter Try.func21, Try.ntmps21
  go_wp2_with fail
  refine (valid_any s _ HSW hf.h1 hf.h2 hf.h3 hf.h4).mono ?_
  rintro e w2 ⟨rfl, hb⟩
  rw [hvB]
  have hb2 := hw.trans (hb.mono hw.size)
  have hk2 := hk.below hb hk.lt
  have c0 := hk2.cell_ 0 rfl
  have c1 := hk2.cell_ 1 rfl
  have c2 := hk2.cell_ 2 rfl
  have c3 := hk2.cell_ 3 rfl
  have c4 := hk2.cell_ 4 rfl
  have c5 := hk2.cell_ 5 rfl
  clear hb hw hk HSW
  cases ht : inB 0 t 100000000
  · go_wp2_with (go_at_call 50; refine (within_any _ _ _ _).mono ?_; rintro e w' ⟨rfl, rfl⟩)
    go_ret2
    exact ⟨ret_eq (nextV_no (.inl ht)).symm, hb2⟩
  · cases hm : inB 1 m (s.p.cl - s.p.op)
    · go_wp2_with (go_at_call 50; refine (within_any _ _ _ _).mono ?_; rintro e w' ⟨rfl, rfl⟩)
      go_ret2
      exact ⟨ret_eq (nextV_no (.inr hm)).symm, hb2⟩
    · obtain ⟨t1, t2⟩ := inB_iff.1 ht
      obtain ⟨m1, m2⟩ := inB_iff.1 hm
      go_wp2_with (go_at_call 50; refine (within_any _ _ _ _).mono ?_; rintro e w' ⟨rfl, rfl⟩)
      refine (next_any s t m _ (hS.on hb2) hv t1 (by omega) m1 m2).mono ?_
      rintro e w3 ⟨rfl, hb⟩
      go_wp2_with fail
      go_ret2
      exact ⟨ret_eq (nextV_ok t1 t2 m1 m2).symm, hb2.trans (hb.mono hb2.size)⟩

theorem apiAfter_any (s : Sh) (t m : Int) (w : World) (hS : ShAt w w.heap.size s) (hvB : validShop s.p = true) :
    Calls Try.prog 23 #[.agg #[.int .i64 s.p.op, .int .i64 s.p.cl, .slice s.aH s.p.hol.length s.cH, .int .i64 s.p.mach, .slice s.aS s.p.setup.length s.cS, .slice s.aJ s.p.jobs.length s.cJ], .int .i64 t, .int .i64 m] w fun e w' => e = .returned (afterV s.p t m) ∧ Below w.heap.size w w' := by
  have hv := valid_facts hvB
  have hf := hv.fits
  have hk := Blk.new w 25 #[.int .i64 s.p.op, .int .i64 s.p.cl, .slice s.aH s.p.hol.length s.cH, .int .i64 s.p.mach, .slice s.aS s.p.setup.length s.cS, .slice s.aJ s.p.jobs.length s.cJ]
  have hw := (Below.refl w.heap.size w).alloc (Nat.le_refl _) (.cells #[.int .i64 s.p.op, .int .i64 s.p.cl, .slice s.aH s.p.hol.length s.cH, .int .i64 s.p.mach, .slice s.aS s.p.setup.length s.cS, .slice s.aJ s.p.jobs.length s.cJ] 25)
  have HSW := hS.on hw
  go_enter Try.func23, Try.ntmps23
  go_wp2_with fail
  refine (valid_any s _ HSW hf.h1 hf.h2 hf.h3 hf.h4).mono ?_
  rintro e w2 ⟨rfl, hb⟩
  rw [hvB]
  have hb2 := hw.trans (hb.mono hw.size)
  have hk2 := hk.below hb hk.lt
  have c0 := hk2.cell_ 0 rfl
  have c1 := hk2.cell_ 1 rfl
  have c2 := hk2.cell_ 2 rfl
  have c3 := hk2.cell_ 3 rfl
  have c4 := hk2.cell_ 4 rfl
  have c5 := hk2.cell_ 5 rfl
  clear hb hw hk HSW
  cases ht : inB 0 t 100000000
  · go_wp2_with (go_at_call 50; refine (within_any _ _ _ _).mono ?_; rintro e w' ⟨rfl, rfl⟩)
    go_ret2
    exact ⟨ret_eq (afterV_no (.inl ht)).symm, hb2⟩
  · cases hm : inB 0 m 1000000
    · go_wp2_with (go_at_call 50; refine (within_any _ _ _ _).mono ?_; rintro e w' ⟨rfl, rfl⟩)
      go_ret2
      exact ⟨ret_eq (afterV_no (.inr hm)).symm, hb2⟩
    · obtain ⟨t1, t2⟩ := inB_iff.1 ht
      obtain ⟨m1, m2⟩ := inB_iff.1 hm
      go_wp2_with (go_at_call 50; refine (within_any _ _ _ _).mono ?_; rintro e w' ⟨rfl, rfl⟩)
      refine (after_any s t m _ (hS.on hb2) hv t1 (by omega) m1 (by omega)).mono ?_
      rintro e w3 ⟨rfl, hb⟩
      go_wp2_with fail
      go_ret2
      exact ⟨ret_eq (afterV_ok t1 t2 m1 m2).symm, hb2.trans (hb.mono hb2.size)⟩

theorem apiWorked_ok (s : Sh) (f t : Int) (w : World) (hS : ShAt w w.heap.size s) (hvB : validShop s.p = true) (h0 : 0 ≤ f) (h1 : f ≤ t) (h2 : t ≤ 100000000) :
    Calls Try.prog 25 #[.agg #[.int .i64 s.p.op, .int .i64 s.p.cl, .slice s.aH s.p.hol.length s.cH, .int .i64 s.p.mach, .slice s.aS s.p.setup.length s.cS, .slice s.aJ s.p.jobs.length s.cJ], .int .i64 f, .int .i64 t] w fun e w' => e = .returned (.tuple #[.int .i64 (oB s.p t - oB s.p f), .int .i64 0]) ∧ Below w.heap.size w w' := by
  have hv := valid_facts hvB
  have hf := hv.fits
  have hp1 := oB_pos hv h0
  have hp2 := oB_mono hv h1
  have hk := Blk.new w 25 #[.int .i64 s.p.op, .int .i64 s.p.cl, .slice s.aH s.p.hol.length s.cH, .int .i64 s.p.mach, .slice s.aS s.p.setup.length s.cS, .slice s.aJ s.p.jobs.length s.cJ]
  have hw := (Below.refl w.heap.size w).alloc (Nat.le_refl _) (.cells #[.int .i64 s.p.op, .int .i64 s.p.cl, .slice s.aH s.p.hol.length s.cH, .int .i64 s.p.mach, .slice s.aS s.p.setup.length s.cS, .slice s.aJ s.p.jobs.length s.cJ] 25)
  have HSW := hS.on hw
  go_enter Try.func25, Try.ntmps25
  go_wp2_with fail
  refine (valid_any s _ HSW hf.h1 hf.h2 hf.h3 hf.h4).mono ?_
  rintro e w2 ⟨rfl, hb⟩
  rw [hvB]
  have hb2 := hw.trans (hb.mono hw.size)
  have hk2 := hk.below hb hk.lt
  clear hb hw hk HSW
  go_wp2_with fail
  have HS2 := hS.on hb2
  refine wp_region_quiet (C := fun w' => ∃ u : Since w2, w' = u.w) (by kernel_rfl) (by kernel_rfl) (Since.start w2) ?_
  dsimp only
  have y0 := Since.cell (hk2.cell_ 0 rfl)
  have y1 := Since.cell (hk2.cell_ 1 rfl)
  have y2 := Since.cell (hk2.cell_ 2 rfl)
  have y3 := Since.cell (hk2.cell_ 3 rfl)
  have y4 := Since.cell (hk2.cell_ 4 rfl)
  have y5 := Since.cell (hk2.cell_ 5 rfl)
  have e1 : IntKind.i64.wrap (oB s.p t - oB s.p f) = oB s.p t - oB s.p f := IntWalk.i64_in _ (by omega)
  repeat (go_big_quiet_step ((go_at_call 55; exact Since.calls (openBefore_any s _ _ (HS2.on (Since.h _)) hv (by omega) (by omega)))))
  refine wpQuiet_nil ?_
  rintro _ ⟨u, rfl⟩
  go_wp2_with fail
  go_ret2
  exact ⟨rfl, hb2.trans (u.h.mono hb2.size)⟩

theorem apiWorked_err (s : Sh) (f t : Int) (w : World) (hS : ShAt w w.heap.size s) (hvB : validShop s.p = true) (h : f < 0 ∨ t < f ∨ 100000000 < t) :
    Calls Try.prog 25 #[.agg #[.int .i64 s.p.op, .int .i64 s.p.cl, .slice s.aH s.p.hol.length s.cH, .int .i64 s.p.mach, .slice s.aS s.p.setup.length s.cS, .slice s.aJ s.p.jobs.length s.cJ], .int .i64 f, .int .i64 t] w fun e w' => e = .returned (.tuple #[.int .i64 0, .int .i64 2]) ∧ Below w.heap.size w w' := by
  have hv := valid_facts hvB
  have hf := hv.fits
  have hk := Blk.new w 25 #[.int .i64 s.p.op, .int .i64 s.p.cl, .slice s.aH s.p.hol.length s.cH, .int .i64 s.p.mach, .slice s.aS s.p.setup.length s.cS, .slice s.aJ s.p.jobs.length s.cJ]
  have hw := (Below.refl w.heap.size w).alloc (Nat.le_refl _) (.cells #[.int .i64 s.p.op, .int .i64 s.p.cl, .slice s.aH s.p.hol.length s.cH, .int .i64 s.p.mach, .slice s.aS s.p.setup.length s.cS, .slice s.aJ s.p.jobs.length s.cJ] 25)
  have HSW := hS.on hw
  go_enter Try.func25, Try.ntmps25
  go_wp2_with fail
  refine (valid_any s _ HSW hf.h1 hf.h2 hf.h3 hf.h4).mono ?_
  rintro e w2 ⟨rfl, hb⟩
  rw [hvB]
  have hb2 := hw.trans (hb.mono hw.size)
  by_cases h1 : f < 0
  · go_wp2_with fail
    go_ret2
    exact ⟨rfl, hb2⟩
  · by_cases h2 : t < f
    · go_wp2_with fail
      go_ret2
      exact ⟨rfl, hb2⟩
    · have h3 : 100000000 < t := by omega
      go_wp2_with fail
      go_ret2
      exact ⟨rfl, hb2⟩

end Go.Proofs.Ytcpnfcnobnjhdaa

/- Openers of the types of shop's statements. -/
namespace Go.Proofs.Ytcpnfcnobnjhdaa
open Go.RowKit Go.ChangeShapes Go.WideShapes

def I64 (n : Int) : Prop := -9223372036854775808 ≤ n ∧ n ≤ 9223372036854775807
theorem o_int : Opens Try.prog 3 1 (fun _ cs => ∃ n, cs = [.int .i64 n] ∧ I64 n) := (opens_int Try.underlying3 (by kernel_rfl)).imp fun _ _ ⟨n, h, hw⟩ => ⟨n, h, bounds_i64 hw⟩
theorem o_ints : Opens Try.prog 22 1 (IsSlc intEnc 1 fun _ n => I64 n) :=
  (opens_slice Try.underlying22 (by kernel_rfl) (by omega) o_int).imp fun w cs h => h.slc fun _ _ h => h
theorem o_step : Opens Try.prog 69 4 (fun _ cs => ∃ x : Step, cs = x.enc) := by
  refine ⟨by kernel_rfl, fun H enc w base spare held fuel cs x h => ?_⟩
  have hl := opens_len Try.underlying69 h
  have hl' : cs.length = 4 := hl.trans (by kernel_rfl)
  obtain ⟨_, a, h0, b0⟩ := opens_field Try.underlying69 h (j := 0) rfl o_int
  obtain ⟨_, b, h1, b1⟩ := opens_field Try.underlying69 h (j := 1) rfl o_int
  obtain ⟨_, c, h2, b2⟩ := opens_field Try.underlying69 h (j := 2) rfl o_int
  obtain ⟨_, d, h3, b3⟩ := opens_field Try.underlying69 h (j := 3) rfl o_int
  have e0 := take1_at h0
  have e1 := take1_at h1
  have e2 := take1_at h2
  have e3 := take1_at h3
  refine ⟨hl', ⟨a, b, c, d⟩, ?_⟩
  match cs, hl' with
  | [c0, c1, c2, c3], _ => simp at e0 e1 e2 e3; subst e0 e1 e2 e3; rfl
theorem o_steps : Opens Try.prog 65 1 (IsSlc Step.enc 4 fun _ _ => True) :=
  (opens_slice Try.underlying65 (by kernel_rfl) (by omega) o_step).imp fun w cs h => h.slc fun _ _ ⟨x, hx⟩ => ⟨x, hx, trivial⟩
def IsWork (w : World) (cs : List Value) : Prop := ∃ A c, ∃ l : List Step, cs = [.slice A l.length c] ∧ l.length ≤ maxLen ∧ Slc Step.enc 4 w w.heap.size A l
theorem o_work : Opens Try.prog 67 1 IsWork := by
  refine ⟨by kernel_rfl, fun H enc w base spare held fuel cs x h => ?_⟩
  have hl := opens_len Try.underlying67 h
  have hl' : cs.length = 1 := hl.trans (by kernel_rfl)
  obtain ⟨_, A, c, l, h0, b0, b1, _⟩ := opens_field Try.underlying67 h (j := 0) rfl o_steps
  have e0 := take1_at h0
  refine ⟨hl', A, c, l, ?_, b0, b1⟩
  match cs, hl' with
  | [c0], _ => simp at e0; subst e0; rfl
/-- a list of jobs' cells -/
def IsJobs (w : World) (cs : List Value) : Prop := ∃ A c, ∃ js : List (List Step), cs = [.slice A js.length c] ∧ js.length ≤ maxLen ∧ Jobs w w.heap.size A js ∧ ∀ l ∈ js, l.length ≤ maxLen
theorem o_jobs : Opens Try.prog 23 1 IsJobs := by
  refine (opens_slice Try.underlying23 (by kernel_rfl) (by omega) o_work).imp fun w cs h => ?_
  obtain ⟨A, len, cap, rfl, hl, hi⟩ := h
  obtain ⟨js, hx, hp⟩ := list_of (fun i (l : List Step) => l.length ≤ maxLen ∧ ∃ b off A' c', A = some ⟨b, off, none⟩ ∧ b < w.heap.size ∧ w.cell? ⟨b, off + i, none⟩ = some (.slice A' l.length c') ∧ Slc Step.enc 4 w w.heap.size A' l) len fun i hil => by
    obtain ⟨vs, ⟨b, off, hA, hb, hc⟩, A', c', l, rfl, hl, hS⟩ := hi i hil
    exact ⟨l, hl, b, off, A', c', hA, hb, by simpa using hc 0 _ rfl, hS⟩
  subst hx
  refine ⟨A, cap, js, rfl, hl, fun i l hli => (hp i l hli).2, fun l hl => ?_⟩
  obtain ⟨i, hi⟩ := List.getElem?_of_mem hl
  exact (hp i l hi).1
/-- a shop's cells -/
def IsShop (w : World) (cs : List Value) : Prop := ∃ s : Sh, cs = [.int .i64 s.p.op, .int .i64 s.p.cl, .slice s.aH s.p.hol.length s.cH, .int .i64 s.p.mach, .slice s.aS s.p.setup.length s.cS, .slice s.aJ s.p.jobs.length s.cJ] ∧ ShAt w w.heap.size s ∧ Fits s.p ∧ I64 s.p.op ∧ I64 s.p.cl ∧ I64 s.p.mach
theorem o_shop : Opens Try.prog 25 6 IsShop := by
  refine ⟨by kernel_rfl, fun H enc w base spare held fuel cs x h => ?_⟩
  have hl := opens_len Try.underlying25 h
  have hl' : cs.length = 6 := hl.trans (by kernel_rfl)
  obtain ⟨_, op, h0, b0⟩ := opens_field Try.underlying25 h (j := 0) rfl o_int
  obtain ⟨_, cl, h1, b1⟩ := opens_field Try.underlying25 h (j := 1) rfl o_int
  obtain ⟨_, aH, cH, hol, h2, m2, S2, _⟩ := opens_field Try.underlying25 h (j := 2) rfl o_ints
  obtain ⟨_, mach, h3, b3⟩ := opens_field Try.underlying25 h (j := 3) rfl o_int
  obtain ⟨_, aS, cS, setup, h4, m4, S4, _⟩ := opens_field Try.underlying25 h (j := 4) rfl o_ints
  obtain ⟨_, aJ, cJ, jobs, h5, m5, S5, M5⟩ := opens_field Try.underlying25 h (j := 5) rfl o_jobs
  have e0 := take1_at h0
  have e1 := take1_at h1
  have e2 := take1_at h2
  have e3 := take1_at h3
  have e4 := take1_at h4
  have e5 := take1_at h5
  refine ⟨hl', ⟨⟨op, cl, mach, hol, setup, jobs⟩, aH, cH, aS, cS, aJ, cJ⟩, ?_, ⟨S2, S4, S5⟩, ⟨m2, m4, m5, M5⟩, b0, b1, b3⟩
  match cs, hl' with
  | [c0, c1, c2, c3, c4, c5], _ => simp at e0 e1 e2 e3 e4 e5; subst e0 e1 e2 e3 e4 e5; rfl
end Go.Proofs.Ytcpnfcnobnjhdaa

/- Times: the plain law of ShopTimes and of ShopHolidays' times. -/
namespace Go.Proofs.Ytcpnfcnobnjhdaa
theorem least_from {P : Int → Prop} [DecidablePred P] {t : Int} : ∀ n : Nat, P (t + n) → ∃ r, t ≤ r ∧ r ≤ t + n ∧ P r ∧ ∀ r', t ≤ r' → r' < r → ¬ P r'
  | 0, h => ⟨t, Int.le_refl _, by omega, by simpa using h, fun r' h1 h2 => by omega⟩
  | n + 1, h => by
    by_cases hs : ∃ k : Nat, k ≤ n ∧ P (t + k)
    · obtain ⟨k, hk, hp⟩ := hs
      have hk' : k < n + 1 := by omega
      obtain ⟨r, a, b, c⟩ := least_from k hp
      exact ⟨r, a, by omega, c⟩
    · refine ⟨t + (n + 1 : Nat), by omega, by omega, h, fun r' h1 h2 hp => hs ⟨(r' - t).toNat, by omega, ?_⟩⟩
      rw [show t + ((r' - t).toNat : Int) = r' by omega]; exact hp
theorem next_ex {p : Shop} (hv : VShop p) {t m : Int} (ht : 0 ≤ t) (hm : m ≤ p.cl - p.op) : ∃ r, IsNext p t m r ∧ r ≤ 1440 * max 10001 (t / 1440 + 1) + p.op := by
  have v1 := hv.op0
  have v2 := hv.opcl
  have v3 := hv.cl
  generalize hD : max 10001 (t / 1440 + 1) = D
  have hh : hasB p.hol D = false := by
    rw [← Bool.not_eq_true]
    intro h
    have := (has_bd hv h).2
    omega
  have hs : shiftB p (1440 * D + p.op) m = true := by
    rw [shiftB_iff]
    rw [show (1440 * D + p.op) / 1440 = D by omega, show (1440 * D + p.op) % 1440 = p.op by omega]
    exact ⟨hh, Int.le_refl _, by omega⟩
  obtain ⟨r, a, b, c, d⟩ := least_from (P := fun r => shiftB p r m = true) (t := t) (1440 * D + p.op - t).toNat (by
    rw [show t + ((1440 * D + p.op - t).toNat : Int) = 1440 * D + p.op by omega]; exact hs)
  exact ⟨r, ⟨a, c, fun r' h1 h2 => Bool.not_eq_true _ ▸ d r' h1 h2⟩, by omega⟩
theorem next_is {p : Shop} (hv : VShop p) {t m : Int} (ht : 0 ≤ t) (hm : m ≤ p.cl - p.op) : IsNext p t m (nextF p t m) ∧ nextF p t m ≤ 1440 * max 10001 (t / 1440 + 1) + p.op := by
  obtain ⟨r, h, hb⟩ := next_ex hv ht hm
  rw [next_eq h]
  exact ⟨h, hb⟩
theorem next_ge {p : Shop} (hv : VShop p) {t m : Int} (ht : 0 ≤ t) (hm : m ≤ p.cl - p.op) : t ≤ nextF p t m := (next_is hv ht hm).1.1
theorem next_mono {p : Shop} (hv : VShop p) {t u m : Int} (ht : 0 ≤ t) (htu : t ≤ u) (hm : m ≤ p.cl - p.op) : nextF p t m ≤ nextF p u m := by
  have h1 := (next_is hv ht hm).1
  have h2 := (next_is hv (t := u) (by omega) hm).1
  rcases Int.lt_or_le (nextF p u m) (nextF p t m) with h | h
  · have := h1.2.2 (nextF p u m) (by have := h2.1; omega) h
    rw [h2.2.1] at this; cases this
  · exact h
theorem after_ge {p : Shop} (hv : VShop p) {t m : Int} (ht : 0 ≤ t) (hm : 0 ≤ m) : t ≤ afterF p t m := by
  by_cases h : m = 0
  · subst h; rw [after_zero]; exact Int.le_refl _
  · have := (after_is hv ht (m := m) (by omega)).2.1; omega
theorem after_bd {p : Shop} (hv : VShop p) {t m : Int} (ht : 0 ≤ t) (hm : 0 ≤ m) (hm' : m ≤ 1000000000) : afterF p t m ≤ t + m * 1440 + 1440 * 405 := by
  by_cases h : m = 0
  · subst h; rw [after_zero]; omega
  · have := (after_is hv ht (m := m) (by omega)).2.2
    have := (far_bd hv ht hm hm').1
    omega
theorem after_worked {p : Shop} (hv : VShop p) {t m : Int} (ht : 0 ≤ t) (hm : 0 ≤ m) : oB p (afterF p t m) - oB p t = m := by
  by_cases h : m = 0
  · subst h; rw [after_zero]; omega
  · obtain ⟨⟨h1, h2⟩, h3, _⟩ := after_is hv ht (m := m) (by omega)
    have h4 := h2 (afterF p t m - 1) (by omega)
    have h5 := (oB_mono hv (t := afterF p t m - 1) (u := afterF p t m) (by omega)).2
    omega
end Go.Proofs.Ytcpnfcnobnjhdaa

/- Chains and loads: the plain words. -/
namespace Go.Proofs.Ytcpnfcnobnjhdaa
/-- a step of a job, with its job and its number -/
structure Ent where
  j : Nat
  k : Nat
  x : Step
def stepsFrom (j : Nat) : Nat → List Step → List Ent
  | _, [] => []
  | k, x :: r => ⟨j, k, x⟩ :: stepsFrom j (k + 1) r
def entsFrom : Nat → List (List Step) → List Ent
  | _, [] => []
  | j, l :: r => stepsFrom j 0 l ++ entsFrom (j + 1) r
def ents (p : Shop) : List Ent := entsFrom 0 p.jobs
theorem stepsFrom_drop {j k : Nat} {l : List Step} {x : Step} (h : l[k]? = some x) : stepsFrom j k (l.drop k) = ⟨j, k, x⟩ :: stepsFrom j (k + 1) (l.drop (k + 1)) := by
  obtain ⟨hl, hf⟩ := List.getElem?_eq_some_iff.1 h
  rw [List.drop_eq_getElem_cons hl, hf]; rfl
theorem entsFrom_drop {j : Nat} {js : List (List Step)} {l : List Step} (h : js[j]? = some l) : entsFrom j (js.drop j) = stepsFrom j 0 l ++ entsFrom (j + 1) (js.drop (j + 1)) := by
  obtain ⟨hl, hf⟩ := List.getElem?_eq_some_iff.1 h
  rw [List.drop_eq_getElem_cons hl, hf]; rfl
theorem stepsFrom_mem {j : Nat} : ∀ {l : List Step} {k : Nat} {e : Ent}, e ∈ stepsFrom j k l → e.j = j ∧ ∃ i, e.k = k + i ∧ l[i]? = some e.x
  | [], k, e, h => by simp [stepsFrom] at h
  | x :: r, k, e, h => by
    simp only [stepsFrom, List.mem_cons] at h
    rcases h with rfl | h
    · exact ⟨rfl, 0, rfl, rfl⟩
    · obtain ⟨h1, i, h2, h3⟩ := stepsFrom_mem h
      exact ⟨h1, i + 1, by omega, by simpa using h3⟩
theorem entsFrom_mem : ∀ {js : List (List Step)} {j : Nat} {e : Ent}, e ∈ entsFrom j js → ∃ i l, e.j = j + i ∧ js[i]? = some l ∧ l[e.k]? = some e.x
  | [], j, e, h => by simp [entsFrom] at h
  | l :: r, j, e, h => by
    simp only [entsFrom, List.mem_append] at h
    rcases h with h | h
    · obtain ⟨h1, i, h2, h3⟩ := stepsFrom_mem h
      exact ⟨0, l, by omega, rfl, by rw [h2]; simpa using h3⟩
    · obtain ⟨i, l', h1, h2, h3⟩ := entsFrom_mem h
      exact ⟨i + 1, l', by omega, by simpa using h2, h3⟩
/-- where an entry comes from -/
theorem ents_mem {p : Shop} {e : Ent} (h : e ∈ ents p) : ∃ l, p.jobs[e.j]? = some l ∧ l[e.k]? = some e.x := by
  obtain ⟨i, l, h1, h2, h3⟩ := entsFrom_mem h
  rw [Nat.zero_add] at h1
  exact ⟨l, by rw [h1]; exact h2, h3⟩
/-- when a job goes on, and its end -/
noncomputable def chainSt (p : Shop) : List Step → Int → Int → Int
  | [], _, e => e
  | x :: r, t, _ => chainSt p r (nextF p t x.mi + x.mi + x.d) (nextF p t x.mi + x.mi)
noncomputable def chainF (p : Shop) (l : List Step) : Int := chainSt p l 0 0
theorem chainSt_drop {p : Shop} {l : List Step} {k : Nat} {x : Step} {t e : Int} (h : l[k]? = some x) : chainSt p (l.drop k) t e = chainSt p (l.drop (k + 1)) (nextF p t x.mi + x.mi + x.d) (nextF p t x.mi + x.mi) := by
  obtain ⟨hl, hf⟩ := List.getElem?_eq_some_iff.1 h
  rw [List.drop_eq_getElem_cons hl, hf]; rfl
/-- the minutes of a machine -/
def sumM (m : Int) : List Ent → Int
  | [] => 0
  | e :: r => (if e.x.m = m then e.x.mi else 0) + sumM m r
theorem sumM_append (m : Int) : ∀ a b : List Ent, sumM m (a ++ b) = sumM m a + sumM m b
  | [], b => by simp [sumM]
  | e :: r, b => by simp [sumM, sumM_append m r b, Int.add_assoc]
noncomputable def loadF (p : Shop) (m : Int) : Int := afterF p 0 (sumM m (ents p))
end Go.Proofs.Ytcpnfcnobnjhdaa

/- The sanity check of the shop's laws. -/
namespace Go.Proofs.Ytcpnfcnobnjhdaa
open Go.RowKit
def p0 : Shop := ⟨480, 960, 1, [], [0], []⟩
theorem p0_valid : validShop p0 = true := by decide
theorem p0_next : nextF p0 900 90 = 1920 := by
  apply next_eq
  refine ⟨by omega, by decide, fun r' h1 h2 => shiftB_no ?_⟩
  right
  show r' % 1440 < 480 ∨ 960 < r' % 1440 + 90
  omega
theorem p0_after : afterF p0 900 90 = 1950 := by
  apply after_eq (by omega)
  have hv := valid_facts p0_valid
  refine ⟨by decide, fun r' h => ?_⟩
  have h1 := (oB_mono hv (t := r') (u := 1949) (by omega)).1
  have h2 : oB p0 1949 < oB p0 900 + 90 := by decide
  omega

def s0 (b : Nat) : Sh := ⟨p0, none, 0, some ⟨b, 0, none⟩, 1, none, 0⟩
theorem s0_at {w : World} {b : Nat} (h : Blk w b 3 #[.int .i64 0]) : ShAt w w.heap.size (s0 b) :=
  ⟨Slc.nil_, (fun i x hi => by
    cases i with
    | zero =>
      simp [s0, p0] at hi
      subst hi
      exact ⟨b, 0, rfl, h.lt, fun j v hv => by
        cases j with
        | zero => simp [intEnc] at hv; subst hv; exact h.cell_ 0 rfl
        | succ j => simp [intEnc] at hv⟩
    | succ i => simp [s0, p0] at hi), fun i l hi => by simp [s0, p0] at hi⟩
theorem s0_next (b : Nat) : nextV (s0 b).p 900 90 = .tuple #[.int .i64 1920, .int .i64 0] := by
  show nextV p0 900 90 = _
  rw [nextV_ok (by omega) (by omega) (by omega) (by decide), p0_next]
theorem s0_after (b : Nat) : afterV (s0 b).p 900 90 = .tuple #[.int .i64 1950, .int .i64 0] := by
  show afterV p0 900 90 = _
  rw [afterV_ok (by omega) (by omega) (by omega) (by decide), p0_after]

theorem first_any (w : World) : Calls Try.prog 20 #[] w fun e w' => e = .returned (.bool true) ∧ Below w.heap.size w w' := by
  have hk0 := (Blk.new w 3 #[.int .i64 0]).alloc (.cells #[.int .i64 480, .int .i64 960, .slice none 0 0, .int .i64 1, .slice (some ⟨w.heap.size, 0, none⟩) 1 1, .slice none 0 0] 25)
  have hk1 := Blk.new (w.alloc (.cells #[.int .i64 0] 3)) 25 #[.int .i64 480, .int .i64 960, .slice none 0 0, .int .i64 1, .slice (some ⟨w.heap.size, 0, none⟩) 1 1, .slice none 0 0]
  have hw := ((Below.refl w.heap.size w).alloc (Nat.le_refl _) (.cells #[.int .i64 0] 3)).alloc (by simp) (.cells #[.int .i64 480, .int .i64 960, .slice none 0 0, .int .i64 1, .slice (some ⟨w.heap.size, 0, none⟩) 1 1, .slice none 0 0] 25)
  have e1 : (w.alloc (.cells #[.int .i64 0] 3)).heap.size = w.heap.size + 1 := by simp
  rw [e1] at hk1
  go_enter Try.func20, Try.ntmps20
  go_wp2_with fail
  generalize (w.alloc (.cells #[.int .i64 0] 3)).alloc (.cells #[.int .i64 480, .int .i64 960, .slice none 0 0, .int .i64 1, .slice (some ⟨w.heap.size, 0, none⟩) 1 1, .slice none 0 0] 25) = W at *
  refine (apiNext_any (s0 w.heap.size) 900 90 W (s0_at hk0) p0_valid).mono ?_
  rintro e w2 ⟨rfl, hb⟩
  rw [s0_next]
  have hk2 := hk0.below hb hk0.lt
  have hk3 := hk1.below hb hk1.lt
  have hw2 := hw.trans (hb.mono hw.size)
  have c0 := hk3.cell_ 0 rfl
  have c1 := hk3.cell_ 1 rfl
  have c2 := hk3.cell_ 2 rfl
  have c3 := hk3.cell_ 3 rfl
  have c4 := hk3.cell_ 4 rfl
  have c5 := hk3.cell_ 5 rfl
  go_wp2_with fail
  refine (apiAfter_any (s0 w.heap.size) 900 90 w2 (s0_at hk2) p0_valid).mono ?_
  rintro e w3 ⟨rfl, hb3⟩
  rw [s0_after]
  go_wp2_with fail
  go_ret
  exact ⟨rfl, hw2.trans (hb3.mono hw2.size)⟩
end Go.Proofs.Ytcpnfcnobnjhdaa
