/- The next start: the walks of the specification. -/
import Derived.Test.YtcpnfcnobnjhdaaNext
namespace Go.Proofs.Ytcpnfcnobnjhdaa
open Go.RowKit

theorem has_drop {l : List Int} {k : Nat} {y d : Int} (hk : l[k]? = some y) : hasB (l.drop k) d = (y == d || hasB (l.drop (k + 1)) d) := by
  obtain ⟨hl, hf⟩ := List.getElem?_eq_some_iff.1 hk
  unfold hasB
  rw [List.drop_eq_getElem_cons hl, hf, List.contains_cons, Bool.beq_comm]
theorem hasB_nil (d : Int) : hasB [] d = false := rfl

theorem rfree_any (s : Sh) (d : Int) (w : World) (hS : ShAt w w.heap.size s) (hv : VShop s.p) :
    Calls Try.prog 75 #[.agg #[.int .i64 s.p.op, .int .i64 s.p.cl, .slice s.aH s.p.hol.length s.cH, .int .i64 s.p.mach, .slice s.aS s.p.setup.length s.cS, .slice s.aJ s.p.jobs.length s.cJ], .int .i64 d] w fun e w' => e = .returned (.bool (hasB s.p.hol d)) ∧ Below w.heap.size w w' := by
  have hlen := hv.holn
  obtain ⟨p, aH, cH, aS, cS, aJ, cJ⟩ := s
  obtain ⟨hS1, -, -⟩ := hS
  dsimp only at *
  go_enter Try.func75, Try.ntmps75
  go_wp2_with fail
  go_loopw [5] (fun i wr => ∃ k : Nat, k ≤ p.hol.length ∧ i = .int .i64 k ∧ hasB p.hol d = hasB (p.hol.drop k) d ∧ Blk wr w.heap.size 25 #[.int .i64 p.op, .int .i64 p.cl, .slice aH p.hol.length cH, .int .i64 p.mach, .slice aS p.setup.length cS, .slice aJ p.jobs.length cJ] ∧ Below w.heap.size w wr) (fun i _ => p.hol.length - (intOf i).toNat)
  case atStart => exact ⟨0, Nat.zero_le _, rfl, rfl, Blk.new _ _ _, (Below.refl _ _).alloc (Nat.le_refl _) _⟩
  case round =>
    obtain ⟨k, hk, rfl, hs, hblk, hbel⟩ := hrel
    have HS := hide hs
    have c2 := hblk.cell_ 2 rfl
    clear hs
    by_cases hlt : k < p.hol.length
    · obtain ⟨y, b, off, hx, hA, hb, hc⟩ := ints_at' (hS1.below hbel) hlt
      have HX := hide hx
      subst hA
      clear hx
      cases hd : (y == d)
      · go_wp2_with fail
        go_roundw
        case rel => exact ⟨k + 1, by omega, by go_num, by rw [HS.out, has_drop HX.out, hd]; rfl, hblk, hbel⟩
        case measure => simp [intOf]; omega
      · go_wp2_with fail
        go_ret
        exact ⟨ret_bool (by rw [HS.out, has_drop HX.out, hd]; rfl), hbel⟩
    · obtain rfl : k = p.hol.length := by omega
      go_wp2_with fail
      go_ret
      exact ⟨ret_bool (by rw [HS.out, nomore]; rfl), hbel⟩

theorem shift_any (s : Sh) (t m : Int) (w : World) (hS : ShAt w w.heap.size s) (hv : VShop s.p) (ht : 0 ≤ t) (ht' : t ≤ 1000000000000) (hm : 0 ≤ m) (hm' : m ≤ 1000000000) :
    Calls Try.prog 52 #[.agg #[.int .i64 s.p.op, .int .i64 s.p.cl, .slice s.aH s.p.hol.length s.cH, .int .i64 s.p.mach, .slice s.aS s.p.setup.length s.cS, .slice s.aJ s.p.jobs.length s.cJ], .int .i64 t, .int .i64 m] w fun e w' => e = .returned (.bool (shiftB s.p t m)) ∧ Below w.heap.size w w' := by
  have v1 := hv.op0
  have v2 := hv.opcl
  have v3 := hv.cl
  have hk := Blk.new w 25 #[.int .i64 s.p.op, .int .i64 s.p.cl, .slice s.aH s.p.hol.length s.cH, .int .i64 s.p.mach, .slice s.aS s.p.setup.length s.cS, .slice s.aJ s.p.jobs.length s.cJ]
  have hw := (Below.refl w.heap.size w).alloc (Nat.le_refl _) (.cells #[.int .i64 s.p.op, .int .i64 s.p.cl, .slice s.aH s.p.hol.length s.cH, .int .i64 s.p.mach, .slice s.aS s.p.setup.length s.cS, .slice s.aJ s.p.jobs.length s.cJ] 25)
  have HSW := hS.on hw
  have HE : Hid (shiftB s.p t m = (!hasB s.p.hol (t / 1440) && decide (s.p.op ≤ t % 1440) && decide (t % 1440 + m ≤ s.p.cl))) := rfl
  go_enter Try.func52, Try.ntmps52
  go_wp2_with fail
  generalize w.alloc (.cells #[.int .i64 s.p.op, .int .i64 s.p.cl, .slice s.aH s.p.hol.length s.cH, .int .i64 s.p.mach, .slice s.aS s.p.setup.length s.cS, .slice s.aJ s.p.jobs.length s.cJ] 25) = W at *
  refine (rfree_any s _ W HSW hv).mono ?_
  rintro e w2 ⟨rfl, hb⟩
  have hb2 := hw.trans (hb.mono hw.size)
  have hk2 := hk.below hb hk.lt
  have c0 := hk2.cell_ 0 rfl
  have c1 := hk2.cell_ 1 rfl
  have e1 : IntKind.i64.wrap (1440 * (t / 1440)) = 1440 * (t / 1440) := IntWalk.i64_in _ (by omega)
  have e2 : IntKind.i64.wrap (t - 1440 * (t / 1440)) = t % 1440 := by rw [IntWalk.i64_in _ (by omega)]; omega
  have e3 : IntKind.i64.wrap (t + m) = t + m := IntWalk.i64_in _ (by omega)
  have e4 : IntKind.i64.wrap (t + m - 1440 * (t / 1440)) = t % 1440 + m := by rw [IntWalk.i64_in _ (by omega)]; omega
  cases hf : hasB s.p.hol (t / 1440)
  · by_cases h2 : s.p.op ≤ t % 1440
    · by_cases h3 : t % 1440 + m ≤ s.p.cl
      · go_wp2_with fail
        go_ret
        exact ⟨ret_bool (by rw [HE.out, hf]; simp; omega), hb2⟩
      · go_wp2_with fail
        go_ret
        exact ⟨ret_bool (by rw [HE.out, hf]; simp; omega), hb2⟩
    · go_wp2_with fail
      go_ret
      exact ⟨ret_bool (by rw [HE.out, hf]; simp; omega), hb2⟩
  · go_wp2_with fail
    go_ret
    exact ⟨ret_bool (by rw [HE.out, hf]; simp), hb2⟩

/-- the search's state -/
structure RAt (p : Shop) (t m a : Int) : Prop where
  d0 : t / 1440 ≤ a / 1440
  op : a % 1440 = p.op
  most : a / 1440 ≤ 10001 ∨ a / 1440 ≤ t / 1440 + 1
  no : ∀ r', t ≤ r' → r' < a → shiftB p r' m = false
theorem RAt.start {p : Shop} (hv : VShop p) {t m : Int} (ht : 0 ≤ t) : RAt p t m (1440 * (t / 1440) + p.op) := by
  have h1 := hv.op0
  have h2 := hv.opcl
  have h3 := hv.cl
  refine ⟨by omega, by omega, by omega, fun r' h4 h5 => shiftB_no (.inr (.inl (by omega)))⟩
theorem RAt.stop {p : Shop} {t m a : Int} (h : RAt p t m a) (h1 : t ≤ a) (h2 : shiftB p a m = true) : IsNext p t m a := ⟨h1, h2, h.no⟩
theorem RAt.go_on {p : Shop} (hv : VShop p) {t m a : Int} (h : RAt p t m a) (hm : p.op + m ≤ p.cl) (hts : shiftB p t m = false) (h1 : a < t ∨ shiftB p a m = false) :
    RAt p t m (a + 1440) ∧ (a / 1440 ≤ 10000 ∨ a / 1440 ≤ t / 1440) := by
  have v1 := hv.op0
  have v2 := hv.opcl
  have v3 := hv.cl
  have k0 := h.d0
  have k1 := h.op
  have hday : hasB p.hol (a / 1440) = true ∨ (a < t ∧ p.cl < t % 1440 + m) := by
    by_cases hat : a < t
    · have e : t / 1440 = a / 1440 := by omega
      cases hh : hasB p.hol (a / 1440)
      · right
        refine ⟨hat, ?_⟩
        rw [← Bool.not_eq_true, shiftB_iff, e] at hts
        by_cases hc : p.cl < t % 1440 + m
        · exact hc
        · exact absurd ⟨hh, by omega, by omega⟩ hts
      · exact .inl rfl
    · have h1' : shiftB p a m = false := by
        rcases h1 with h1 | h1
        · omega
        · exact h1
      cases hh : hasB p.hol (a / 1440)
      · rw [← Bool.not_eq_true, shiftB_iff] at h1'
        exact absurd ⟨hh, by omega, by omega⟩ h1'
      · exact .inl rfl
  have hm2 : a / 1440 ≤ 10000 ∨ a / 1440 ≤ t / 1440 := by
    rcases hday with hd | hd
    · exact .inl (has_bd hv hd).2
    · right; omega
  refine ⟨⟨by omega, by omega, by omega, fun r' h4 h5 => ?_⟩, hm2⟩
  by_cases hr : r' < a
  · exact h.no r' h4 hr
  · by_cases hr2 : r' / 1440 = a / 1440
    · rcases hday with hd | hd
      · exact shiftB_no (.inl (by rw [hr2]; exact hd))
      · exact shiftB_no (.inr (.inr (by omega)))
    · exact shiftB_no (.inr (.inl (by omega)))

theorem refNext_any (s : Sh) (t m : Int) (w : World) (hS : ShAt w w.heap.size s) (hv : VShop s.p) (ht : 0 ≤ t) (ht' : t ≤ 100000000000) (hm : 1 ≤ m) (hm' : m ≤ s.p.cl - s.p.op) :
    Calls Try.prog 22 #[.agg #[.int .i64 s.p.op, .int .i64 s.p.cl, .slice s.aH s.p.hol.length s.cH, .int .i64 s.p.mach, .slice s.aS s.p.setup.length s.cS, .slice s.aJ s.p.jobs.length s.cJ], .int .i64 t, .int .i64 m] w fun e w' => e = .returned (.int .i64 (nextF s.p t m)) ∧ Below w.heap.size w w' := by
  have v1 := hv.op0
  have v2 := hv.opcl
  have v3 := hv.cl
  have hk := Blk.new w 25 #[.int .i64 s.p.op, .int .i64 s.p.cl, .slice s.aH s.p.hol.length s.cH, .int .i64 s.p.mach, .slice s.aS s.p.setup.length s.cS, .slice s.aJ s.p.jobs.length s.cJ]
  have hw := (Below.refl w.heap.size w).alloc (Nat.le_refl _) (.cells #[.int .i64 s.p.op, .int .i64 s.p.cl, .slice s.aH s.p.hol.length s.cH, .int .i64 s.p.mach, .slice s.aS s.p.setup.length s.cS, .slice s.aJ s.p.jobs.length s.cJ] 25)
  have HSW := hS.on hw
  cases hts : shiftB s.p t m
  · have hst := RAt.start (m := m) hv ht
    have HST := hide hst
    have e2 : IntKind.i64.wrap (1440 * (t / 1440) + s.p.op) = 1440 * (t / 1440) + s.p.op := IntWalk.i64_in _ (by omega)
    clear hst
    go_enter Try.func22, Try.ntmps22
    go_wp2_with fail
    refine (shift_any s t m _ HSW hv ht (by omega) (by omega) (by omega)).mono ?_
    rintro e w2 ⟨rfl, hb⟩
    rw [hts]
    have hb2 := hw.trans (hb.mono hw.size)
    have hk2 := hk.below hb hk.lt
    have c0 := hk2.cell_ 0 rfl
    go_wp2_with fail
    clear hk hw hb c0
    go_loopw [8] (fun x wr => ∃ a : Int, x = .int .i64 a ∧ RAt s.p t m a ∧ Blk wr w.heap.size 25 #[.int .i64 s.p.op, .int .i64 s.p.cl, .slice s.aH s.p.hol.length s.cH, .int .i64 s.p.mach, .slice s.aS s.p.setup.length s.cS, .slice s.aJ s.p.jobs.length s.cJ] ∧ Below w.heap.size w wr) (fun x _ => (t / 1440 + 10002 - intOf x / 1440).toNat)
    case atStart => exact ⟨_, rfl, HST.out, hk2, hb2⟩
    case round =>
      clear hk2 hb2
      obtain ⟨a, rfl, hat, hk, hbel⟩ := hrel
      have a0 := hat.d0
      have a1 := hat.op
      have a2 := hat.most
      have HAT := hide hat
      have HSW := hide (hS.on hbel)
      clear hat
      have c0 := hk.cell_ 0 rfl
      have c1 := hk.cell_ 1 rfl
      have c2 := hk.cell_ 2 rfl
      have c3 := hk.cell_ 3 rfl
      have c4 := hk.cell_ 4 rfl
      have c5 := hk.cell_ 5 rfl
      by_cases hle : t ≤ a
      · cases hsh : shiftB s.p a m
        · have hgo := HAT.out.go_on hv (by omega) hts (.inr hsh)
          go_wp2_with fail
          refine (shift_any s a m _ HSW.out hv (by omega) (by omega) (by omega) (by omega)).mono ?_
          rintro e w3 ⟨rfl, hb⟩
          rw [hsh]
          go_wp2_with fail
          go_roundw
          case rel => exact ⟨a + 1440, by go_num, hgo.1, hk.below hb hk.lt, hbel.trans (hb.mono hbel.size)⟩
          case measure => simp [intOf]; omega
        · have HR := hide (next_eq (HAT.out.stop hle hsh))
          go_wp2_with fail
          refine (shift_any s a m _ HSW.out hv (by omega) (by omega) (by omega) (by omega)).mono ?_
          rintro e w3 ⟨rfl, hb⟩
          rw [hsh]
          go_wp2_with fail
          go_ret
          exact ⟨ret_int HR.out.symm, hbel.trans (hb.mono hbel.size)⟩
      · have hgo := HAT.out.go_on hv (by omega) hts (.inl (by omega))
        go_wp2_with fail
        go_roundw
        case rel => exact ⟨a + 1440, by go_num, hgo.1, hk, hbel⟩
        case measure => simp [intOf]; omega
  · have hn := next_eq (p := s.p) (t := t) (m := m) ⟨Int.le_refl _, hts, fun r' h1 h2 => by omega⟩
    have HR := hide hn
    clear hn
    go_enter Try.func22, Try.ntmps22
    go_wp2_with fail
    refine (shift_any s t m _ HSW hv ht (by omega) (by omega) (by omega)).mono ?_
    rintro e w2 ⟨rfl, hb⟩
    rw [hts]
    go_wp2_with fail
    go_ret
    exact ⟨ret_int HR.out.symm, hw.trans (hb.mono hw.size)⟩
end Go.Proofs.Ytcpnfcnobnjhdaa
