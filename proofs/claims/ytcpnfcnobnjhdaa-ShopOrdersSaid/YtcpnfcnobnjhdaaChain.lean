/- Chains and loads: the walks. -/
import Derived.Test.YtcpnfcnobnjhdaaChainP
import Derived.Test.YtcpnfcnobnjhdaaShopLaws1
namespace Go.Proofs.Ytcpnfcnobnjhdaa
open Go.RowKit
theorem job_at {w : World} {B : Nat} {A : Option Addr} {js : List (List Step)} {k : Nat} {l : List Step} (h : Jobs w B A js) (hk : js[k]? = some l) :
    ∃ b off A' c', A = some ⟨b, off, none⟩ ∧ b < B ∧ w.cell? ⟨b, off + k, none⟩ = some (.slice A' l.length c') ∧ Slc Step.enc 4 w B A' l := h k l hk

set_option maxRecDepth 100000 in
theorem chain_any (s : Sh) (j : Nat) (l : List Step) (w : World) (hS : ShAt w w.heap.size s) (hv : VShop s.p) (hj : s.p.jobs[j]? = some l) :
    Calls Try.prog 56 #[.agg #[.int .i64 s.p.op, .int .i64 s.p.cl, .slice s.aH s.p.hol.length s.cH, .int .i64 s.p.mach, .slice s.aS s.p.setup.length s.cS, .slice s.aJ s.p.jobs.length s.cJ], .int .i64 j] w fun e w' => e = .returned (.int .i64 (chainF s.p l)) ∧ Below w.heap.size w w' := by
  have hjl : j < s.p.jobs.length := (List.getElem?_eq_some_iff.1 hj).1
  have hjn := hv.jobn
  have hst := hv.steps j l hj
  have v1 := hv.op0
  have v2 := hv.opcl
  have v3 := hv.cl
  have hk := Blk.new w 25 #[.int .i64 s.p.op, .int .i64 s.p.cl, .slice s.aH s.p.hol.length s.cH, .int .i64 s.p.mach, .slice s.aS s.p.setup.length s.cS, .slice s.aJ s.p.jobs.length s.cJ]
  have hw := (Below.refl w.heap.size w).alloc (Nat.le_refl _) (.cells #[.int .i64 s.p.op, .int .i64 s.p.cl, .slice s.aH s.p.hol.length s.cH, .int .i64 s.p.mach, .slice s.aS s.p.setup.length s.cS, .slice s.aJ s.p.jobs.length s.cJ] 25)
  obtain ⟨b, off, A', c', hA, hb, hc, hSl⟩ := job_at (hS.on hw).jobs hj
  have HC : Hid (chainF s.p l = chainSt s.p (l.drop 0) 0 0) := rfl
  obtain ⟨p, aH, cH, aS, cS, aJ, cJ⟩ := s
  dsimp only at *
  subst hA
  go_enter Try.func56, Try.ntmps56
  go_wp2_with fail
  generalize w.alloc (.cells #[.int .i64 p.op, .int .i64 p.cl, .slice aH p.hol.length cH, .int .i64 p.mach, .slice aS p.setup.length cS, .slice (some ⟨b, off, none⟩) p.jobs.length cJ] 25) = W at *
  go_loopw [5, 6, 16] (fun x y z wr => ∃ (k : Nat) (t e : Int), x = .int .i64 t ∧ y = .int .i64 e ∧ z = .int .i64 k ∧ k ≤ l.length ∧ chainF p l = chainSt p (l.drop k) t e ∧ 0 ≤ t ∧ t ≤ 20000000 + k * 20000 ∧ Blk wr w.heap.size 25 #[.int .i64 p.op, .int .i64 p.cl, .slice aH p.hol.length cH, .int .i64 p.mach, .slice aS p.setup.length cS, .slice (some ⟨b, off, none⟩) p.jobs.length cJ] ∧ Below w.heap.size w wr ∧ Below W.heap.size W wr) (fun _ _ z _ => l.length - (intOf z).toNat)
  case atStart => exact ⟨0, 0, 0, rfl, rfl, rfl, Nat.zero_le _, HC.out, Int.le_refl _, by omega, hk, hw, Below.refl _ _⟩
  case round =>
    obtain ⟨k, t, e, rfl, rfl, rfl, hkl, hch, ht0, ht1, hkr, hbel, hbW⟩ := hrel
    have HCH := hide hch
    clear hch
    by_cases hlt : k < l.length
    · obtain ⟨x, b2, off2, hx, hA2, hb2, d0, d1, d2, d3⟩ := steps_at (hSl.below hbW) hlt
      obtain ⟨_, _, x1, x2, _, _, x3, x4⟩ := hst.2 k x hx
      have hN := next_is hv (t := t) (m := x.mi) ht0 x2
      have hN1 := next_ge hv (t := t) (m := x.mi) ht0 x2
      have hN2 := hN.2
      have HX := hide hx
      clear hx hN
      subst hA2
      have hstp := Blk.new wr 69 #[.int .i64 x.m, .int .i64 x.mi, .int .i64 x.c, .int .i64 x.d]
      have hk2 := hkr.alloc (.cells #[.int .i64 x.m, .int .i64 x.mi, .int .i64 x.c, .int .i64 x.d] 69)
      have hbV := hbel.alloc hbel.size (.cells #[.int .i64 x.m, .int .i64 x.mi, .int .i64 x.c, .int .i64 x.d] 69)
      have hbU := hbW.alloc hbW.size (.cells #[.int .i64 x.m, .int .i64 x.mi, .int .i64 x.c, .int .i64 x.d] 69)
      go_wp2_with fail
      generalize wr.alloc (.cells #[.int .i64 x.m, .int .i64 x.mi, .int .i64 x.c, .int .i64 x.d] 69) = V at *
      have HSV := hS.on hbV
      refine wp_region_quiet (C := fun w' => ∃ u : Since V, w' = u.w) (by kernel_rfl) (by kernel_rfl) (Since.start V) ?_
      dsimp only
      have y0 := Since.cell (hk2.cell_ 0 rfl)
      have y1 := Since.cell (hk2.cell_ 1 rfl)
      have y2 := Since.cell (hk2.cell_ 2 rfl)
      have y3 := Since.cell (hk2.cell_ 3 rfl)
      have y4 := Since.cell (hk2.cell_ 4 rfl)
      have y5 := Since.cell (hk2.cell_ 5 rfl)
      have z1 := Since.cell (hstp.cell_ 1 rfl)
      have e1 : IntKind.i64.wrap (nextF p t x.mi + x.mi) = nextF p t x.mi + x.mi := IntWalk.i64_in _ (by omega)
      repeat (go_big_quiet_step ((go_at_call 51; exact Since.calls (next_any ⟨p, aH, cH, aS, cS, some ⟨b, off, none⟩, cJ⟩ t x.mi _ (HSV.on (Since.h _)) hv ht0 (by omega) x1 x2))))
      refine wpQuiet_nil ?_
      rintro _ ⟨u, rfl⟩
      have hk3 := hk2.below u.h hk2.lt
      have hs3 := hstp.below u.h hstp.lt
      have hb3 := hbV.trans (u.h.mono hbV.size)
      have hU3 := hbU.trans (u.h.mono hbU.size)
      have g3 := hs3.cell_ 3 rfl
      go_wp2_with fail
      go_roundw
      case rel => exact ⟨k + 1, _, _, rfl, rfl, by go_num, by omega, by rw [HCH.out, chainSt_drop HX.out], by omega, by omega, hk3, hb3, hU3⟩
      case measure => simp [intOf]; omega
    · obtain rfl : k = l.length := by omega
      go_wp2_with fail
      go_ret
      exact ⟨ret_int (by rw [HCH.out, nomore]; rfl), hbel⟩

set_option maxRecDepth 100000 in
theorem refChain_any (s : Sh) (j : Nat) (l : List Step) (w : World) (hS : ShAt w w.heap.size s) (hv : VShop s.p) (hj : s.p.jobs[j]? = some l) :
    Calls Try.prog 31 #[.agg #[.int .i64 s.p.op, .int .i64 s.p.cl, .slice s.aH s.p.hol.length s.cH, .int .i64 s.p.mach, .slice s.aS s.p.setup.length s.cS, .slice s.aJ s.p.jobs.length s.cJ], .int .i64 j] w fun e w' => e = .returned (.int .i64 (chainF s.p l)) ∧ Below w.heap.size w w' := by
  have hjl : j < s.p.jobs.length := (List.getElem?_eq_some_iff.1 hj).1
  have hjn := hv.jobn
  have hst := hv.steps j l hj
  have v1 := hv.op0
  have v2 := hv.opcl
  have v3 := hv.cl
  have hk := Blk.new w 25 #[.int .i64 s.p.op, .int .i64 s.p.cl, .slice s.aH s.p.hol.length s.cH, .int .i64 s.p.mach, .slice s.aS s.p.setup.length s.cS, .slice s.aJ s.p.jobs.length s.cJ]
  have hw := (Below.refl w.heap.size w).alloc (Nat.le_refl _) (.cells #[.int .i64 s.p.op, .int .i64 s.p.cl, .slice s.aH s.p.hol.length s.cH, .int .i64 s.p.mach, .slice s.aS s.p.setup.length s.cS, .slice s.aJ s.p.jobs.length s.cJ] 25)
  obtain ⟨b, off, A', c', hA, hb, hc, hSl⟩ := job_at (hS.on hw).jobs hj
  have HC : Hid (chainF s.p l = chainSt s.p (l.drop 0) 0 0) := rfl
  obtain ⟨p, aH, cH, aS, cS, aJ, cJ⟩ := s
  dsimp only at *
  subst hA
  go_enter Try.func31, Try.ntmps31
  go_wp2_with fail
  generalize w.alloc (.cells #[.int .i64 p.op, .int .i64 p.cl, .slice aH p.hol.length cH, .int .i64 p.mach, .slice aS p.setup.length cS, .slice (some ⟨b, off, none⟩) p.jobs.length cJ] 25) = W at *
  go_loopw [5, 6, 8] (fun x y z wr => ∃ (k : Nat) (t e : Int), x = .int .i64 t ∧ y = .int .i64 e ∧ z = .int .i64 k ∧ k ≤ l.length ∧ chainF p l = chainSt p (l.drop k) t e ∧ 0 ≤ t ∧ t ≤ 20000000 + k * 20000 ∧ Blk wr w.heap.size 25 #[.int .i64 p.op, .int .i64 p.cl, .slice aH p.hol.length cH, .int .i64 p.mach, .slice aS p.setup.length cS, .slice (some ⟨b, off, none⟩) p.jobs.length cJ] ∧ Below w.heap.size w wr ∧ Below W.heap.size W wr) (fun _ _ z _ => l.length - (intOf z).toNat)
  case atStart => exact ⟨0, 0, 0, rfl, rfl, rfl, Nat.zero_le _, HC.out, Int.le_refl _, by omega, hk, hw, Below.refl _ _⟩
  case round =>
    obtain ⟨k, t, e, rfl, rfl, rfl, hkl, hch, ht0, ht1, hk2, hbV, hbW⟩ := hrel
    have HCH := hide hch
    clear hch
    by_cases hlt : k < l.length
    · obtain ⟨x, b2, off2, hx, hA2, hb2, d0, d1, d2, d3⟩ := steps_at (hSl.below hbW) hlt
      obtain ⟨_, _, x1, x2, _, _, x3, x4⟩ := hst.2 k x hx
      have hN := next_is hv (t := t) (m := x.mi) ht0 x2
      have hN1 := next_ge hv (t := t) (m := x.mi) ht0 x2
      have hN2 := hN.2
      have HX := hide hx
      clear hx hN
      subst hA2
      obtain ⟨V, rfl⟩ : ∃ V : World, V = wr := ⟨_, rfl⟩
      have HSV := hS.on hbV
      go_wp2_with fail
      refine wp_region_quiet (C := fun w' => ∃ u : Since V, w' = u.w) (by kernel_rfl) (by kernel_rfl) (Since.start V) ?_
      dsimp only
      have y0 := Since.cell (hk2.cell_ 0 rfl)
      have y1 := Since.cell (hk2.cell_ 1 rfl)
      have y2 := Since.cell (hk2.cell_ 2 rfl)
      have y3 := Since.cell (hk2.cell_ 3 rfl)
      have y4 := Since.cell (hk2.cell_ 4 rfl)
      have y5 := Since.cell (hk2.cell_ 5 rfl)
      have z1 := Since.cell d1
      have e1 : IntKind.i64.wrap (nextF p t x.mi + x.mi) = nextF p t x.mi + x.mi := IntWalk.i64_in _ (by omega)
      repeat (go_big_quiet_step ((go_at_call 22; exact Since.calls (refNext_any ⟨p, aH, cH, aS, cS, some ⟨b, off, none⟩, cJ⟩ t x.mi _ (HSV.on (Since.h _)) hv ht0 (by omega) x1 x2))))
      refine wpQuiet_nil ?_
      rintro _ ⟨u, rfl⟩
      have hk3 := hk2.below u.h hk2.lt
      have hb3 := hbV.trans (u.h.mono hbV.size)
      have hU3 := hbW.trans (u.h.mono hbW.size)
      obtain ⟨x', b3, off3, hx', hA3, _, f0, f1, f2, f3⟩ := steps_at (hSl.below hU3) hlt
      obtain rfl : x' = x := by have := HX.out; rw [this] at hx'; injection hx' with hx'; exact hx'.symm
      obtain ⟨rfl, rfl⟩ : b2 = b3 ∧ off2 = off3 := by injection hA3 with hA3; injection hA3 with h1 h2; exact ⟨h1, h2⟩
      clear hx' hA3
      go_wp2_with fail
      go_roundw
      case rel => exact ⟨k + 1, _, _, rfl, rfl, by go_num, by omega, by rw [HCH.out, chainSt_drop HX.out], by omega, by omega, hk3, hb3, hU3⟩
      case measure => simp [intOf]; omega
    · obtain rfl : k = l.length := by omega
      go_wp2_with fail
      go_ret
      exact ⟨ret_int (by rw [HCH.out, nomore]; rfl), hbV⟩
end Go.Proofs.Ytcpnfcnobnjhdaa
