/- Parts of the proofs of this seat: ShopBounds. Each part says what it proves; no condition beyond those stated there. -/
import Derived.Test.YtcpnfcnobnjhdaaB8
import Derived.Test.YtcpnfcnobnjhdaaB16
import Derived.Test.YtcpnfcnobnjhdaaB18

/- The law ShopBounds: the walk. -/
namespace Go.Proofs.Ytcpnfcnobnjhdaa
open Go.RowKit
theorem maxTo_le {f : Nat → Int} {a E : Int} : ∀ n : Nat, a ≤ E → (∀ i, i < n → f i ≤ E) → maxTo f a n ≤ E
  | 0, h, _ => h
  | n + 1, h, hf => by
    have h1 := maxTo_le n h fun i hi => hf i (by omega)
    have h2 := hf n (by omega)
    show max (maxTo f a n) (f n) ≤ E
    omega
theorem bound_end {p : Shop} (hv : VShop p) {pl : List (List Int)} (hz : (judgeF p pl).2.2 = 0) : boundF p ≤ endV p pl := by
  unfold boundF
  refine maxTo_le _ (maxTo_le _ (ends_le hz).1 fun j hj => ?_) fun m _ => end_load hv hz _
  have h : p.jobs[j]? = some p.jobs[j] := List.getElem?_eq_getElem hj
  rw [jobF_at h]
  exact end_chain hv hz h
set_option maxRecDepth 200000 in
set_option maxHeartbeats 4000000 in
theorem bounds_walk (s : Sh) (A : Option Addr) (c : Nat) (pl : List (List Int)) (w : World) (hS : ShAt w w.heap.size s) (hf : Fits s.p) (hP : Plan w w.heap.size A pl) (hpf : PFits pl) :
    Calls Try.prog 14 #[.agg #[.int .i64 s.p.op, .int .i64 s.p.cl, .slice s.aH s.p.hol.length s.cH, .int .i64 s.p.mach, .slice s.aS s.p.setup.length s.cS, .slice s.aJ s.p.jobs.length s.cJ], .slice A pl.length c] w fun e w' => e = .returned (.bool true) ∧ Below w.heap.size w w' := by
  have hk := Blk.new w 25 #[.int .i64 s.p.op, .int .i64 s.p.cl, .slice s.aH s.p.hol.length s.cH, .int .i64 s.p.mach, .slice s.aS s.p.setup.length s.cS, .slice s.aJ s.p.jobs.length s.cJ]
  have hB := (Below.refl w.heap.size w).alloc (Nat.le_refl _) (.cells #[.int .i64 s.p.op, .int .i64 s.p.cl, .slice s.aH s.p.hol.length s.cH, .int .i64 s.p.mach, .slice s.aS s.p.setup.length s.cS, .slice s.aJ s.p.jobs.length s.cJ] 25)
  go_enter Try.func14, Try.ntmps14
  go_wp2_with fail
  generalize w.alloc (.cells #[.int .i64 s.p.op, .int .i64 s.p.cl, .slice s.aH s.p.hol.length s.cH, .int .i64 s.p.mach, .slice s.aS s.p.setup.length s.cS, .slice s.aJ s.p.jobs.length s.cJ] 25) = W at *
  have c0 := hk.cell_ 0 rfl
  have c1 := hk.cell_ 1 rfl
  have c2 := hk.cell_ 2 rfl
  have c3 := hk.cell_ 3 rfl
  have c4 := hk.cell_ 4 rfl
  have c5 := hk.cell_ 5 rfl
  go_wp2_with fail
  refine (long_any s _ (hS.on hB) hf.h1 hf.h2 hf.h3 hf.h4).mono ?_
  rintro e W ⟨rfl, hb⟩
  clear c0 c1 c2 c3 c4 c5
  replace hk := hk.below hb hk.lt
  replace hB := hB.trans (hb.mono hB.size)
  clear hb
  have c0 := hk.cell_ 0 rfl
  have c1 := hk.cell_ 1 rfl
  have c2 := hk.cell_ 2 rfl
  have c3 := hk.cell_ 3 rfl
  have c4 := hk.cell_ 4 rfl
  have c5 := hk.cell_ 5 rfl
  cases hl : longB s.p
  case true =>
    go_wp2_with fail
    refine (first_any _).mono ?_
    rintro e W ⟨rfl, hb⟩
    clear c0 c1 c2 c3 c4 c5
    replace hk := hk.below hb hk.lt
    replace hB := hB.trans (hb.mono hB.size)
    clear hb
    have c0 := hk.cell_ 0 rfl
    have c1 := hk.cell_ 1 rfl
    have c2 := hk.cell_ 2 rfl
    have c3 := hk.cell_ 3 rfl
    have c4 := hk.cell_ 4 rfl
    have c5 := hk.cell_ 5 rfl
    go_wp2_with fail
    go_ret
    exact ⟨rfl, hB⟩
  go_wp2_with fail
  refine (wide_any A c pl _ (hP.on hB) hpf).mono ?_
  rintro e W ⟨rfl, hb⟩
  clear c0 c1 c2 c3 c4 c5
  replace hk := hk.below hb hk.lt
  replace hB := hB.trans (hb.mono hB.size)
  clear hb
  have c0 := hk.cell_ 0 rfl
  have c1 := hk.cell_ 1 rfl
  have c2 := hk.cell_ 2 rfl
  have c3 := hk.cell_ 3 rfl
  have c4 := hk.cell_ 4 rfl
  have c5 := hk.cell_ 5 rfl
  cases hw : wideB pl
  case true =>
    go_wp2_with fail
    refine (first_any _).mono ?_
    rintro e W ⟨rfl, hb⟩
    clear c0 c1 c2 c3 c4 c5
    replace hk := hk.below hb hk.lt
    replace hB := hB.trans (hb.mono hB.size)
    clear hb
    have c0 := hk.cell_ 0 rfl
    have c1 := hk.cell_ 1 rfl
    have c2 := hk.cell_ 2 rfl
    have c3 := hk.cell_ 3 rfl
    have c4 := hk.cell_ 4 rfl
    have c5 := hk.cell_ 5 rfl
    go_wp2_with fail
    go_ret
    exact ⟨rfl, hB⟩
  go_wp2_with fail
  refine (refValid_any s _ (hS.on hB) hf.h1 hf.h2 hf.h3 hf.h4).mono ?_
  rintro e W ⟨rfl, hb⟩
  clear c0 c1 c2 c3 c4 c5
  replace hk := hk.below hb hk.lt
  replace hB := hB.trans (hb.mono hB.size)
  clear hb
  have c0 := hk.cell_ 0 rfl
  have c1 := hk.cell_ 1 rfl
  have c2 := hk.cell_ 2 rfl
  have c3 := hk.cell_ 3 rfl
  have c4 := hk.cell_ 4 rfl
  have c5 := hk.cell_ 5 rfl
  cases hvB : validShop s.p
  case false =>
    go_wp2_with fail
    refine (first_any _).mono ?_
    rintro e W ⟨rfl, hb⟩
    clear c0 c1 c2 c3 c4 c5
    replace hk := hk.below hb hk.lt
    replace hB := hB.trans (hb.mono hB.size)
    clear hb
    have c0 := hk.cell_ 0 rfl
    have c1 := hk.cell_ 1 rfl
    have c2 := hk.cell_ 2 rfl
    have c3 := hk.cell_ 3 rfl
    have c4 := hk.cell_ 4 rfl
    have c5 := hk.cell_ 5 rfl
    go_wp2_with fail
    go_ret
    exact ⟨rfl, hB⟩
  have hv := valid_facts hvB
  have hjn := hv.jobn
  have hm1 := hv.mach1
  have hm6 := hv.mach6
  have HV3 : Hid (V3 (judgeF s.p pl) = .tuple #[.int .i64 (judgeF s.p pl).1, .int .i64 (judgeF s.p pl).2.1, .int .i64 (judgeF s.p pl).2.2]) := rfl
  go_wp2_with fail
  refine (bound_any s _ (hS.on hB) hvB).mono ?_
  rintro e W ⟨rfl, hb⟩
  clear c0 c1 c2 c3 c4 c5
  replace hk := hk.below hb hk.lt
  replace hB := hB.trans (hb.mono hB.size)
  clear hb
  have c0 := hk.cell_ 0 rfl
  have c1 := hk.cell_ 1 rfl
  have c2 := hk.cell_ 2 rfl
  have c3 := hk.cell_ 3 rfl
  have c4 := hk.cell_ 4 rfl
  have c5 := hk.cell_ 5 rfl
  go_wp2_with fail
  clear c0 c1 c2 c3 c4 c5
  go_loopw [7, 8] (fun x y W => ∃ j : Nat, x = .int .i64 (maxTo (jobF s.p) 0 j) ∧ y = .int .i64 j ∧ j ≤ s.p.jobs.length ∧ Blk W w.heap.size 25 #[.int .i64 s.p.op, .int .i64 s.p.cl, .slice s.aH s.p.hol.length s.cH, .int .i64 s.p.mach, .slice s.aS s.p.setup.length s.cS, .slice s.aJ s.p.jobs.length s.cJ] ∧ Below w.heap.size w W) (fun x y _ => s.p.jobs.length - (intOf y).toNat)
  case atStart => exact ⟨0, rfl, rfl, Nat.zero_le _, hk, hB⟩
  case round =>
    clear hk hB
    obtain ⟨W, rfl⟩ : ∃ W : World, W = wr := ⟨_, rfl⟩
    obtain ⟨j, rfl, rfl, hj, hk, hB⟩ := hrel
    have c0 := hk.cell_ 0 rfl
    have c1 := hk.cell_ 1 rfl
    have c2 := hk.cell_ 2 rfl
    have c3 := hk.cell_ 3 rfl
    have c4 := hk.cell_ 4 rfl
    have c5 := hk.cell_ 5 rfl
    by_cases hlt : j < s.p.jobs.length
    · have hji : (j : Int) < (s.p.jobs.length : Int) := by omega
      have hcv : chainV s.p (j : Int) = .tuple #[.int .i64 (jobF s.p j), .int .i64 0] := by rw [chainV_ok (inB_iff.2 ⟨by omega, by omega⟩)]; rfl
      have HCV := hide hcv
      clear hcv
      go_wp2_with fail
      refine (apiChain_any s (j : Int) _ (hS.on hB) hvB).mono ?_
      rintro e W ⟨rfl, hb⟩
      clear c0 c1 c2 c3 c4 c5
      replace hk := hk.below hb hk.lt
      replace hB := hB.trans (hb.mono hB.size)
      clear hb
      have c0 := hk.cell_ 0 rfl
      have c1 := hk.cell_ 1 rfl
      have c2 := hk.cell_ 2 rfl
      have c3 := hk.cell_ 3 rfl
      have c4 := hk.cell_ 4 rfl
      have c5 := hk.cell_ 5 rfl
      rw [HCV.out]
      go_wp2_with fail
      go_roundw
      case rel => exact ⟨j + 1, rfl, by go_num, by omega, hk, hB⟩
      case measure => simp [intOf]; omega
    · obtain rfl : j = s.p.jobs.length := by omega
      go_wp2_with fail
      clear c0 c1 c2 c3 c4 c5
      go_loopw [7, 11] (fun x y W => ∃ m : Nat, x = .int .i64 (maxTo (fun m => loadF s.p m) (maxTo (jobF s.p) 0 s.p.jobs.length) m) ∧ y = .int .i64 m ∧ (m : Int) ≤ s.p.mach ∧ Blk W w.heap.size 25 #[.int .i64 s.p.op, .int .i64 s.p.cl, .slice s.aH s.p.hol.length s.cH, .int .i64 s.p.mach, .slice s.aS s.p.setup.length s.cS, .slice s.aJ s.p.jobs.length s.cJ] ∧ Below w.heap.size w W) (fun x y _ => s.p.mach.toNat - (intOf y).toNat)
      case atStart => exact ⟨0, rfl, rfl, (by omega), hk, hB⟩
      case round =>
        clear hk hB
        obtain ⟨W, rfl⟩ : ∃ W : World, W = wr := ⟨_, rfl⟩
        obtain ⟨m, rfl, rfl, hm, hk, hB⟩ := hrel
        have c0 := hk.cell_ 0 rfl
        have c1 := hk.cell_ 1 rfl
        have c2 := hk.cell_ 2 rfl
        have c3 := hk.cell_ 3 rfl
        have c4 := hk.cell_ 4 rfl
        have c5 := hk.cell_ 5 rfl
        by_cases hlt2 : (m : Int) < s.p.mach
        · have hcv : loadV s.p (m : Int) = .tuple #[.int .i64 (loadF s.p m), .int .i64 0] := loadV_ok (inB_iff.2 ⟨by omega, by omega⟩)
          have HCV := hide hcv
          clear hcv
          go_wp2_with fail
          refine (apiLoad_any s (m : Int) _ (hS.on hB) hvB).mono ?_
          rintro e W ⟨rfl, hb⟩
          clear c0 c1 c2 c3 c4 c5
          replace hk := hk.below hb hk.lt
          replace hB := hB.trans (hb.mono hB.size)
          clear hb
          have c0 := hk.cell_ 0 rfl
          have c1 := hk.cell_ 1 rfl
          have c2 := hk.cell_ 2 rfl
          have c3 := hk.cell_ 3 rfl
          have c4 := hk.cell_ 4 rfl
          have c5 := hk.cell_ 5 rfl
          rw [HCV.out]
          go_wp2_with fail
          go_roundw
          case rel => exact ⟨m + 1, rfl, by go_num, by omega, hk, hB⟩
          case measure => simp [intOf]; omega
        · have hbe : maxTo (fun m => loadF s.p m) (maxTo (jobF s.p) 0 s.p.jobs.length) m = boundF s.p := by unfold boundF; rw [show s.p.mach.toNat = m by omega]
          rw [hbe]
          clear hbe
          go_wp2_with fail
          refine (refJudge_any s A c pl _ (hS.on hB) hv (hP.on hB) hpf).mono ?_
          rintro e W ⟨rfl, hb⟩
          clear c0 c1 c2 c3 c4 c5
          replace hk := hk.below hb hk.lt
          replace hB := hB.trans (hb.mono hB.size)
          clear hb
          have c0 := hk.cell_ 0 rfl
          have c1 := hk.cell_ 1 rfl
          have c2 := hk.cell_ 2 rfl
          have c3 := hk.cell_ 3 rfl
          have c4 := hk.cell_ 4 rfl
          have c5 := hk.cell_ 5 rfl
          rw [HV3.out]
          by_cases hz : (judgeF s.p pl).2.2 = 0
          · have hbnd := bound_end hv hz
            rw [hz]
            have HZ := hide hz
            clear hz
            go_wp2_with fail
            refine (apiJudge_any s A c pl _ (hS.on hB) hvB (hP.on hB) hpf).mono ?_
            rintro e W ⟨rfl, hb⟩
            clear c0 c1 c2 c3 c4 c5
            replace hk := hk.below hb hk.lt
            replace hB := hB.trans (hb.mono hB.size)
            clear hb
            have c0 := hk.cell_ 0 rfl
            have c1 := hk.cell_ 1 rfl
            have c2 := hk.cell_ 2 rfl
            have c3 := hk.cell_ 3 rfl
            have c4 := hk.cell_ 4 rfl
            have c5 := hk.cell_ 5 rfl
            rw [HV3.out, HZ.out]
            go_wp2_with fail
            refine (apiEnd_any s A c pl _ (hS.on hB) hvB (hP.on hB) hpf).mono ?_
            rintro e W ⟨rfl, hb⟩
            clear c0 c1 c2 c3 c4 c5
            replace hk := hk.below hb hk.lt
            replace hB := hB.trans (hb.mono hB.size)
            clear hb
            have c0 := hk.cell_ 0 rfl
            have c1 := hk.cell_ 1 rfl
            have c2 := hk.cell_ 2 rfl
            have c3 := hk.cell_ 3 rfl
            have c4 := hk.cell_ 4 rfl
            have c5 := hk.cell_ 5 rfl
            rw [HZ.out]
            go_wp2_with fail
            refine (first_any _).mono ?_
            rintro e W ⟨rfl, hb⟩
            clear c0 c1 c2 c3 c4 c5
            replace hk := hk.below hb hk.lt
            replace hB := hB.trans (hb.mono hB.size)
            clear hb
            have c0 := hk.cell_ 0 rfl
            have c1 := hk.cell_ 1 rfl
            have c2 := hk.cell_ 2 rfl
            have c3 := hk.cell_ 3 rfl
            have c4 := hk.cell_ 4 rfl
            have c5 := hk.cell_ 5 rfl
            go_wp2_with fail
            go_ret
            exact ⟨rfl, hB⟩
          · have hzb : ((judgeF s.p pl).2.2 != 0) = true := by simpa using hz
            have HZ := hide hz
            clear hz
            go_wp2_with fail
            refine (first_any _).mono ?_
            rintro e W ⟨rfl, hb⟩
            clear c0 c1 c2 c3 c4 c5
            replace hk := hk.below hb hk.lt
            replace hB := hB.trans (hb.mono hB.size)
            clear hb
            have c0 := hk.cell_ 0 rfl
            have c1 := hk.cell_ 1 rfl
            have c2 := hk.cell_ 2 rfl
            have c3 := hk.cell_ 3 rfl
            have c4 := hk.cell_ 4 rfl
            have c5 := hk.cell_ 5 rfl
            go_wp2_with fail
            go_ret
            exact ⟨rfl, hB⟩
end Go.Proofs.Ytcpnfcnobnjhdaa
