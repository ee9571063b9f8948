/- Bounds and the law ShopChains: the walks. -/
import Derived.Test.YtcpnfcnobnjhdaaLoad
import Derived.Test.YtcpnfcnobnjhdaaShopTimes
namespace Go.Proofs.Ytcpnfcnobnjhdaa
open Go.RowKit
/-- the greatest of a and the first n values of f -/
noncomputable def maxTo (f : Nat → Int) (a : Int) : Nat → Int
  | 0 => a
  | n + 1 => max (maxTo f a n) (f n)
noncomputable def jobF (p : Shop) (j : Nat) : Int := chainF p (p.jobs.getD j [])
noncomputable def boundF (p : Shop) : Int := maxTo (fun m => loadF p m) (maxTo (jobF p) 0 p.jobs.length) p.mach.toNat
theorem jobF_at {p : Shop} {j : Nat} {l : List Step} (h : p.jobs[j]? = some l) : jobF p j = chainF p l := by unfold jobF; rw [List.getD_eq_getElem?_getD, h]; rfl

set_option maxRecDepth 100000 in
theorem bound_any (s : Sh) (w : World) (hS : ShAt w w.heap.size s) (hvB : validShop s.p = true) :
    Calls Try.prog 29 #[.agg #[.int .i64 s.p.op, .int .i64 s.p.cl, .slice s.aH s.p.hol.length s.cH, .int .i64 s.p.mach, .slice s.aS s.p.setup.length s.cS, .slice s.aJ s.p.jobs.length s.cJ]] w fun e w' => e = .returned (.tuple #[.int .i64 (boundF s.p), .int .i64 0]) ∧ Below w.heap.size w w' := by
  have hv := valid_facts hvB
  have hf := hv.fits
  have hjn := hv.jobn
  have hm1 := hv.mach1
  have hm6 := hv.mach6
  have hk := Blk.new w 25 #[.int .i64 s.p.op, .int .i64 s.p.cl, .slice s.aH s.p.hol.length s.cH, .int .i64 s.p.mach, .slice s.aS s.p.setup.length s.cS, .slice s.aJ s.p.jobs.length s.cJ]
  have hB := (Below.refl w.heap.size w).alloc (Nat.le_refl _) (.cells #[.int .i64 s.p.op, .int .i64 s.p.cl, .slice s.aH s.p.hol.length s.cH, .int .i64 s.p.mach, .slice s.aS s.p.setup.length s.cS, .slice s.aJ s.p.jobs.length s.cJ] 25)
  go_enter Try.func29, Try.ntmps29
  go_wp2_with fail
  generalize w.alloc (.cells #[.int .i64 s.p.op, .int .i64 s.p.cl, .slice s.aH s.p.hol.length s.cH, .int .i64 s.p.mach, .slice s.aS s.p.setup.length s.cS, .slice s.aJ s.p.jobs.length s.cJ] 25) = W at *
  have c0 := hk.cell_ 0 rfl
  have c1 := hk.cell_ 1 rfl
  have c2 := hk.cell_ 2 rfl
  have c3 := hk.cell_ 3 rfl
  have c4 := hk.cell_ 4 rfl
  have c5 := hk.cell_ 5 rfl
  go_wp2_with fail
  refine (valid_any s _ (hS.on hB) hf.h1 hf.h2 hf.h3 hf.h4).mono ?_
  rintro e W ⟨rfl, hb⟩
  clear c0 c1 c2 c3 c4 c5
  replace hk := hk.below hb hk.lt
  replace hB := hB.trans (hb.mono hB.size)
  clear hb
  have c0 := hk.cell_ 0 rfl
  have c1 := hk.cell_ 1 rfl
  have c2 := hk.cell_ 2 rfl
  have c3 := hk.cell_ 3 rfl
  have c4 := hk.cell_ 4 rfl
  have c5 := hk.cell_ 5 rfl
  rw [hvB]
  go_wp2_with fail
  clear c0 c1 c2 c3 c4 c5
  go_loopw [4, 13] (fun x y W => ∃ j : Nat, x = .int .i64 (maxTo (jobF s.p) 0 j) ∧ y = .int .i64 j ∧ j ≤ s.p.jobs.length ∧ Blk W w.heap.size 25 #[.int .i64 s.p.op, .int .i64 s.p.cl, .slice s.aH s.p.hol.length s.cH, .int .i64 s.p.mach, .slice s.aS s.p.setup.length s.cS, .slice s.aJ s.p.jobs.length s.cJ] ∧ Below w.heap.size w W) (fun x y _ => s.p.jobs.length - (intOf y).toNat)
  case atStart => exact ⟨0, rfl, rfl, Nat.zero_le _, hk, hB⟩
  case round =>
    clear hk hB
    obtain ⟨W, rfl⟩ : ∃ W : World, W = wr := ⟨_, rfl⟩
    obtain ⟨j, rfl, rfl, hj, hk, hB⟩ := hrel
    have c0 := hk.cell_ 0 rfl
    have c1 := hk.cell_ 1 rfl
    have c2 := hk.cell_ 2 rfl
    have c3 := hk.cell_ 3 rfl
    have c4 := hk.cell_ 4 rfl
    have c5 := hk.cell_ 5 rfl
    by_cases hlt : j < s.p.jobs.length
    · obtain ⟨l, hjl⟩ : ∃ l, s.p.jobs[j]? = some l := ⟨_, List.getElem?_eq_getElem hlt⟩
      have HJ := hide (jobF_at hjl)
      go_wp2_with fail
      refine (chain_any s j l _ (hS.on hB) hv hjl).mono ?_
      rintro e W ⟨rfl, hb⟩
      clear c0 c1 c2 c3 c4 c5
      replace hk := hk.below hb hk.lt
      replace hB := hB.trans (hb.mono hB.size)
      clear hb
      have c0 := hk.cell_ 0 rfl
      have c1 := hk.cell_ 1 rfl
      have c2 := hk.cell_ 2 rfl
      have c3 := hk.cell_ 3 rfl
      have c4 := hk.cell_ 4 rfl
      have c5 := hk.cell_ 5 rfl
      clear hjl
      rw [← HJ.out]
      have HM := hide (show maxTo (jobF s.p) 0 (j + 1) = max (maxTo (jobF s.p) 0 j) (jobF s.p j) from rfl)
      generalize hM1 : maxTo (jobF s.p) 0 j = M at *
      generalize jobF s.p j = V at *
      clear hM1
      by_cases hc : M < V
      all_goals
        go_wp2_with fail
        go_roundw
        case rel => exact ⟨j + 1, by rw [HM.out]; go_num, by go_num, by omega, hk, hB⟩
        case measure => simp [intOf]; omega
    · obtain rfl : j = s.p.jobs.length := by omega
      have HBF : Hid (boundF s.p = maxTo (fun m => loadF s.p m) (maxTo (jobF s.p) 0 s.p.jobs.length) s.p.mach.toNat) := rfl
      generalize maxTo (jobF s.p) 0 s.p.jobs.length = M0 at *
      go_wp2_with fail
      clear c0 c1 c2 c3 c4 c5
      go_loopw [4, 24] (fun x y W => ∃ j : Nat, x = .int .i64 (maxTo (fun m => loadF s.p m) M0 j) ∧ y = .int .i64 j ∧ (j : Int) ≤ s.p.mach ∧ Blk W w.heap.size 25 #[.int .i64 s.p.op, .int .i64 s.p.cl, .slice s.aH s.p.hol.length s.cH, .int .i64 s.p.mach, .slice s.aS s.p.setup.length s.cS, .slice s.aJ s.p.jobs.length s.cJ] ∧ Below w.heap.size w W) (fun x y _ => (s.p.mach - intOf y).toNat)
      case atStart => exact ⟨0, rfl, rfl, by omega, hk, hB⟩
      case round =>
        clear hk hB
        obtain ⟨W, rfl⟩ : ∃ W : World, W = wr := ⟨_, rfl⟩
        obtain ⟨j, rfl, rfl, hj, hk, hB⟩ := hrel
        have c0 := hk.cell_ 0 rfl
        have c1 := hk.cell_ 1 rfl
        have c2 := hk.cell_ 2 rfl
        have c3 := hk.cell_ 3 rfl
        have c4 := hk.cell_ 4 rfl
        have c5 := hk.cell_ 5 rfl
        by_cases hlt : (j : Int) < s.p.mach
        · go_wp2_with fail
          refine (load_any s j _ (hS.on hB) hv).mono ?_
          rintro e W ⟨rfl, hb⟩
          clear c0 c1 c2 c3 c4 c5
          replace hk := hk.below hb hk.lt
          replace hB := hB.trans (hb.mono hB.size)
          clear hb
          have c0 := hk.cell_ 0 rfl
          have c1 := hk.cell_ 1 rfl
          have c2 := hk.cell_ 2 rfl
          have c3 := hk.cell_ 3 rfl
          have c4 := hk.cell_ 4 rfl
          have c5 := hk.cell_ 5 rfl
          have HM := hide (show maxTo (fun m => loadF s.p m) M0 (j + 1) = max (maxTo (fun m => loadF s.p m) M0 j) (loadF s.p j) from rfl)
          generalize hM1 : maxTo (fun m => loadF s.p m) M0 j = M at *
          generalize hV1 : loadF s.p j = V at *
          clear hM1 hV1
          by_cases hc : M < V
          all_goals
            go_wp2_with fail
            go_roundw
            case rel => exact ⟨j + 1, by rw [HM.out]; go_num, by go_num, by omega, hk, hB⟩
            case measure => simp [intOf]; omega
        · have HE := hide (show boundF s.p = maxTo (fun m => loadF s.p m) M0 j by rw [HBF.out]; congr 1; omega)
          clear HBF
          go_wp2_with fail
          go_ret2
          exact ⟨by rw [HE.out]; rfl, hB⟩

set_option maxRecDepth 100000 in
theorem refBound_any (s : Sh) (w : World) (hS : ShAt w w.heap.size s) (hvB : validShop s.p = true) :
    Calls Try.prog 30 #[.agg #[.int .i64 s.p.op, .int .i64 s.p.cl, .slice s.aH s.p.hol.length s.cH, .int .i64 s.p.mach, .slice s.aS s.p.setup.length s.cS, .slice s.aJ s.p.jobs.length s.cJ]] w fun e w' => e = .returned (.int .i64 (boundF s.p)) ∧ Below w.heap.size w w' := by
  have hv := valid_facts hvB
  have hjn := hv.jobn
  have hm1 := hv.mach1
  have hm6 := hv.mach6
  have hk := Blk.new w 25 #[.int .i64 s.p.op, .int .i64 s.p.cl, .slice s.aH s.p.hol.length s.cH, .int .i64 s.p.mach, .slice s.aS s.p.setup.length s.cS, .slice s.aJ s.p.jobs.length s.cJ]
  have hB := (Below.refl w.heap.size w).alloc (Nat.le_refl _) (.cells #[.int .i64 s.p.op, .int .i64 s.p.cl, .slice s.aH s.p.hol.length s.cH, .int .i64 s.p.mach, .slice s.aS s.p.setup.length s.cS, .slice s.aJ s.p.jobs.length s.cJ] 25)
  go_enter Try.func30, Try.ntmps30
  go_wp2_with fail
  generalize w.alloc (.cells #[.int .i64 s.p.op, .int .i64 s.p.cl, .slice s.aH s.p.hol.length s.cH, .int .i64 s.p.mach, .slice s.aS s.p.setup.length s.cS, .slice s.aJ s.p.jobs.length s.cJ] 25) = W at *
  go_loopw [3, 4] (fun x y W => ∃ j : Nat, x = .int .i64 (maxTo (jobF s.p) 0 j) ∧ y = .int .i64 j ∧ j ≤ s.p.jobs.length ∧ Blk W w.heap.size 25 #[.int .i64 s.p.op, .int .i64 s.p.cl, .slice s.aH s.p.hol.length s.cH, .int .i64 s.p.mach, .slice s.aS s.p.setup.length s.cS, .slice s.aJ s.p.jobs.length s.cJ] ∧ Below w.heap.size w W) (fun x y _ => s.p.jobs.length - (intOf y).toNat)
  case atStart => exact ⟨0, rfl, rfl, Nat.zero_le _, hk, hB⟩
  case round =>
    clear hk hB
    obtain ⟨W, rfl⟩ : ∃ W : World, W = wr := ⟨_, rfl⟩
    obtain ⟨j, rfl, rfl, hj, hk, hB⟩ := hrel
    have c0 := hk.cell_ 0 rfl
    have c1 := hk.cell_ 1 rfl
    have c2 := hk.cell_ 2 rfl
    have c3 := hk.cell_ 3 rfl
    have c4 := hk.cell_ 4 rfl
    have c5 := hk.cell_ 5 rfl
    by_cases hlt : j < s.p.jobs.length
    · obtain ⟨l, hjl⟩ : ∃ l, s.p.jobs[j]? = some l := ⟨_, List.getElem?_eq_getElem hlt⟩
      have HJ := hide (jobF_at hjl)
      go_wp2_with fail
      refine (refChain_any s j l _ (hS.on hB) hv hjl).mono ?_
      rintro e W ⟨rfl, hb⟩
      clear c0 c1 c2 c3 c4 c5
      replace hk := hk.below hb hk.lt
      replace hB := hB.trans (hb.mono hB.size)
      clear hb
      have c0 := hk.cell_ 0 rfl
      have c1 := hk.cell_ 1 rfl
      have c2 := hk.cell_ 2 rfl
      have c3 := hk.cell_ 3 rfl
      have c4 := hk.cell_ 4 rfl
      have c5 := hk.cell_ 5 rfl
      clear hjl
      rw [← HJ.out]
      have HM := hide (show maxTo (jobF s.p) 0 (j + 1) = max (maxTo (jobF s.p) 0 j) (jobF s.p j) from rfl)
      generalize hM1 : maxTo (jobF s.p) 0 j = M at *
      generalize jobF s.p j = V at *
      clear hM1
      by_cases hc : M < V
      all_goals
        go_wp2_with fail
        go_roundw
        case rel => exact ⟨j + 1, by rw [HM.out]; go_num, by go_num, by omega, hk, hB⟩
        case measure => simp [intOf]; omega
    · obtain rfl : j = s.p.jobs.length := by omega
      have HBF : Hid (boundF s.p = maxTo (fun m => loadF s.p m) (maxTo (jobF s.p) 0 s.p.jobs.length) s.p.mach.toNat) := rfl
      generalize maxTo (jobF s.p) 0 s.p.jobs.length = M0 at *
      go_wp2_with fail
      clear c0 c1 c2 c3 c4 c5
      go_loopw [3, 5] (fun x y W => ∃ j : Nat, x = .int .i64 (maxTo (fun m => loadF s.p m) M0 j) ∧ y = .int .i64 j ∧ (j : Int) ≤ s.p.mach ∧ Blk W w.heap.size 25 #[.int .i64 s.p.op, .int .i64 s.p.cl, .slice s.aH s.p.hol.length s.cH, .int .i64 s.p.mach, .slice s.aS s.p.setup.length s.cS, .slice s.aJ s.p.jobs.length s.cJ] ∧ Below w.heap.size w W) (fun x y _ => (s.p.mach - intOf y).toNat)
      case atStart => exact ⟨0, rfl, rfl, by omega, hk, hB⟩
      case round =>
        clear hk hB
        obtain ⟨W, rfl⟩ : ∃ W : World, W = wr := ⟨_, rfl⟩
        obtain ⟨j, rfl, rfl, hj, hk, hB⟩ := hrel
        have c0 := hk.cell_ 0 rfl
        have c1 := hk.cell_ 1 rfl
        have c2 := hk.cell_ 2 rfl
        have c3 := hk.cell_ 3 rfl
        have c4 := hk.cell_ 4 rfl
        have c5 := hk.cell_ 5 rfl
        by_cases hlt : (j : Int) < s.p.mach
        · go_wp2_with fail
          refine (refLoad_any s j _ (hS.on hB) hv).mono ?_
          rintro e W ⟨rfl, hb⟩
          clear c0 c1 c2 c3 c4 c5
          replace hk := hk.below hb hk.lt
          replace hB := hB.trans (hb.mono hB.size)
          clear hb
          have c0 := hk.cell_ 0 rfl
          have c1 := hk.cell_ 1 rfl
          have c2 := hk.cell_ 2 rfl
          have c3 := hk.cell_ 3 rfl
          have c4 := hk.cell_ 4 rfl
          have c5 := hk.cell_ 5 rfl
          have HM := hide (show maxTo (fun m => loadF s.p m) M0 (j + 1) = max (maxTo (fun m => loadF s.p m) M0 j) (loadF s.p j) from rfl)
          generalize hM1 : maxTo (fun m => loadF s.p m) M0 j = M at *
          generalize hV1 : loadF s.p j = V at *
          clear hM1 hV1
          by_cases hc : M < V
          all_goals
            go_wp2_with fail
            go_roundw
            case rel => exact ⟨j + 1, by rw [HM.out]; go_num, by go_num, by omega, hk, hB⟩
            case measure => simp [intOf]; omega
        · have HE := hide (show boundF s.p = maxTo (fun m => loadF s.p m) M0 j by rw [HBF.out]; congr 1; omega)
          clear HBF
          go_wp2_with fail
          go_ret
          exact ⟨ret_int (by rw [HE.out]), hB⟩

noncomputable def chainV (p : Shop) (j : Int) : Value := if inB 0 j (p.jobs.length - 1) then .tuple #[.int .i64 (jobF p j.toNat), .int .i64 0] else .tuple #[.int .i64 0, .int .i64 2]
noncomputable def loadV (p : Shop) (m : Int) : Value := if inB 0 m (p.mach - 1) then .tuple #[.int .i64 (loadF p m), .int .i64 0] else .tuple #[.int .i64 0, .int .i64 2]
theorem chainV_no {p : Shop} {j : Int} (h : inB 0 j (p.jobs.length - 1) = false) : chainV p j = .tuple #[.int .i64 0, .int .i64 2] := by unfold chainV; rw [h]; rfl
theorem chainV_ok {p : Shop} {j : Int} (h : inB 0 j (p.jobs.length - 1) = true) : chainV p j = .tuple #[.int .i64 (jobF p j.toNat), .int .i64 0] := by unfold chainV; rw [h]; rfl
theorem loadV_no {p : Shop} {m : Int} (h : inB 0 m (p.mach - 1) = false) : loadV p m = .tuple #[.int .i64 0, .int .i64 2] := by unfold loadV; rw [h]; rfl
theorem loadV_ok {p : Shop} {m : Int} (h : inB 0 m (p.mach - 1) = true) : loadV p m = .tuple #[.int .i64 (loadF p m), .int .i64 0] := by unfold loadV; rw [h]; rfl

theorem apiChain_any (s : Sh) (j : Int) (w : World) (hS : ShAt w w.heap.size s) (hvB : validShop s.p = true) :
    Calls Try.prog 27 #[.agg #[.int .i64 s.p.op, .int .i64 s.p.cl, .slice s.aH s.p.hol.length s.cH, .int .i64 s.p.mach, .slice s.aS s.p.setup.length s.cS, .slice s.aJ s.p.jobs.length s.cJ], .int .i64 j] w fun e w' => e = .returned (chainV s.p j) ∧ Below w.heap.size w w' := by
  have hv := valid_facts hvB
  have hf := hv.fits
  have hjn := hv.jobn
  have hk := Blk.new w 25 #[.int .i64 s.p.op, .int .i64 s.p.cl, .slice s.aH s.p.hol.length s.cH, .int .i64 s.p.mach, .slice s.aS s.p.setup.length s.cS, .slice s.aJ s.p.jobs.length s.cJ]
  have hB := (Below.refl w.heap.size w).alloc (Nat.le_refl _) (.cells #[.int .i64 s.p.op, .int .i64 s.p.cl, .slice s.aH s.p.hol.length s.cH, .int .i64 s.p.mach, .slice s.aS s.p.setup.length s.cS, .slice s.aJ s.p.jobs.length s.cJ] 25)
  go_enter Try.func27, Try.ntmps27
  go_wp2_with fail
  generalize w.alloc (.cells #[.int .i64 s.p.op, .int .i64 s.p.cl, .slice s.aH s.p.hol.length s.cH, .int .i64 s.p.mach, .slice s.aS s.p.setup.length s.cS, .slice s.aJ s.p.jobs.length s.cJ] 25) = W at *
  have c0 := hk.cell_ 0 rfl
  have c1 := hk.cell_ 1 rfl
  have c2 := hk.cell_ 2 rfl
  have c3 := hk.cell_ 3 rfl
  have c4 := hk.cell_ 4 rfl
  have c5 := hk.cell_ 5 rfl
  go_wp2_with fail
  refine (valid_any s _ (hS.on hB) hf.h1 hf.h2 hf.h3 hf.h4).mono ?_
  rintro e W ⟨rfl, hb⟩
  clear c0 c1 c2 c3 c4 c5
  replace hk := hk.below hb hk.lt
  replace hB := hB.trans (hb.mono hB.size)
  clear hb
  have c0 := hk.cell_ 0 rfl
  have c1 := hk.cell_ 1 rfl
  have c2 := hk.cell_ 2 rfl
  have c3 := hk.cell_ 3 rfl
  have c4 := hk.cell_ 4 rfl
  have c5 := hk.cell_ 5 rfl
  rw [hvB]
  cases ht : inB 0 j (s.p.jobs.length - 1)
  · go_wp2_with (go_at_call 50; refine (within_any _ _ _ _).mono ?_; rintro e w' ⟨rfl, rfl⟩)
    go_ret2
    exact ⟨ret_eq (chainV_no ht).symm, hB⟩
  · obtain ⟨t1, t2⟩ := inB_iff.1 ht
    go_wp2_with (go_at_call 50; refine (within_any _ _ _ _).mono ?_; rintro e w' ⟨rfl, rfl⟩)
    have HE := hide (chainV_ok ht)
    obtain ⟨n, rfl⟩ : ∃ n : Nat, j = n := ⟨j.toNat, by omega⟩
    obtain ⟨l, hjl⟩ : ∃ l, s.p.jobs[n]? = some l := ⟨_, List.getElem?_eq_getElem (by omega)⟩
    have HJ := hide (jobF_at hjl)
    refine (chain_any s n l _ (hS.on hB) hv hjl).mono ?_
    rintro e W ⟨rfl, hb⟩
    clear c0 c1 c2 c3 c4 c5
    replace hk := hk.below hb hk.lt
    replace hB := hB.trans (hb.mono hB.size)
    clear hb
    have c0 := hk.cell_ 0 rfl
    have c1 := hk.cell_ 1 rfl
    have c2 := hk.cell_ 2 rfl
    have c3 := hk.cell_ 3 rfl
    have c4 := hk.cell_ 4 rfl
    have c5 := hk.cell_ 5 rfl
    clear hjl
    rw [← HJ.out]
    go_wp2_with fail
    go_ret2
    exact ⟨ret_eq HE.out.symm, hB⟩

theorem apiLoad_any (s : Sh) (m : Int) (w : World) (hS : ShAt w w.heap.size s) (hvB : validShop s.p = true) :
    Calls Try.prog 28 #[.agg #[.int .i64 s.p.op, .int .i64 s.p.cl, .slice s.aH s.p.hol.length s.cH, .int .i64 s.p.mach, .slice s.aS s.p.setup.length s.cS, .slice s.aJ s.p.jobs.length s.cJ], .int .i64 m] w fun e w' => e = .returned (loadV s.p m) ∧ Below w.heap.size w w' := by
  have hv := valid_facts hvB
  have hf := hv.fits
  have hm1 := hv.mach1
  have hm6 := hv.mach6
  have hk := Blk.new w 25 #[.int .i64 s.p.op, .int .i64 s.p.cl, .slice s.aH s.p.hol.length s.cH, .int .i64 s.p.mach, .slice s.aS s.p.setup.length s.cS, .slice s.aJ s.p.jobs.length s.cJ]
  have hB := (Below.refl w.heap.size w).alloc (Nat.le_refl _) (.cells #[.int .i64 s.p.op, .int .i64 s.p.cl, .slice s.aH s.p.hol.length s.cH, .int .i64 s.p.mach, .slice s.aS s.p.setup.length s.cS, .slice s.aJ s.p.jobs.length s.cJ] 25)
  go_enter Try.func28, Try.ntmps28
  go_wp2_with fail
  generalize w.alloc (.cells #[.int .i64 s.p.op, .int .i64 s.p.cl, .slice s.aH s.p.hol.length s.cH, .int .i64 s.p.mach, .slice s.aS s.p.setup.length s.cS, .slice s.aJ s.p.jobs.length s.cJ] 25) = W at *
  have c0 := hk.cell_ 0 rfl
  have c1 := hk.cell_ 1 rfl
  have c2 := hk.cell_ 2 rfl
  have c3 := hk.cell_ 3 rfl
  have c4 := hk.cell_ 4 rfl
  have c5 := hk.cell_ 5 rfl
  go_wp2_with fail
  refine (valid_any s _ (hS.on hB) hf.h1 hf.h2 hf.h3 hf.h4).mono ?_
  rintro e W ⟨rfl, hb⟩
  clear c0 c1 c2 c3 c4 c5
  replace hk := hk.below hb hk.lt
  replace hB := hB.trans (hb.mono hB.size)
  clear hb
  have c0 := hk.cell_ 0 rfl
  have c1 := hk.cell_ 1 rfl
  have c2 := hk.cell_ 2 rfl
  have c3 := hk.cell_ 3 rfl
  have c4 := hk.cell_ 4 rfl
  have c5 := hk.cell_ 5 rfl
  rw [hvB]
  cases ht : inB 0 m (s.p.mach - 1)
  · go_wp2_with (go_at_call 50; refine (within_any _ _ _ _).mono ?_; rintro e w' ⟨rfl, rfl⟩)
    go_ret2
    exact ⟨ret_eq (loadV_no ht).symm, hB⟩
  · go_wp2_with (go_at_call 50; refine (within_any _ _ _ _).mono ?_; rintro e w' ⟨rfl, rfl⟩)
    refine (load_any s m _ (hS.on hB) hv).mono ?_
    rintro e W ⟨rfl, hb⟩
    clear c0 c1 c2 c3 c4 c5
    replace hk := hk.below hb hk.lt
    replace hB := hB.trans (hb.mono hB.size)
    clear hb
    have c0 := hk.cell_ 0 rfl
    have c1 := hk.cell_ 1 rfl
    have c2 := hk.cell_ 2 rfl
    have c3 := hk.cell_ 3 rfl
    have c4 := hk.cell_ 4 rfl
    have c5 := hk.cell_ 5 rfl
    go_wp2_with fail
    go_ret2
    exact ⟨ret_eq (loadV_ok ht).symm, hB⟩
end Go.Proofs.Ytcpnfcnobnjhdaa
