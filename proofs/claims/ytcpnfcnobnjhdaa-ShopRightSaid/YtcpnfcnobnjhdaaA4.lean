/- Parts of the proofs of this seat: Chains, Plan, Judge. Each part says what it proves; no condition beyond those stated there. -/
import Derived.Test.YtcpnfcnobnjhdaaA3

/- Bounds and the law ShopChains: the walks. -/
namespace Go.Proofs.Ytcpnfcnobnjhdaa
open Go.RowKit
/-- the greatest of a and the first n values of f -/
noncomputable def maxTo (f : Nat → Int) (a : Int) : Nat → Int
  | 0 => a
  | n + 1 => max (maxTo f a n) (f n)
noncomputable def jobF (p : Shop) (j : Nat) : Int := chainF p (p.jobs.getD j [])
noncomputable def boundF (p : Shop) : Int := maxTo (fun m => loadF p m) (maxTo (jobF p) 0 p.jobs.length) p.mach.toNat
theorem jobF_at {p : Shop} {j : Nat} {l : List Step} (h : p.jobs[j]? = some l) : jobF p j = chainF p l := by unfold jobF; rw [List.getD_eq_getElem?_getD, h]; rfl

set_option maxRecDepth 100000 in
theorem bound_any (s : Sh) (w : World) (hS : ShAt w w.heap.size s) (hvB : validShop s.p = true) :
    Calls Try.prog 29 #[.agg #[.int .i64 s.p.op, .int .i64 s.p.cl, .slice s.aH s.p.hol.length s.cH, .int .i64 s.p.mach, .slice s.aS s.p.setup.length s.cS, .slice s.aJ s.p.jobs.length s.cJ]] w fun e w' => e = .returned (.tuple #[.int .i64 (boundF s.p), .int .i64 0]) ∧ Below w.heap.size w w' := by
  have hv := valid_facts hvB
  have hf := hv.fits
  have hjn := hv.jobn
  have hm1 := hv.mach1
  have hm6 := hv.mach6
  have hk := Blk.new w 25 #[.int .i64 s.p.op, .int .i64 s.p.cl, .slice s.aH s.p.hol.length s.cH, .int .i64 s.p.mach, .slice s.aS s.p.setup.length s.cS, .slice s.aJ s.p.jobs.length s.cJ]
  have hB := (Below.refl w.heap.size w).alloc (Nat.le_refl _) (.cells #[.int .i64 s.p.op, .int .i64 s.p.cl, .slice s.aH s.p.hol.length s.cH, .int .i64 s.p.mach, .slice s.aS s.p.setup.length s.cS, .slice s.aJ s.p.jobs.length s.cJ] 25)
  go_enter Try.func29, Try.ntmps29
  go_wp2_with fail
  generalize w.alloc (.cells #[.int .i64 s.p.op, .int .i64 s.p.cl, .slice s.aH s.p.hol.length s.cH, .int .i64 s.p.mach, .slice s.aS s.p.setup.length s.cS, .slice s.aJ s.p.jobs.length s.cJ] 25) = W at *
  have c0 := hk.cell_ 0 rfl
  have c1 := hk.cell_ 1 rfl
  have c2 := hk.cell_ 2 rfl
  have c3 := hk.cell_ 3 rfl
  have c4 := hk.cell_ 4 rfl
  have c5 := hk.cell_ 5 rfl
  go_wp2_with fail
  refine (valid_any s _ (hS.on hB) hf.h1 hf.h2 hf.h3 hf.h4).mono ?_
  rintro e W ⟨rfl, hb⟩
  clear c0 c1 c2 c3 c4 c5
  replace hk := hk.below hb hk.lt
  replace hB := hB.trans (hb.mono hB.size)
  clear hb
  have c0 := hk.cell_ 0 rfl
  have c1 := hk.cell_ 1 rfl
  have c2 := hk.cell_ 2 rfl
  have c3 := hk.cell_ 3 rfl
  have c4 := hk.cell_ 4 rfl
  have c5 := hk.cell_ 5 rfl
  rw [hvB]
  go_wp2_with fail
  clear c0 c1 c2 c3 c4 c5
  go_loopw [4, 13] (fun x y W => ∃ j : Nat, x = .int .i64 (maxTo (jobF s.p) 0 j) ∧ y = .int .i64 j ∧ j ≤ s.p.jobs.length ∧ Blk W w.heap.size 25 #[.int .i64 s.p.op, .int .i64 s.p.cl, .slice s.aH s.p.hol.length s.cH, .int .i64 s.p.mach, .slice s.aS s.p.setup.length s.cS, .slice s.aJ s.p.jobs.length s.cJ] ∧ Below w.heap.size w W) (fun x y _ => s.p.jobs.length - (intOf y).toNat)
  case atStart => exact ⟨0, rfl, rfl, Nat.zero_le _, hk, hB⟩
  case round =>
    clear hk hB
    obtain ⟨W, rfl⟩ : ∃ W : World, W = wr := ⟨_, rfl⟩
    obtain ⟨j, rfl, rfl, hj, hk, hB⟩ := hrel
    have c0 := hk.cell_ 0 rfl
    have c1 := hk.cell_ 1 rfl
    have c2 := hk.cell_ 2 rfl
    have c3 := hk.cell_ 3 rfl
    have c4 := hk.cell_ 4 rfl
    have c5 := hk.cell_ 5 rfl
    by_cases hlt : j < s.p.jobs.length
    · obtain ⟨l, hjl⟩ : ∃ l, s.p.jobs[j]? = some l := ⟨_, List.getElem?_eq_getElem hlt⟩
      have HJ := hide (jobF_at hjl)
      go_wp2_with fail
      refine (chain_any s j l _ (hS.on hB) hv hjl).mono ?_
      rintro e W ⟨rfl, hb⟩
      clear c0 c1 c2 c3 c4 c5
      replace hk := hk.below hb hk.lt
      replace hB := hB.trans (hb.mono hB.size)
      clear hb
      have c0 := hk.cell_ 0 rfl
      have c1 := hk.cell_ 1 rfl
      have c2 := hk.cell_ 2 rfl
      have c3 := hk.cell_ 3 rfl
      have c4 := hk.cell_ 4 rfl
      have c5 := hk.cell_ 5 rfl
      clear hjl
      rw [← HJ.out]
      have HM := hide (show maxTo (jobF s.p) 0 (j + 1) = max (maxTo (jobF s.p) 0 j) (jobF s.p j) from rfl)
      generalize hM1 : maxTo (jobF s.p) 0 j = M at *
      generalize jobF s.p j = V at *
      clear hM1
      by_cases hc : M < V
      all_goals
        go_wp2_with fail
        go_roundw
        case rel => exact ⟨j + 1, by rw [HM.out]; go_num, by go_num, by omega, hk, hB⟩
        case measure => simp [intOf]; omega
    · obtain rfl : j = s.p.jobs.length := by omega
      have HBF : Hid (boundF s.p = maxTo (fun m => loadF s.p m) (maxTo (jobF s.p) 0 s.p.jobs.length) s.p.mach.toNat) := rfl
      generalize maxTo (jobF s.p) 0 s.p.jobs.length = M0 at *
      go_wp2_with fail
      clear c0 c1 c2 c3 c4 c5
      go_loopw [4, 24] (fun x y W => ∃ j : Nat, x = .int .i64 (maxTo (fun m => loadF s.p m) M0 j) ∧ y = .int .i64 j ∧ (j : Int) ≤ s.p.mach ∧ Blk W w.heap.size 25 #[.int .i64 s.p.op, .int .i64 s.p.cl, .slice s.aH s.p.hol.length s.cH, .int .i64 s.p.mach, .slice s.aS s.p.setup.length s.cS, .slice s.aJ s.p.jobs.length s.cJ] ∧ Below w.heap.size w W) (fun x y _ => (s.p.mach - intOf y).toNat)
      case atStart => exact ⟨0, rfl, rfl, by omega, hk, hB⟩
      case round =>
        clear hk hB
        obtain ⟨W, rfl⟩ : ∃ W : World, W = wr := ⟨_, rfl⟩
        obtain ⟨j, rfl, rfl, hj, hk, hB⟩ := hrel
        have c0 := hk.cell_ 0 rfl
        have c1 := hk.cell_ 1 rfl
        have c2 := hk.cell_ 2 rfl
        have c3 := hk.cell_ 3 rfl
        have c4 := hk.cell_ 4 rfl
        have c5 := hk.cell_ 5 rfl
        by_cases hlt : (j : Int) < s.p.mach
        · go_wp2_with fail
          refine (load_any s j _ (hS.on hB) hv).mono ?_
          rintro e W ⟨rfl, hb⟩
          clear c0 c1 c2 c3 c4 c5
          replace hk := hk.below hb hk.lt
          replace hB := hB.trans (hb.mono hB.size)
          clear hb
          have c0 := hk.cell_ 0 rfl
          have c1 := hk.cell_ 1 rfl
          have c2 := hk.cell_ 2 rfl
          have c3 := hk.cell_ 3 rfl
          have c4 := hk.cell_ 4 rfl
          have c5 := hk.cell_ 5 rfl
          have HM := hide (show maxTo (fun m => loadF s.p m) M0 (j + 1) = max (maxTo (fun m => loadF s.p m) M0 j) (loadF s.p j) from rfl)
          generalize hM1 : maxTo (fun m => loadF s.p m) M0 j = M at *
          generalize hV1 : loadF s.p j = V at *
          clear hM1 hV1
          by_cases hc : M < V
          all_goals
            go_wp2_with fail
            go_roundw
            case rel => exact ⟨j + 1, by rw [HM.out]; go_num, by go_num, by omega, hk, hB⟩
            case measure => simp [intOf]; omega
        · have HE := hide (show boundF s.p = maxTo (fun m => loadF s.p m) M0 j by rw [HBF.out]; congr 1; omega)
          clear HBF
          go_wp2_with fail
          go_ret2
          exact ⟨by rw [HE.out]; rfl, hB⟩

set_option maxRecDepth 100000 in
theorem refBound_any (s : Sh) (w : World) (hS : ShAt w w.heap.size s) (hvB : validShop s.p = true) :
    Calls Try.prog 30 #[.agg #[.int .i64 s.p.op, .int .i64 s.p.cl, .slice s.aH s.p.hol.length s.cH, .int .i64 s.p.mach, .slice s.aS s.p.setup.length s.cS, .slice s.aJ s.p.jobs.length s.cJ]] w fun e w' => e = .returned (.int .i64 (boundF s.p)) ∧ Below w.heap.size w w' := by
  have hv := valid_facts hvB
  have hjn := hv.jobn
  have hm1 := hv.mach1
  have hm6 := hv.mach6
  have hk := Blk.new w 25 #[.int .i64 s.p.op, .int .i64 s.p.cl, .slice s.aH s.p.hol.length s.cH, .int .i64 s.p.mach, .slice s.aS s.p.setup.length s.cS, .slice s.aJ s.p.jobs.length s.cJ]
  have hB := (Below.refl w.heap.size w).alloc (Nat.le_refl _) (.cells #[.int .i64 s.p.op, .int .i64 s.p.cl, .slice s.aH s.p.hol.length s.cH, .int .i64 s.p.mach, .slice s.aS s.p.setup.length s.cS, .slice s.aJ s.p.jobs.length s.cJ] 25)
  go_enter Try.func30, Try.ntmps30
  go_wp2_with fail
  generalize w.alloc (.cells #[.int .i64 s.p.op, .int .i64 s.p.cl, .slice s.aH s.p.hol.length s.cH, .int .i64 s.p.mach, .slice s.aS s.p.setup.length s.cS, .slice s.aJ s.p.jobs.length s.cJ] 25) = W at *
  go_loopw [3, 4] (fun x y W => ∃ j : Nat, x = .int .i64 (maxTo (jobF s.p) 0 j) ∧ y = .int .i64 j ∧ j ≤ s.p.jobs.length ∧ Blk W w.heap.size 25 #[.int .i64 s.p.op, .int .i64 s.p.cl, .slice s.aH s.p.hol.length s.cH, .int .i64 s.p.mach, .slice s.aS s.p.setup.length s.cS, .slice s.aJ s.p.jobs.length s.cJ] ∧ Below w.heap.size w W) (fun x y _ => s.p.jobs.length - (intOf y).toNat)
  case atStart => exact ⟨0, rfl, rfl, Nat.zero_le _, hk, hB⟩
  case round =>
    clear hk hB
    obtain ⟨W, rfl⟩ : ∃ W : World, W = wr := ⟨_, rfl⟩
    obtain ⟨j, rfl, rfl, hj, hk, hB⟩ := hrel
    have c0 := hk.cell_ 0 rfl
    have c1 := hk.cell_ 1 rfl
    have c2 := hk.cell_ 2 rfl
    have c3 := hk.cell_ 3 rfl
    have c4 := hk.cell_ 4 rfl
    have c5 := hk.cell_ 5 rfl
    by_cases hlt : j < s.p.jobs.length
    · obtain ⟨l, hjl⟩ : ∃ l, s.p.jobs[j]? = some l := ⟨_, List.getElem?_eq_getElem hlt⟩
      have HJ := hide (jobF_at hjl)
      go_wp2_with fail
      refine (refChain_any s j l _ (hS.on hB) hv hjl).mono ?_
      rintro e W ⟨rfl, hb⟩
      clear c0 c1 c2 c3 c4 c5
      replace hk := hk.below hb hk.lt
      replace hB := hB.trans (hb.mono hB.size)
      clear hb
      have c0 := hk.cell_ 0 rfl
      have c1 := hk.cell_ 1 rfl
      have c2 := hk.cell_ 2 rfl
      have c3 := hk.cell_ 3 rfl
      have c4 := hk.cell_ 4 rfl
      have c5 := hk.cell_ 5 rfl
      clear hjl
      rw [← HJ.out]
      have HM := hide (show maxTo (jobF s.p) 0 (j + 1) = max (maxTo (jobF s.p) 0 j) (jobF s.p j) from rfl)
      generalize hM1 : maxTo (jobF s.p) 0 j = M at *
      generalize jobF s.p j = V at *
      clear hM1
      by_cases hc : M < V
      all_goals
        go_wp2_with fail
        go_roundw
        case rel => exact ⟨j + 1, by rw [HM.out]; go_num, by go_num, by omega, hk, hB⟩
        case measure => simp [intOf]; omega
    · obtain rfl : j = s.p.jobs.length := by omega
      have HBF : Hid (boundF s.p = maxTo (fun m => loadF s.p m) (maxTo (jobF s.p) 0 s.p.jobs.length) s.p.mach.toNat) := rfl
      generalize maxTo (jobF s.p) 0 s.p.jobs.length = M0 at *
      go_wp2_with fail
      clear c0 c1 c2 c3 c4 c5
      go_loopw [3, 5] (fun x y W => ∃ j : Nat, x = .int .i64 (maxTo (fun m => loadF s.p m) M0 j) ∧ y = .int .i64 j ∧ (j : Int) ≤ s.p.mach ∧ Blk W w.heap.size 25 #[.int .i64 s.p.op, .int .i64 s.p.cl, .slice s.aH s.p.hol.length s.cH, .int .i64 s.p.mach, .slice s.aS s.p.setup.length s.cS, .slice s.aJ s.p.jobs.length s.cJ] ∧ Below w.heap.size w W) (fun x y _ => (s.p.mach - intOf y).toNat)
      case atStart => exact ⟨0, rfl, rfl, by omega, hk, hB⟩
      case round =>
        clear hk hB
        obtain ⟨W, rfl⟩ : ∃ W : World, W = wr := ⟨_, rfl⟩
        obtain ⟨j, rfl, rfl, hj, hk, hB⟩ := hrel
        have c0 := hk.cell_ 0 rfl
        have c1 := hk.cell_ 1 rfl
        have c2 := hk.cell_ 2 rfl
        have c3 := hk.cell_ 3 rfl
        have c4 := hk.cell_ 4 rfl
        have c5 := hk.cell_ 5 rfl
        by_cases hlt : (j : Int) < s.p.mach
        · go_wp2_with fail
          refine (refLoad_any s j _ (hS.on hB) hv).mono ?_
          rintro e W ⟨rfl, hb⟩
          clear c0 c1 c2 c3 c4 c5
          replace hk := hk.below hb hk.lt
          replace hB := hB.trans (hb.mono hB.size)
          clear hb
          have c0 := hk.cell_ 0 rfl
          have c1 := hk.cell_ 1 rfl
          have c2 := hk.cell_ 2 rfl
          have c3 := hk.cell_ 3 rfl
          have c4 := hk.cell_ 4 rfl
          have c5 := hk.cell_ 5 rfl
          have HM := hide (show maxTo (fun m => loadF s.p m) M0 (j + 1) = max (maxTo (fun m => loadF s.p m) M0 j) (loadF s.p j) from rfl)
          generalize hM1 : maxTo (fun m => loadF s.p m) M0 j = M at *
          generalize hV1 : loadF s.p j = V at *
          clear hM1 hV1
          by_cases hc : M < V
          all_goals
            go_wp2_with fail
            go_roundw
            case rel => exact ⟨j + 1, by rw [HM.out]; go_num, by go_num, by omega, hk, hB⟩
            case measure => simp [intOf]; omega
        · have HE := hide (show boundF s.p = maxTo (fun m => loadF s.p m) M0 j by rw [HBF.out]; congr 1; omega)
          clear HBF
          go_wp2_with fail
          go_ret
          exact ⟨ret_int (by rw [HE.out]), hB⟩

noncomputable def chainV (p : Shop) (j : Int) : Value := if inB 0 j (p.jobs.length - 1) then .tuple #[.int .i64 (jobF p j.toNat), .int .i64 0] else .tuple #[.int .i64 0, .int .i64 2]
noncomputable def loadV (p : Shop) (m : Int) : Value := if inB 0 m (p.mach - 1) then .tuple #[.int .i64 (loadF p m), .int .i64 0] else .tuple #[.int .i64 0, .int .i64 2]
theorem chainV_no {p : Shop} {j : Int} (h : inB 0 j (p.jobs.length - 1) = false) : chainV p j = .tuple #[.int .i64 0, .int .i64 2] := by unfold chainV; rw [h]; rfl
theorem chainV_ok {p : Shop} {j : Int} (h : inB 0 j (p.jobs.length - 1) = true) : chainV p j = .tuple #[.int .i64 (jobF p j.toNat), .int .i64 0] := by unfold chainV; rw [h]; rfl
theorem loadV_no {p : Shop} {m : Int} (h : inB 0 m (p.mach - 1) = false) : loadV p m = .tuple #[.int .i64 0, .int .i64 2] := by unfold loadV; rw [h]; rfl
theorem loadV_ok {p : Shop} {m : Int} (h : inB 0 m (p.mach - 1) = true) : loadV p m = .tuple #[.int .i64 (loadF p m), .int .i64 0] := by unfold loadV; rw [h]; rfl

theorem apiChain_any (s : Sh) (j : Int) (w : World) (hS : ShAt w w.heap.size s) (hvB : validShop s.p = true) :
    Calls Try.prog 27 #[.agg #[.int .i64 s.p.op, .int .i64 s.p.cl, .slice s.aH s.p.hol.length s.cH, .int .i64 s.p.mach, .slice s.aS s.p.setup.length s.cS, .slice s.aJ s.p.jobs.length s.cJ], .int .i64 j] w fun e w' => e = .returned (chainV s.p j) ∧ Below w.heap.size w w' := by
  have hv := valid_facts hvB
  have hf := hv.fits
  have hjn := hv.jobn
  have hk := Blk.new w 25 #[.int .i64 s.p.op, .int .i64 s.p.cl, .slice s.aH s.p.hol.length s.cH, .int .i64 s.p.mach, .slice s.aS s.p.setup.length s.cS, .slice s.aJ s.p.jobs.length s.cJ]
  have hB := (Below.refl w.heap.size w).alloc (Nat.le_refl _) (.cells #[.int .i64 s.p.op, .int .i64 s.p.cl, .slice s.aH s.p.hol.length s.cH, .int .i64 s.p.mach, .slice s.aS s.p.setup.length s.cS, .slice s.aJ s.p.jobs.length s.cJ] 25)
  go_enter Try.func27, Try.ntmps27
  go_wp2_with fail
  generalize w.alloc (.cells #[.int .i64 s.p.op, .int .i64 s.p.cl, .slice s.aH s.p.hol.length s.cH, .int .i64 s.p.mach, .slice s.aS s.p.setup.length s.cS, .slice s.aJ s.p.jobs.length s.cJ] 25) = W at *
  have c0 := hk.cell_ 0 rfl
  have c1 := hk.cell_ 1 rfl
  have c2 := hk.cell_ 2 rfl
  have c3 := hk.cell_ 3 rfl
  have c4 := hk.cell_ 4 rfl
  have c5 := hk.cell_ 5 rfl
  go_wp2_with fail
  refine (valid_any s _ (hS.on hB) hf.h1 hf.h2 hf.h3 hf.h4).mono ?_
  rintro e W ⟨rfl, hb⟩
  clear c0 c1 c2 c3 c4 c5
  replace hk := hk.below hb hk.lt
  replace hB := hB.trans (hb.mono hB.size)
  clear hb
  have c0 := hk.cell_ 0 rfl
  have c1 := hk.cell_ 1 rfl
  have c2 := hk.cell_ 2 rfl
  have c3 := hk.cell_ 3 rfl
  have c4 := hk.cell_ 4 rfl
  have c5 := hk.cell_ 5 rfl
  rw [hvB]
  cases ht : inB 0 j (s.p.jobs.length - 1)
  · go_wp2_with (go_at_call 50; refine (within_any _ _ _ _).mono ?_; rintro e w' ⟨rfl, rfl⟩)
    go_ret2
    exact ⟨ret_eq (chainV_no ht).symm, hB⟩
  · obtain ⟨t1, t2⟩ := inB_iff.1 ht
    go_wp2_with (go_at_call 50; refine (within_any _ _ _ _).mono ?_; rintro e w' ⟨rfl, rfl⟩)
    have HE := hide (chainV_ok ht)
    obtain ⟨n, rfl⟩ : ∃ n : Nat, j = n := ⟨j.toNat, by omega⟩
    obtain ⟨l, hjl⟩ : ∃ l, s.p.jobs[n]? = some l := ⟨_, List.getElem?_eq_getElem (by omega)⟩
    have HJ := hide (jobF_at hjl)
    refine (chain_any s n l _ (hS.on hB) hv hjl).mono ?_
    rintro e W ⟨rfl, hb⟩
    clear c0 c1 c2 c3 c4 c5
    replace hk := hk.below hb hk.lt
    replace hB := hB.trans (hb.mono hB.size)
    clear hb
    have c0 := hk.cell_ 0 rfl
    have c1 := hk.cell_ 1 rfl
    have c2 := hk.cell_ 2 rfl
    have c3 := hk.cell_ 3 rfl
    have c4 := hk.cell_ 4 rfl
    have c5 := hk.cell_ 5 rfl
    clear hjl
    rw [← HJ.out]
    go_wp2_with fail
    go_ret2
    exact ⟨ret_eq HE.out.symm, hB⟩

theorem apiLoad_any (s : Sh) (m : Int) (w : World) (hS : ShAt w w.heap.size s) (hvB : validShop s.p = true) :
    Calls Try.prog 28 #[.agg #[.int .i64 s.p.op, .int .i64 s.p.cl, .slice s.aH s.p.hol.length s.cH, .int .i64 s.p.mach, .slice s.aS s.p.setup.length s.cS, .slice s.aJ s.p.jobs.length s.cJ], .int .i64 m] w fun e w' => e = .returned (loadV s.p m) ∧ Below w.heap.size w w' := by
  have hv := valid_facts hvB
  have hf := hv.fits
  have hm1 := hv.mach1
  have hm6 := hv.mach6
  have hk := Blk.new w 25 #[.int .i64 s.p.op, .int .i64 s.p.cl, .slice s.aH s.p.hol.length s.cH, .int .i64 s.p.mach, .slice s.aS s.p.setup.length s.cS, .slice s.aJ s.p.jobs.length s.cJ]
  have hB := (Below.refl w.heap.size w).alloc (Nat.le_refl _) (.cells #[.int .i64 s.p.op, .int .i64 s.p.cl, .slice s.aH s.p.hol.length s.cH, .int .i64 s.p.mach, .slice s.aS s.p.setup.length s.cS, .slice s.aJ s.p.jobs.length s.cJ] 25)
  go_enter Try.func28, Try.ntmps28
  go_wp2_with fail
  generalize w.alloc (.cells #[.int .i64 s.p.op, .int .i64 s.p.cl, .slice s.aH s.p.hol.length s.cH, .int .i64 s.p.mach, .slice s.aS s.p.setup.length s.cS, .slice s.aJ s.p.jobs.length s.cJ] 25) = W at *
  have c0 := hk.cell_ 0 rfl
  have c1 := hk.cell_ 1 rfl
  have c2 := hk.cell_ 2 rfl
  have c3 := hk.cell_ 3 rfl
  have c4 := hk.cell_ 4 rfl
  have c5 := hk.cell_ 5 rfl
  go_wp2_with fail
  refine (valid_any s _ (hS.on hB) hf.h1 hf.h2 hf.h3 hf.h4).mono ?_
  rintro e W ⟨rfl, hb⟩
  clear c0 c1 c2 c3 c4 c5
  replace hk := hk.below hb hk.lt
  replace hB := hB.trans (hb.mono hB.size)
  clear hb
  have c0 := hk.cell_ 0 rfl
  have c1 := hk.cell_ 1 rfl
  have c2 := hk.cell_ 2 rfl
  have c3 := hk.cell_ 3 rfl
  have c4 := hk.cell_ 4 rfl
  have c5 := hk.cell_ 5 rfl
  rw [hvB]
  cases ht : inB 0 m (s.p.mach - 1)
  · go_wp2_with (go_at_call 50; refine (within_any _ _ _ _).mono ?_; rintro e w' ⟨rfl, rfl⟩)
    go_ret2
    exact ⟨ret_eq (loadV_no ht).symm, hB⟩
  · go_wp2_with (go_at_call 50; refine (within_any _ _ _ _).mono ?_; rintro e w' ⟨rfl, rfl⟩)
    refine (load_any s m _ (hS.on hB) hv).mono ?_
    rintro e W ⟨rfl, hb⟩
    clear c0 c1 c2 c3 c4 c5
    replace hk := hk.below hb hk.lt
    replace hB := hB.trans (hb.mono hB.size)
    clear hb
    have c0 := hk.cell_ 0 rfl
    have c1 := hk.cell_ 1 rfl
    have c2 := hk.cell_ 2 rfl
    have c3 := hk.cell_ 3 rfl
    have c4 := hk.cell_ 4 rfl
    have c5 := hk.cell_ 5 rfl
    go_wp2_with fail
    go_ret2
    exact ⟨ret_eq (loadV_ok ht).symm, hB⟩
end Go.Proofs.Ytcpnfcnobnjhdaa

/- Plans: shaped, list, and the small functions of steps with their starts: the walks. -/
namespace Go.Proofs.Ytcpnfcnobnjhdaa
open Go.RowKit
theorem plan_at {w : World} {B : Nat} {A : Option Addr} {pl : List (List Int)} {k : Nat} {l : List Int} (h : Plan w B A pl) (hk : pl[k]? = some l) :
    ∃ b off A' c', A = some ⟨b, off, none⟩ ∧ b < B ∧ w.cell? ⟨b, off + k, none⟩ = some (.slice A' l.length c') ∧ Slc intEnc 1 w B A' l := h k l hk
theorem int_at {w : World} {B : Nat} {A : Option Addr} {xs : List Int} {k : Nat} {x : Int} (h : Slc intEnc 1 w B A xs) (hk : xs[k]? = some x) :
    ∃ b off, A = some ⟨b, off, none⟩ ∧ b < B ∧ w.cell? ⟨b, off + k, none⟩ = some (.int .i64 x) := h.at1 hk rfl

/-- ContainsFunc(l, not within) -/
theorem shaped1_any (t : Int) (w : World) : Calls Try.prog 85 #[.int .i64 t] w fun e w' => e = .returned (.bool (!inB 0 t 100000000)) ∧ w = w' := by
  go_enter Try.func85, Try.ntmps85
  go_wp2_with fail
  refine (within_any _ _ _ _).mono ?_
  rintro e w' ⟨rfl, rfl⟩
  go_wp2_with fail
  go_ret
  exact ⟨rfl, rfl⟩
theorem indexInt_any (A : Option Addr) (c : Nat) (l : List Int) (w : World) (hlen : l.length ≤ 9223372036854775807) (hS : Slc intEnc 1 w w.heap.size A l) :
    Calls Try.prog 91 #[.slice A l.length c, .func (.func 85) #[] #[]] w (IxPost (!l.all fun t => inB 0 t 100000000) w) := by
  go_enter Try.func91, Try.ntmps91
  go_wp2
  go_loopw [8] (fun i wr => ∃ k : Nat, k ≤ l.length ∧ i = .int .i64 k ∧ (l.all fun t => inB 0 t 100000000) = (l.drop k).all (fun t => inB 0 t 100000000) ∧ Below w.heap.size w wr) (fun i _ => l.length - (intOf i).toNat)
  case atStart => exact ⟨0, Nat.zero_le _, rfl, rfl, Below.refl _ _⟩
  case round =>
    obtain ⟨k, hk, rfl, hs, hbel⟩ := hrel
    have HS := hide hs
    clear hs
    by_cases hlt : k < l.length
    · obtain ⟨x, b, off, hx, hA, hb, e0⟩ := ints_at' (hS.below hbel) hlt
      subst hA
      have HX := hide hx
      clear hx
      cases hok : inB 0 x 100000000
      all_goals
        go_wp2_with fail
        refine (shaped1_any x _).mono ?_
        rintro e w2 ⟨rfl, rfl⟩
        rw [hok]
        go_wp2
      · go_ret
        exact ⟨k, rfl, by rw [HS.out, all_drop HX.out, hok]; simp, hbel⟩
      · go_roundw
        case rel => exact ⟨k + 1, by omega, by go_num, by rw [HS.out, all_drop HX.out, hok]; rfl, hbel⟩
        case measure => simp [intOf]; omega
    · obtain rfl : k = l.length := by omega
      go_wp2
      go_ret
      exact ⟨-1, rfl, by rw [HS.out, nomore]; rfl, hbel⟩
theorem containsInt_any (A : Option Addr) (c : Nat) (l : List Int) (w : World) (hlen : l.length ≤ 9223372036854775807) (hS : Slc intEnc 1 w w.heap.size A l) :
    Calls Try.prog 84 #[.slice A l.length c, .func (.func 85) #[] #[]] w fun e w' => e = .returned (.bool (!l.all fun t => inB 0 t 100000000)) ∧ Below w.heap.size w w' := by
  go_enter Try.func84, Try.ntmps84
  go_wp2_with fail
  refine (indexInt_any A c l _ hlen hS).mono ?_
  rintro e w2 ⟨r, rfl, hr, hb2⟩
  have HR := hide hr
  clear hr
  go_wp2
  go_ret
  exact ⟨ret_bool HR.out, hb2⟩

/-- no slice is longer than a slice can be -/
structure PFits (pl : List (List Int)) : Prop where
  h1 : pl.length ≤ 9223372036854775807
  h2 : ∀ l ∈ pl, l.length ≤ 9223372036854775807
set_option maxRecDepth 100000 in
theorem shaped_any (s : Sh) (A : Option Addr) (c : Nat) (pl : List (List Int)) (w : World) (hS : ShAt w w.heap.size s) (hv : VShop s.p) (hP : Plan w w.heap.size A pl) (hf : PFits pl) :
    Calls Try.prog 69 #[.agg #[.int .i64 s.p.op, .int .i64 s.p.cl, .slice s.aH s.p.hol.length s.cH, .int .i64 s.p.mach, .slice s.aS s.p.setup.length s.cS, .slice s.aJ s.p.jobs.length s.cJ], .slice A pl.length c] w fun e w' => e = .returned (.bool (shapedB s.p pl)) ∧ Below w.heap.size w w' := by
  have hjn := hv.jobn
  have hf1 := hf.h1
  have HE : Hid (shapedB s.p pl = (decide (pl.length = s.p.jobs.length) && shapeL (pl.drop 0) (s.p.jobs.drop 0))) := rfl
  obtain ⟨p, aH, cH, aS, cS, aJ, cJ⟩ := s
  dsimp only at *
  have hk := Blk.new w 25 #[.int .i64 p.op, .int .i64 p.cl, .slice aH p.hol.length cH, .int .i64 p.mach, .slice aS p.setup.length cS, .slice aJ p.jobs.length cJ]
  have hB := (Below.refl w.heap.size w).alloc (Nat.le_refl _) (.cells #[.int .i64 p.op, .int .i64 p.cl, .slice aH p.hol.length cH, .int .i64 p.mach, .slice aS p.setup.length cS, .slice aJ p.jobs.length cJ] 25)
  by_cases hne : pl.length = p.jobs.length
  · have hneb : ((pl.length : Int) == (p.jobs.length : Int)) = true := by simp; omega
    have hneb2 : ((pl.length : Int) != (p.jobs.length : Int)) = false := by simp; omega
    have hne' : pl.length ≤ p.jobs.length ∧ p.jobs.length ≤ pl.length := by omega
    have HNE := hide hne
    clear hne
    go_enter Try.func69, Try.ntmps69
    go_wp2_with fail
    generalize w.alloc (.cells #[.int .i64 p.op, .int .i64 p.cl, .slice aH p.hol.length cH, .int .i64 p.mach, .slice aS p.setup.length cS, .slice aJ p.jobs.length cJ] 25) = W at *
    go_loopw [15] (fun x W => ∃ i : Nat, x = .int .i64 i ∧ i ≤ pl.length ∧ Hid (shapedB p pl = shapeL (pl.drop i) (p.jobs.drop i)) ∧ Blk W w.heap.size 25 #[.int .i64 p.op, .int .i64 p.cl, .slice aH p.hol.length cH, .int .i64 p.mach, .slice aS p.setup.length cS, .slice aJ p.jobs.length cJ] ∧ Below w.heap.size w W) (fun x _ => pl.length - (intOf x).toNat)
    case atStart => exact ⟨0, rfl, Nat.zero_le _, (by show _ = _; rw [HE.out, HNE.out]; simp), hk, hB⟩
    case round =>
      clear hk hB
      obtain ⟨W, rfl⟩ : ∃ W : World, W = wr := ⟨_, rfl⟩
      obtain ⟨i, rfl, hi, HS, hk, hB⟩ := hrel
      have c5 := hk.cell_ 5 rfl
      by_cases hlt : i < pl.length
      · obtain ⟨l, hl⟩ : ∃ l, pl[i]? = some l := ⟨_, List.getElem?_eq_getElem hlt⟩
        obtain ⟨st, hst⟩ : ∃ st, p.jobs[i]? = some st := ⟨_, List.getElem?_eq_getElem (by omega)⟩
        have hll := hf.h2 l (List.mem_of_getElem? hl)
        have hsl := (hv.steps i st hst).1
        obtain ⟨b, off, A', c', rfl, hb0, hc, hSl⟩ := plan_at (hP.on hB) hl
        obtain ⟨b2, off2, A2, c2, hA2, hb2, hc2, _⟩ := job_at (hS.on hB).jobs hst
        dsimp only at hA2
        subst hA2
        have HST := hide (shapeL_step hl hst)
        clear hl hst
        by_cases hlen : l.length = st.length
        · have hlb : ((l.length : Int) == (st.length : Int)) = true := by simp; omega
          have hlb2 : ((l.length : Int) != (st.length : Int)) = false := by simp; omega
          have HLEN := hide hlen
          clear hlen
          go_wp2_with fail
          refine (containsInt_any A' c' l _ (by omega) hSl).mono ?_
          rintro e W ⟨rfl, hb⟩
          clear c5
          replace hk := hk.below hb hk.lt
          replace hB := hB.trans (hb.mono hB.size)
          clear hb
          have c5 := hk.cell_ 5 rfl
          cases hall : l.all fun t => inB 0 t 100000000
          · go_wp2_with fail
            go_ret
            exact ⟨ret_bool (by rw [HS.out, HST.out, hall, HLEN.out]; simp), hB⟩
          · go_wp2_with fail
            go_roundw
            case rel => exact ⟨i + 1, by go_num, by omega, (by show _ = _; rw [HS.out, HST.out, hall, HLEN.out]; simp), hk, hB⟩
            case measure => simp [intOf]; omega
        · have hlb : ((l.length : Int) == (st.length : Int)) = false := by simp; omega
          have hlb2 : ((l.length : Int) != (st.length : Int)) = true := by simp; omega
          have HLEN := hide hlen
          clear hlen
          go_wp2_with fail
          go_ret
          exact ⟨ret_bool (by rw [HS.out, HST.out, decide_eq_false HLEN.out]; rfl), hB⟩
      · obtain rfl : i = pl.length := by omega
        go_wp2_with fail
        go_ret
        exact ⟨ret_bool (by rw [HS.out, nomore]; simp [shapeL]), hB⟩
  · have hneb : ((pl.length : Int) == (p.jobs.length : Int)) = false := by simp; omega
    have hneb2 : ((pl.length : Int) != (p.jobs.length : Int)) = true := by simp; omega
    have HNE := hide hne
    clear hne
    go_enter Try.func69, Try.ntmps69
    go_wp2_with fail
    go_ret
    exact ⟨ret_bool (by rw [HE.out, decide_eq_false HNE.out]; rfl), hB⟩

theorem end_any (a : At) (w : World) (h : -1000000000000 ≤ a.t ∧ a.t ≤ 1000000000000) (h2 : 0 ≤ a.x.mi ∧ a.x.mi ≤ 1000000) :
    Calls Try.prog 68 #[.agg #[.int .i64 a.j, .int .i64 a.k, .int .i64 a.t, .int .i64 a.x.m, .int .i64 a.x.mi, .int .i64 a.x.c, .int .i64 a.x.d]] w fun e w' => e = .returned (.int .i64 a.end_) ∧ Below w.heap.size w w' := by
  have hB := (Below.refl w.heap.size w).alloc (Nat.le_refl _) (.cells #[.int .i64 a.j, .int .i64 a.k, .int .i64 a.t, .int .i64 a.x.m, .int .i64 a.x.mi, .int .i64 a.x.c, .int .i64 a.x.d] 91)
  go_enter Try.func68, Try.ntmps68
  go_wp2_with fail
  go_ret
  exact ⟨rfl, hB⟩
theorem dry_any (a : At) (w : World) (h : -1000000000000 ≤ a.t ∧ a.t ≤ 1000000000000) (h2 : 0 ≤ a.x.mi ∧ a.x.mi ≤ 1000000) (h3 : 0 ≤ a.x.d ∧ a.x.d ≤ 1000000) :
    Calls Try.prog 78 #[.agg #[.int .i64 a.j, .int .i64 a.k, .int .i64 a.t, .int .i64 a.x.m, .int .i64 a.x.mi, .int .i64 a.x.c, .int .i64 a.x.d]] w fun e w' => e = .returned (.int .i64 a.dry) ∧ Below w.heap.size w w' := by
  have hk := Blk.new w 91 #[.int .i64 a.j, .int .i64 a.k, .int .i64 a.t, .int .i64 a.x.m, .int .i64 a.x.mi, .int .i64 a.x.c, .int .i64 a.x.d]
  have hB := (Below.refl w.heap.size w).alloc (Nat.le_refl _) (.cells #[.int .i64 a.j, .int .i64 a.k, .int .i64 a.t, .int .i64 a.x.m, .int .i64 a.x.mi, .int .i64 a.x.c, .int .i64 a.x.d] 91)
  go_enter Try.func78, Try.ntmps78
  go_wp2_with fail
  generalize w.alloc (.cells #[.int .i64 a.j, .int .i64 a.k, .int .i64 a.t, .int .i64 a.x.m, .int .i64 a.x.mi, .int .i64 a.x.c, .int .i64 a.x.d] 91) = W at *
  have c0 := hk.cell_ 0 rfl
  have c1 := hk.cell_ 1 rfl
  have c2 := hk.cell_ 2 rfl
  have c3 := hk.cell_ 3 rfl
  have c4 := hk.cell_ 4 rfl
  have c5 := hk.cell_ 5 rfl
  have c6 := hk.cell_ 6 rfl
  have e1 : IntKind.i64.wrap (a.end_ + a.x.d) = a.dry := by unfold At.end_ At.dry; exact IntWalk.i64_in _ (by omega)
  go_wp2_with fail
  refine wp_region_quiet (C := fun w' => ∃ u : Since W, w' = u.w) (by kernel_rfl) (by kernel_rfl) (Since.start W) ?_
  dsimp only
  have y_c0 := Since.cell c0
  have y_c1 := Since.cell c1
  have y_c2 := Since.cell c2
  have y_c3 := Since.cell c3
  have y_c4 := Since.cell c4
  have y_c5 := Since.cell c5
  have y_c6 := Since.cell c6
  clear c0 c1 c2 c3 c4 c5 c6
  repeat (go_big_quiet_step ((go_at_call 68; exact Since.calls (end_any a _ h h2))))
  refine wpQuiet_nil ?_
  rintro W ⟨⟨_, hb⟩, rfl⟩
  try dsimp only at hb ⊢
  clear y_c0 y_c1 y_c2 y_c3 y_c4 y_c5 y_c6
  replace hk := hk.below hb hk.lt
  replace hB := hB.trans (hb.mono hB.size)
  clear hb
  have c0 := hk.cell_ 0 rfl
  have c1 := hk.cell_ 1 rfl
  have c2 := hk.cell_ 2 rfl
  have c3 := hk.cell_ 3 rfl
  have c4 := hk.cell_ 4 rfl
  have c5 := hk.cell_ 5 rfl
  have c6 := hk.cell_ 6 rfl
  go_wp2_with fail
  go_ret
  exact ⟨rfl, hB⟩
/-- what is asked of a step with its start here -/
structure AtFit (p : Shop) (a : At) : Prop where
  t0 : 0 ≤ a.t
  t1 : a.t ≤ 1000000000
  mi0 : 0 ≤ a.x.mi
  mi1 : a.x.mi ≤ 1440
  d0 : 0 ≤ a.x.d
  d1 : a.x.d ≤ 10000
  m0 : 0 ≤ a.x.m
  m1 : a.x.m < p.mach
theorem AtOk.fit {p : Shop} (hv : VShop p) {pl : List (List Int)} {a : At} (h : AtOk p pl a) : AtFit p a := by
  have := hv.op0
  have := hv.cl
  have := h.mi0
  have := h.mi1
  have := h.t1
  exact ⟨h.t0, by omega, by omega, by omega, h.d0, h.d1, h.m0, h.m1⟩
theorem setup_get {p : Shop} (hv : VShop p) {m : Int} (h0 : 0 ≤ m) (h1 : m < p.mach) : p.setup[m.toNat]? = some (setupOf p m) ∧ 0 ≤ setupOf p m ∧ setupOf p m ≤ 1000 := by
  have hl := hv.setn
  have hlt : m.toNat < p.setup.length := by omega
  have h2 : p.setup[m.toNat]? = some (setupOf p m) := by unfold setupOf; rw [List.getD_eq_getElem?_getD, List.getElem?_eq_getElem hlt]; rfl
  exact ⟨h2, hv.setup _ _ h2⟩
set_option maxRecDepth 100000 in
theorem room_any (s : Sh) (b : At) (c : Int) (w : World) (hS : ShAt w w.heap.size s) (hv : VShop s.p) (hb : AtFit s.p b) :
    Calls Try.prog 77 #[.agg #[.int .i64 s.p.op, .int .i64 s.p.cl, .slice s.aH s.p.hol.length s.cH, .int .i64 s.p.mach, .slice s.aS s.p.setup.length s.cS, .slice s.aJ s.p.jobs.length s.cJ], .agg #[.int .i64 b.j, .int .i64 b.k, .int .i64 b.t, .int .i64 b.x.m, .int .i64 b.x.mi, .int .i64 b.x.c, .int .i64 b.x.d], .int .i64 c] w fun e w' => e = .returned (.int .i64 (roomF s.p b c)) ∧ Below w.heap.size w w' := by
  obtain ⟨t0, t1, mi0, mi1, d0, d1, m0, m1⟩ := hb
  obtain ⟨hsu, hs0, hs1⟩ := setup_get hv m0 m1
  obtain ⟨bs, offs, hA, hbs, hcs⟩ := int_at hS.setup hsu
  have hln : b.x.m.toNat < s.p.setup.length := (List.getElem?_eq_some_iff.1 hsu).1
  have HR : Hid (roomF s.p b c = if b.x.c = c then b.end_ else b.end_ + setupOf s.p b.x.m) := rfl
  obtain ⟨p, aH, cH, aS, cS, aJ, cJ⟩ := s
  dsimp only at *
  subst hA
  generalize setupOf p b.x.m = S at *
  have hln2 : b.x.m < (p.setup.length : Int) := by omega
  clear hsu
  have hk := Blk.new w 25 #[.int .i64 p.op, .int .i64 p.cl, .slice aH p.hol.length cH, .int .i64 p.mach, .slice (some ⟨bs, offs, none⟩) p.setup.length cS, .slice aJ p.jobs.length cJ]
  have hB := (Below.refl w.heap.size w).alloc (Nat.le_refl _) (.cells #[.int .i64 p.op, .int .i64 p.cl, .slice aH p.hol.length cH, .int .i64 p.mach, .slice (some ⟨bs, offs, none⟩) p.setup.length cS, .slice aJ p.jobs.length cJ] 25)
  have hsz_w : (w.alloc (.cells #[.int .i64 p.op, .int .i64 p.cl, .slice aH p.hol.length cH, .int .i64 p.mach, .slice (some ⟨bs, offs, none⟩) p.setup.length cS, .slice aJ p.jobs.length cJ] 25)).heap.size = w.heap.size + 1 := by simp
  by_cases hcc : b.x.c = c
  all_goals
    first | have hcb : (b.x.c == c) = true := by simpa using hcc | have hcb : (b.x.c == c) = false := by simpa using hcc
    have HCC := hide hcc
    clear hcc
    go_enter Try.func77, Try.ntmps77
    go_wp2_with fail
    generalize w.alloc (.cells #[.int .i64 p.op, .int .i64 p.cl, .slice aH p.hol.length cH, .int .i64 p.mach, .slice (some ⟨bs, offs, none⟩) p.setup.length cS, .slice aJ p.jobs.length cJ] 25) = W at *
    go_wp2_with fail
    have ha := Blk.new W 91 #[.int .i64 b.j, .int .i64 b.k, .int .i64 b.t, .int .i64 b.x.m, .int .i64 b.x.mi, .int .i64 b.x.c, .int .i64 b.x.d]
    replace hk := hk.alloc (.cells #[.int .i64 b.j, .int .i64 b.k, .int .i64 b.t, .int .i64 b.x.m, .int .i64 b.x.mi, .int .i64 b.x.c, .int .i64 b.x.d] 91)
    rw [hsz_w] at ha
    replace hB := hB.alloc hB.size (.cells #[.int .i64 b.j, .int .i64 b.k, .int .i64 b.t, .int .i64 b.x.m, .int .i64 b.x.mi, .int .i64 b.x.c, .int .i64 b.x.d] 91)
    generalize W.alloc (.cells #[.int .i64 b.j, .int .i64 b.k, .int .i64 b.t, .int .i64 b.x.m, .int .i64 b.x.mi, .int .i64 b.x.c, .int .i64 b.x.d] 91) = W at *
    have c0 := hk.cell_ 0 rfl
    have c1 := hk.cell_ 1 rfl
    have c2 := hk.cell_ 2 rfl
    have c3 := hk.cell_ 3 rfl
    have c4 := hk.cell_ 4 rfl
    have c5 := hk.cell_ 5 rfl
    have a0 := ha.cell_ 0 rfl
    have a1 := ha.cell_ 1 rfl
    have a2 := ha.cell_ 2 rfl
    have a3 := ha.cell_ 3 rfl
    have a4 := ha.cell_ 4 rfl
    have a5 := ha.cell_ 5 rfl
    have a6 := ha.cell_ 6 rfl
    clear hsz_w
    replace hcs := (hB.cell (p := ⟨bs, offs + b.x.m.toNat, none⟩) hbs).trans hcs
  · skip
    go_wp2_with fail
    refine (end_any b _ ⟨by omega, by omega⟩ ⟨mi0, by omega⟩).mono ?_
    rintro e W ⟨rfl, hb⟩
    clear c0 c1 c2 c3 c4 c5 a0 a1 a2 a3 a4 a5 a6
    replace hk := hk.below hb hk.lt
    replace ha := ha.below hb ha.lt
    replace hB := hB.trans (hb.mono hB.size)
    clear hb
    have c0 := hk.cell_ 0 rfl
    have c1 := hk.cell_ 1 rfl
    have c2 := hk.cell_ 2 rfl
    have c3 := hk.cell_ 3 rfl
    have c4 := hk.cell_ 4 rfl
    have c5 := hk.cell_ 5 rfl
    have a0 := ha.cell_ 0 rfl
    have a1 := ha.cell_ 1 rfl
    have a2 := ha.cell_ 2 rfl
    have a3 := ha.cell_ 3 rfl
    have a4 := ha.cell_ 4 rfl
    have a5 := ha.cell_ 5 rfl
    have a6 := ha.cell_ 6 rfl
    go_wp2_with fail
    go_ret
    exact ⟨ret_int (by rw [HR.out, if_pos HCC.out]), hB⟩
  · skip
    have e1 : IntKind.i64.wrap (b.end_ + S) = b.end_ + S := by unfold At.end_; exact IntWalk.i64_in _ (by omega)
    go_wp2_with fail
    refine wp_region_quiet (C := fun w' => ∃ u : Since W, w' = u.w) (by kernel_rfl) (by kernel_rfl) (Since.start W) ?_
    dsimp only
    have y_c0 := Since.cell c0
    have y_c1 := Since.cell c1
    have y_c2 := Since.cell c2
    have y_c3 := Since.cell c3
    have y_c4 := Since.cell c4
    have y_c5 := Since.cell c5
    have y_a0 := Since.cell a0
    have y_a1 := Since.cell a1
    have y_a2 := Since.cell a2
    have y_a3 := Since.cell a3
    have y_a4 := Since.cell a4
    have y_a5 := Since.cell a5
    have y_a6 := Since.cell a6
    have y_hcs := Since.cell hcs
    clear c0 c1 c2 c3 c4 c5 a0 a1 a2 a3 a4 a5 a6
    repeat (go_big_quiet_step ((go_at_call 68; exact Since.calls (end_any b _ ⟨by omega, by omega⟩ ⟨mi0, by omega⟩))))
    refine wpQuiet_nil ?_
    rintro W ⟨⟨_, hb⟩, rfl⟩
    try dsimp only at hb ⊢
    replace hcs : W.cell? _ = _ := y_hcs ⟨W, hb⟩
    clear y_c0 y_c1 y_c2 y_c3 y_c4 y_c5 y_a0 y_a1 y_a2 y_a3 y_a4 y_a5 y_a6 y_hcs
    replace hk := hk.below hb hk.lt
    replace ha := ha.below hb ha.lt
    replace hB := hB.trans (hb.mono hB.size)
    clear hb
    have c0 := hk.cell_ 0 rfl
    have c1 := hk.cell_ 1 rfl
    have c2 := hk.cell_ 2 rfl
    have c3 := hk.cell_ 3 rfl
    have c4 := hk.cell_ 4 rfl
    have c5 := hk.cell_ 5 rfl
    have a0 := ha.cell_ 0 rfl
    have a1 := ha.cell_ 1 rfl
    have a2 := ha.cell_ 2 rfl
    have a3 := ha.cell_ 3 rfl
    have a4 := ha.cell_ 4 rfl
    have a5 := ha.cell_ 5 rfl
    have a6 := ha.cell_ 6 rfl
    go_wp2_with fail
    go_ret
    exact ⟨ret_int (by rw [HR.out, if_neg HCC.out]), hB⟩

set_option maxRecDepth 100000 in
theorem together_any (s : Sh) (a b : At) (w : World) (hS : ShAt w w.heap.size s) (hv : VShop s.p) (hfa : AtFit s.p a) (hfb : AtFit s.p b) :
    Calls Try.prog 81 #[.agg #[.int .i64 s.p.op, .int .i64 s.p.cl, .slice s.aH s.p.hol.length s.cH, .int .i64 s.p.mach, .slice s.aS s.p.setup.length s.cS, .slice s.aJ s.p.jobs.length s.cJ], .agg #[.int .i64 a.j, .int .i64 a.k, .int .i64 a.t, .int .i64 a.x.m, .int .i64 a.x.mi, .int .i64 a.x.c, .int .i64 a.x.d], .agg #[.int .i64 b.j, .int .i64 b.k, .int .i64 b.t, .int .i64 b.x.m, .int .i64 b.x.mi, .int .i64 b.x.c, .int .i64 b.x.d]] w fun e w' => e = .returned (.bool (togB s.p a b)) ∧ Below w.heap.size w w' := by
  have HR : Hid (togB s.p a b = (!decide (a.x.m = b.x.m) || decide (roomF s.p a b.x.c ≤ b.t) || decide (roomF s.p b a.x.c ≤ a.t))) := rfl
  have HFA := hide hfa
  have HFB := hide hfb
  clear hfa hfb
  have hk := Blk.new w 25 #[.int .i64 s.p.op, .int .i64 s.p.cl, .slice s.aH s.p.hol.length s.cH, .int .i64 s.p.mach, .slice s.aS s.p.setup.length s.cS, .slice s.aJ s.p.jobs.length s.cJ]
  have hB := (Below.refl w.heap.size w).alloc (Nat.le_refl _) (.cells #[.int .i64 s.p.op, .int .i64 s.p.cl, .slice s.aH s.p.hol.length s.cH, .int .i64 s.p.mach, .slice s.aS s.p.setup.length s.cS, .slice s.aJ s.p.jobs.length s.cJ] 25)
  have hsz_w : (w.alloc (.cells #[.int .i64 s.p.op, .int .i64 s.p.cl, .slice s.aH s.p.hol.length s.cH, .int .i64 s.p.mach, .slice s.aS s.p.setup.length s.cS, .slice s.aJ s.p.jobs.length s.cJ] 25)).heap.size = w.heap.size + 1 := by simp
  go_enter Try.func81, Try.ntmps81
  go_wp2_with fail
  generalize w.alloc (.cells #[.int .i64 s.p.op, .int .i64 s.p.cl, .slice s.aH s.p.hol.length s.cH, .int .i64 s.p.mach, .slice s.aS s.p.setup.length s.cS, .slice s.aJ s.p.jobs.length s.cJ] 25) = W at *
  go_wp2_with fail
  have ha := Blk.new W 91 #[.int .i64 a.j, .int .i64 a.k, .int .i64 a.t, .int .i64 a.x.m, .int .i64 a.x.mi, .int .i64 a.x.c, .int .i64 a.x.d]
  replace hk := hk.alloc (.cells #[.int .i64 a.j, .int .i64 a.k, .int .i64 a.t, .int .i64 a.x.m, .int .i64 a.x.mi, .int .i64 a.x.c, .int .i64 a.x.d] 91)
  have hsz_2 := (show (W.alloc (.cells #[.int .i64 a.j, .int .i64 a.k, .int .i64 a.t, .int .i64 a.x.m, .int .i64 a.x.mi, .int .i64 a.x.c, .int .i64 a.x.d] 91)).heap.size = W.heap.size + 1 by simp)
  rw [hsz_w] at hsz_2
  rw [hsz_w] at ha
  replace hB := hB.alloc hB.size (.cells #[.int .i64 a.j, .int .i64 a.k, .int .i64 a.t, .int .i64 a.x.m, .int .i64 a.x.mi, .int .i64 a.x.c, .int .i64 a.x.d] 91)
  generalize W.alloc (.cells #[.int .i64 a.j, .int .i64 a.k, .int .i64 a.t, .int .i64 a.x.m, .int .i64 a.x.mi, .int .i64 a.x.c, .int .i64 a.x.d] 91) = W at *
  have c0 := hk.cell_ 0 rfl
  have c1 := hk.cell_ 1 rfl
  have c2 := hk.cell_ 2 rfl
  have c3 := hk.cell_ 3 rfl
  have c4 := hk.cell_ 4 rfl
  have c5 := hk.cell_ 5 rfl
  have a0 := ha.cell_ 0 rfl
  have a1 := ha.cell_ 1 rfl
  have a2 := ha.cell_ 2 rfl
  have a3 := ha.cell_ 3 rfl
  have a4 := ha.cell_ 4 rfl
  have a5 := ha.cell_ 5 rfl
  have a6 := ha.cell_ 6 rfl
  have q_c0 := (hk.alloc (.cells #[.int .i64 b.j, .int .i64 b.k, .int .i64 b.t, .int .i64 b.x.m, .int .i64 b.x.mi, .int .i64 b.x.c, .int .i64 b.x.d] 91)).cell_ 0 rfl
  have q_c1 := (hk.alloc (.cells #[.int .i64 b.j, .int .i64 b.k, .int .i64 b.t, .int .i64 b.x.m, .int .i64 b.x.mi, .int .i64 b.x.c, .int .i64 b.x.d] 91)).cell_ 1 rfl
  have q_c2 := (hk.alloc (.cells #[.int .i64 b.j, .int .i64 b.k, .int .i64 b.t, .int .i64 b.x.m, .int .i64 b.x.mi, .int .i64 b.x.c, .int .i64 b.x.d] 91)).cell_ 2 rfl
  have q_c3 := (hk.alloc (.cells #[.int .i64 b.j, .int .i64 b.k, .int .i64 b.t, .int .i64 b.x.m, .int .i64 b.x.mi, .int .i64 b.x.c, .int .i64 b.x.d] 91)).cell_ 3 rfl
  have q_c4 := (hk.alloc (.cells #[.int .i64 b.j, .int .i64 b.k, .int .i64 b.t, .int .i64 b.x.m, .int .i64 b.x.mi, .int .i64 b.x.c, .int .i64 b.x.d] 91)).cell_ 4 rfl
  have q_c5 := (hk.alloc (.cells #[.int .i64 b.j, .int .i64 b.k, .int .i64 b.t, .int .i64 b.x.m, .int .i64 b.x.mi, .int .i64 b.x.c, .int .i64 b.x.d] 91)).cell_ 5 rfl
  have q_a0 := (ha.alloc (.cells #[.int .i64 b.j, .int .i64 b.k, .int .i64 b.t, .int .i64 b.x.m, .int .i64 b.x.mi, .int .i64 b.x.c, .int .i64 b.x.d] 91)).cell_ 0 rfl
  have q_a1 := (ha.alloc (.cells #[.int .i64 b.j, .int .i64 b.k, .int .i64 b.t, .int .i64 b.x.m, .int .i64 b.x.mi, .int .i64 b.x.c, .int .i64 b.x.d] 91)).cell_ 1 rfl
  have q_a2 := (ha.alloc (.cells #[.int .i64 b.j, .int .i64 b.k, .int .i64 b.t, .int .i64 b.x.m, .int .i64 b.x.mi, .int .i64 b.x.c, .int .i64 b.x.d] 91)).cell_ 2 rfl
  have q_a3 := (ha.alloc (.cells #[.int .i64 b.j, .int .i64 b.k, .int .i64 b.t, .int .i64 b.x.m, .int .i64 b.x.mi, .int .i64 b.x.c, .int .i64 b.x.d] 91)).cell_ 3 rfl
  have q_a4 := (ha.alloc (.cells #[.int .i64 b.j, .int .i64 b.k, .int .i64 b.t, .int .i64 b.x.m, .int .i64 b.x.mi, .int .i64 b.x.c, .int .i64 b.x.d] 91)).cell_ 4 rfl
  have q_a5 := (ha.alloc (.cells #[.int .i64 b.j, .int .i64 b.k, .int .i64 b.t, .int .i64 b.x.m, .int .i64 b.x.mi, .int .i64 b.x.c, .int .i64 b.x.d] 91)).cell_ 5 rfl
  have q_a6 := (ha.alloc (.cells #[.int .i64 b.j, .int .i64 b.k, .int .i64 b.t, .int .i64 b.x.m, .int .i64 b.x.mi, .int .i64 b.x.c, .int .i64 b.x.d] 91)).cell_ 6 rfl
  go_wp2_with fail
  clear q_c0 q_c1 q_c2 q_c3 q_c4 q_c5 q_a0 q_a1 q_a2 q_a3 q_a4 q_a5 q_a6
  clear c0 c1 c2 c3 c4 c5 a0 a1 a2 a3 a4 a5 a6
  have hy := Blk.new W 91 #[.int .i64 b.j, .int .i64 b.k, .int .i64 b.t, .int .i64 b.x.m, .int .i64 b.x.mi, .int .i64 b.x.c, .int .i64 b.x.d]
  replace hk := hk.alloc (.cells #[.int .i64 b.j, .int .i64 b.k, .int .i64 b.t, .int .i64 b.x.m, .int .i64 b.x.mi, .int .i64 b.x.c, .int .i64 b.x.d] 91)
  replace ha := ha.alloc (.cells #[.int .i64 b.j, .int .i64 b.k, .int .i64 b.t, .int .i64 b.x.m, .int .i64 b.x.mi, .int .i64 b.x.c, .int .i64 b.x.d] 91)
  rw [hsz_2] at hy
  replace hB := hB.alloc hB.size (.cells #[.int .i64 b.j, .int .i64 b.k, .int .i64 b.t, .int .i64 b.x.m, .int .i64 b.x.mi, .int .i64 b.x.c, .int .i64 b.x.d] 91)
  generalize W.alloc (.cells #[.int .i64 b.j, .int .i64 b.k, .int .i64 b.t, .int .i64 b.x.m, .int .i64 b.x.mi, .int .i64 b.x.c, .int .i64 b.x.d] 91) = W at *
  have c0 := hk.cell_ 0 rfl
  have c1 := hk.cell_ 1 rfl
  have c2 := hk.cell_ 2 rfl
  have c3 := hk.cell_ 3 rfl
  have c4 := hk.cell_ 4 rfl
  have c5 := hk.cell_ 5 rfl
  have a0 := ha.cell_ 0 rfl
  have a1 := ha.cell_ 1 rfl
  have a2 := ha.cell_ 2 rfl
  have a3 := ha.cell_ 3 rfl
  have a4 := ha.cell_ 4 rfl
  have a5 := ha.cell_ 5 rfl
  have a6 := ha.cell_ 6 rfl
  have b0 := hy.cell_ 0 rfl
  have b1 := hy.cell_ 1 rfl
  have b2 := hy.cell_ 2 rfl
  have b3 := hy.cell_ 3 rfl
  have b4 := hy.cell_ 4 rfl
  have b5 := hy.cell_ 5 rfl
  have b6 := hy.cell_ 6 rfl
  clear hsz_w hsz_2
  by_cases hm : a.x.m = b.x.m
  · have hm1 : (a.x.m != b.x.m) = false := by simpa using hm
    have hm2 : (a.x.m == b.x.m) = true := by simpa using hm
    have HM := hide hm
    clear hm
    by_cases hr : roomF s.p a b.x.c ≤ b.t
    · have hr1 : decide (roomF s.p a b.x.c ≤ b.t) = true := decide_eq_true hr
      have HSW := hS.on hB
      go_wp2_with fail
      refine wp_region_quiet (C := fun w' => ∃ u : Since W, w' = u.w) (by kernel_rfl) (by kernel_rfl) (Since.start W) ?_
      dsimp only
      have y_c0 := Since.cell c0
      have y_c1 := Since.cell c1
      have y_c2 := Since.cell c2
      have y_c3 := Since.cell c3
      have y_c4 := Since.cell c4
      have y_c5 := Since.cell c5
      have y_a0 := Since.cell a0
      have y_a1 := Since.cell a1
      have y_a2 := Since.cell a2
      have y_a3 := Since.cell a3
      have y_a4 := Since.cell a4
      have y_a5 := Since.cell a5
      have y_a6 := Since.cell a6
      have y_b0 := Since.cell b0
      have y_b1 := Since.cell b1
      have y_b2 := Since.cell b2
      have y_b3 := Since.cell b3
      have y_b4 := Since.cell b4
      have y_b5 := Since.cell b5
      have y_b6 := Since.cell b6
      clear c0 c1 c2 c3 c4 c5 a0 a1 a2 a3 a4 a5 a6 b0 b1 b2 b3 b4 b5 b6
      repeat (go_big_quiet_step ((go_at_call 77; exact Since.calls (room_any s _ _ _ (HSW.on (Since.h _)) hv (by first | exact HFA.out | exact HFB.out)))))
      refine wpQuiet_nil ?_
      rintro W ⟨⟨_, hb⟩, rfl⟩
      try dsimp only at hb ⊢
      clear y_c0 y_c1 y_c2 y_c3 y_c4 y_c5 y_a0 y_a1 y_a2 y_a3 y_a4 y_a5 y_a6 y_b0 y_b1 y_b2 y_b3 y_b4 y_b5 y_b6
      replace hk := hk.below hb hk.lt
      replace ha := ha.below hb ha.lt
      replace hy := hy.below hb hy.lt
      replace hB := hB.trans (hb.mono hB.size)
      clear hb
      have c0 := hk.cell_ 0 rfl
      have c1 := hk.cell_ 1 rfl
      have c2 := hk.cell_ 2 rfl
      have c3 := hk.cell_ 3 rfl
      have c4 := hk.cell_ 4 rfl
      have c5 := hk.cell_ 5 rfl
      have a0 := ha.cell_ 0 rfl
      have a1 := ha.cell_ 1 rfl
      have a2 := ha.cell_ 2 rfl
      have a3 := ha.cell_ 3 rfl
      have a4 := ha.cell_ 4 rfl
      have a5 := ha.cell_ 5 rfl
      have a6 := ha.cell_ 6 rfl
      have b0 := hy.cell_ 0 rfl
      have b1 := hy.cell_ 1 rfl
      have b2 := hy.cell_ 2 rfl
      have b3 := hy.cell_ 3 rfl
      have b4 := hy.cell_ 4 rfl
      have b5 := hy.cell_ 5 rfl
      have b6 := hy.cell_ 6 rfl
      go_wp2_with fail
      go_ret
      exact ⟨ret_bool (by rw [HR.out, decide_eq_true HM.out, decide_eq_true hr]; rfl), hB⟩
    · have hr1 : decide (roomF s.p a b.x.c ≤ b.t) = false := decide_eq_false hr
      have HSW := hS.on hB
      go_wp2_with fail
      refine wp_region_quiet (C := fun w' => ∃ u : Since W, w' = u.w) (by kernel_rfl) (by kernel_rfl) (Since.start W) ?_
      dsimp only
      have y_c0 := Since.cell c0
      have y_c1 := Since.cell c1
      have y_c2 := Since.cell c2
      have y_c3 := Since.cell c3
      have y_c4 := Since.cell c4
      have y_c5 := Since.cell c5
      have y_a0 := Since.cell a0
      have y_a1 := Since.cell a1
      have y_a2 := Since.cell a2
      have y_a3 := Since.cell a3
      have y_a4 := Since.cell a4
      have y_a5 := Since.cell a5
      have y_a6 := Since.cell a6
      have y_b0 := Since.cell b0
      have y_b1 := Since.cell b1
      have y_b2 := Since.cell b2
      have y_b3 := Since.cell b3
      have y_b4 := Since.cell b4
      have y_b5 := Since.cell b5
      have y_b6 := Since.cell b6
      clear c0 c1 c2 c3 c4 c5 a0 a1 a2 a3 a4 a5 a6 b0 b1 b2 b3 b4 b5 b6
      repeat (go_big_quiet_step ((go_at_call 77; exact Since.calls (room_any s _ _ _ (HSW.on (Since.h _)) hv (by first | exact HFA.out | exact HFB.out)))))
      refine wpQuiet_nil ?_
      rintro W ⟨⟨_, hb⟩, rfl⟩
      try dsimp only at hb ⊢
      clear y_c0 y_c1 y_c2 y_c3 y_c4 y_c5 y_a0 y_a1 y_a2 y_a3 y_a4 y_a5 y_a6 y_b0 y_b1 y_b2 y_b3 y_b4 y_b5 y_b6
      replace hk := hk.below hb hk.lt
      replace ha := ha.below hb ha.lt
      replace hy := hy.below hb hy.lt
      replace hB := hB.trans (hb.mono hB.size)
      clear hb
      have c0 := hk.cell_ 0 rfl
      have c1 := hk.cell_ 1 rfl
      have c2 := hk.cell_ 2 rfl
      have c3 := hk.cell_ 3 rfl
      have c4 := hk.cell_ 4 rfl
      have c5 := hk.cell_ 5 rfl
      have a0 := ha.cell_ 0 rfl
      have a1 := ha.cell_ 1 rfl
      have a2 := ha.cell_ 2 rfl
      have a3 := ha.cell_ 3 rfl
      have a4 := ha.cell_ 4 rfl
      have a5 := ha.cell_ 5 rfl
      have a6 := ha.cell_ 6 rfl
      have b0 := hy.cell_ 0 rfl
      have b1 := hy.cell_ 1 rfl
      have b2 := hy.cell_ 2 rfl
      have b3 := hy.cell_ 3 rfl
      have b4 := hy.cell_ 4 rfl
      have b5 := hy.cell_ 5 rfl
      have b6 := hy.cell_ 6 rfl
      go_wp2_with fail
      go_ret
      exact ⟨ret_bool (by rw [HR.out, decide_eq_true HM.out, decide_eq_false (show ¬ roomF s.p a b.x.c ≤ b.t by omega)]; rfl), hB⟩
  · have hm1 : (a.x.m != b.x.m) = true := by simpa using hm
    have hm2 : (a.x.m == b.x.m) = false := by simpa using hm
    have HM := hide hm
    clear hm
    have HSW := hS.on hB
    go_wp2_with fail
    refine wp_region_quiet (C := fun w' => ∃ u : Since W, w' = u.w) (by kernel_rfl) (by kernel_rfl) (Since.start W) ?_
    dsimp only
    have y_c0 := Since.cell c0
    have y_c1 := Since.cell c1
    have y_c2 := Since.cell c2
    have y_c3 := Since.cell c3
    have y_c4 := Since.cell c4
    have y_c5 := Since.cell c5
    have y_a0 := Since.cell a0
    have y_a1 := Since.cell a1
    have y_a2 := Since.cell a2
    have y_a3 := Since.cell a3
    have y_a4 := Since.cell a4
    have y_a5 := Since.cell a5
    have y_a6 := Since.cell a6
    have y_b0 := Since.cell b0
    have y_b1 := Since.cell b1
    have y_b2 := Since.cell b2
    have y_b3 := Since.cell b3
    have y_b4 := Since.cell b4
    have y_b5 := Since.cell b5
    have y_b6 := Since.cell b6
    clear c0 c1 c2 c3 c4 c5 a0 a1 a2 a3 a4 a5 a6 b0 b1 b2 b3 b4 b5 b6
    repeat (go_big_quiet_step ((go_at_call 77; exact Since.calls (room_any s _ _ _ (HSW.on (Since.h _)) hv (by first | exact HFA.out | exact HFB.out)))))
    refine wpQuiet_nil ?_
    rintro W ⟨⟨_, hb⟩, rfl⟩
    try dsimp only at hb ⊢
    clear y_c0 y_c1 y_c2 y_c3 y_c4 y_c5 y_a0 y_a1 y_a2 y_a3 y_a4 y_a5 y_a6 y_b0 y_b1 y_b2 y_b3 y_b4 y_b5 y_b6
    replace hk := hk.below hb hk.lt
    replace ha := ha.below hb ha.lt
    replace hy := hy.below hb hy.lt
    replace hB := hB.trans (hb.mono hB.size)
    clear hb
    have c0 := hk.cell_ 0 rfl
    have c1 := hk.cell_ 1 rfl
    have c2 := hk.cell_ 2 rfl
    have c3 := hk.cell_ 3 rfl
    have c4 := hk.cell_ 4 rfl
    have c5 := hk.cell_ 5 rfl
    have a0 := ha.cell_ 0 rfl
    have a1 := ha.cell_ 1 rfl
    have a2 := ha.cell_ 2 rfl
    have a3 := ha.cell_ 3 rfl
    have a4 := ha.cell_ 4 rfl
    have a5 := ha.cell_ 5 rfl
    have a6 := ha.cell_ 6 rfl
    have b0 := hy.cell_ 0 rfl
    have b1 := hy.cell_ 1 rfl
    have b2 := hy.cell_ 2 rfl
    have b3 := hy.cell_ 3 rfl
    have b4 := hy.cell_ 4 rfl
    have b5 := hy.cell_ 5 rfl
    have b6 := hy.cell_ 6 rfl
    go_wp2_with fail
    go_ret
    exact ⟨ret_bool (by rw [HR.out, decide_eq_false HM.out]; rfl), hB⟩

theorem inShift_any (s : Sh) (t m : Int) (w : World) (hS : ShAt w w.heap.size s) (hv : VShop s.p) (ht : 0 ≤ t) (ht' : t ≤ 1000000000000) (hm : 0 ≤ m) (hm' : m ≤ 1000000000) :
    Calls Try.prog 80 #[.agg #[.int .i64 s.p.op, .int .i64 s.p.cl, .slice s.aH s.p.hol.length s.cH, .int .i64 s.p.mach, .slice s.aS s.p.setup.length s.cS, .slice s.aJ s.p.jobs.length s.cJ], .int .i64 t, .int .i64 m] w fun e w' => e = .returned (.bool (shiftB s.p t m)) ∧ Below w.heap.size w w' := by
  have HE : Hid (shiftB s.p t m = (!hasB s.p.hol (t / 1440) && decide (s.p.op ≤ t % 1440) && decide (t % 1440 + m ≤ s.p.cl))) := rfl
  have hk := Blk.new w 25 #[.int .i64 s.p.op, .int .i64 s.p.cl, .slice s.aH s.p.hol.length s.cH, .int .i64 s.p.mach, .slice s.aS s.p.setup.length s.cS, .slice s.aJ s.p.jobs.length s.cJ]
  have hB := (Below.refl w.heap.size w).alloc (Nat.le_refl _) (.cells #[.int .i64 s.p.op, .int .i64 s.p.cl, .slice s.aH s.p.hol.length s.cH, .int .i64 s.p.mach, .slice s.aS s.p.setup.length s.cS, .slice s.aJ s.p.jobs.length s.cJ] 25)
  go_enter Try.func80, Try.ntmps80
  go_wp2_with fail
  generalize w.alloc (.cells #[.int .i64 s.p.op, .int .i64 s.p.cl, .slice s.aH s.p.hol.length s.cH, .int .i64 s.p.mach, .slice s.aS s.p.setup.length s.cS, .slice s.aJ s.p.jobs.length s.cJ] 25) = W at *
  have c0 := hk.cell_ 0 rfl
  have c1 := hk.cell_ 1 rfl
  have c2 := hk.cell_ 2 rfl
  have c3 := hk.cell_ 3 rfl
  have c4 := hk.cell_ 4 rfl
  have c5 := hk.cell_ 5 rfl
  go_wp2_with fail
  refine (free_any s _ _ (hS.on hB) hv).mono ?_
  rintro e W ⟨rfl, hb⟩
  clear c0 c1 c2 c3 c4 c5
  replace hk := hk.below hb hk.lt
  replace hB := hB.trans (hb.mono hB.size)
  clear hb
  have c0 := hk.cell_ 0 rfl
  have c1 := hk.cell_ 1 rfl
  have c2 := hk.cell_ 2 rfl
  have c3 := hk.cell_ 3 rfl
  have c4 := hk.cell_ 4 rfl
  have c5 := hk.cell_ 5 rfl
  cases hh : hasB s.p.hol (t / 1440)
  · by_cases h1 : s.p.op ≤ t % 1440
    · go_wp2_with fail
      go_ret
      exact ⟨ret_bool (by rw [HE.out, hh, decide_eq_true h1]; simp), hB⟩
    · go_wp2_with fail
      go_ret
      exact ⟨ret_bool (by rw [HE.out, hh, decide_eq_false (show ¬ s.p.op ≤ t % 1440 by omega)]; simp), hB⟩
  · go_wp2_with fail
    go_ret
    exact ⟨ret_bool (by rw [HE.out, hh]; simp), hB⟩

theorem et_at : ElemT Try.prog 87 91 7 := elemT_mk Try.underlying87 (z := .agg #[.int .i64 0, .int .i64 0, .int .i64 0, .int .i64 0, .int .i64 0, .int .i64 0, .int .i64 0]) (bytes := 56) (by kernel_rfl) rfl (by omega) (by omega)
set_option maxRecDepth 100000 in
theorem list_any (s : Sh) (A : Option Addr) (c : Nat) (pl : List (List Int)) (w : World) (hS : ShAt w w.heap.size s) (hv : VShop s.p) (hP : Plan w w.heap.size A pl) (hp : VPlan s.p pl) :
    Calls Try.prog 79 #[.agg #[.int .i64 s.p.op, .int .i64 s.p.cl, .slice s.aH s.p.hol.length s.cH, .int .i64 s.p.mach, .slice s.aS s.p.setup.length s.cS, .slice s.aJ s.p.jobs.length s.cJ], .slice A pl.length c] w fun e w' => ∃ v, e = .returned v ∧ Below w.heap.size w w' ∧ Own w' w.heap.size 91 7 At.enc v (ats s.p pl) := by
  have hjn := hv.jobn
  have hen := ents_len hv
  have hpn := hp.len
  have hpn' : pl.length ≤ s.p.jobs.length ∧ s.p.jobs.length ≤ pl.length := by omega
  clear hpn
  have hk := Blk.new w 25 #[.int .i64 s.p.op, .int .i64 s.p.cl, .slice s.aH s.p.hol.length s.cH, .int .i64 s.p.mach, .slice s.aS s.p.setup.length s.cS, .slice s.aJ s.p.jobs.length s.cJ]
  have hB := (Below.refl w.heap.size w).alloc (Nat.le_refl _) (.cells #[.int .i64 s.p.op, .int .i64 s.p.cl, .slice s.aH s.p.hol.length s.cH, .int .i64 s.p.mach, .slice s.aS s.p.setup.length s.cS, .slice s.aJ s.p.jobs.length s.cJ] 25)
  have hz : w.heap.size + 1 ≤ (w.alloc (.cells #[.int .i64 s.p.op, .int .i64 s.p.cl, .slice s.aH s.p.hol.length s.cH, .int .i64 s.p.mach, .slice s.aS s.p.setup.length s.cS, .slice s.aJ s.p.jobs.length s.cJ] 25)).heap.size := by simp
  go_enter Try.func79, Try.ntmps79
  go_wp2_with fail
  generalize w.alloc (.cells #[.int .i64 s.p.op, .int .i64 s.p.cl, .slice s.aH s.p.hol.length s.cH, .int .i64 s.p.mach, .slice s.aS s.p.setup.length s.cS, .slice s.aJ s.p.jobs.length s.cJ] 25) = W at *
  have hO : Own W (w.heap.size + 1) 91 7 At.enc (.slice none 0 0) [] := Own.nil_
  go_loopw [5, 12] (fun v y W => ∃ (j : Nat) (es : List Ent), y = .int .i64 j ∧ j ≤ pl.length ∧ Hid (es ++ entsFrom j (s.p.jobs.drop j) = ents s.p) ∧ Blk W w.heap.size 25 #[.int .i64 s.p.op, .int .i64 s.p.cl, .slice s.aH s.p.hol.length s.cH, .int .i64 s.p.mach, .slice s.aS s.p.setup.length s.cS, .slice s.aJ s.p.jobs.length s.cJ] ∧ Own W (w.heap.size + 1) 91 7 At.enc v (es.map (mkAt pl)) ∧ w.heap.size + 1 ≤ W.heap.size ∧ Below w.heap.size w W) (fun v y _ => pl.length - (intOf y).toNat)
  case atStart => exact ⟨0, [], rfl, Nat.zero_le _, hide rfl, hk, hO, hz, hB⟩
  case round =>
    obtain ⟨W, rfl⟩ : ∃ W : World, W = wr := ⟨_, rfl⟩
    obtain ⟨j, es, rfl, hj, hes, hk, hO, hz, hB⟩ := hrel
    by_cases hlt : j < pl.length
    · obtain ⟨l, hl⟩ : ∃ l, pl[j]? = some l := ⟨_, List.getElem?_eq_getElem hlt⟩
      obtain ⟨st, hjl⟩ : ∃ st, s.p.jobs[j]? = some st := ⟨_, List.getElem?_eq_getElem (by omega)⟩
      have hll := (hv.steps j st hjl).1
      have hlen := (hp.at_ j l st hl hjl).1
      have hlen' : l.length ≤ st.length ∧ st.length ≤ l.length := by omega
      have HL := hide hl
      have HJ := hide hjl
      have HES := hide (show es ++ (stepsFrom j 0 (st.drop 0) ++ entsFrom (j + 1) (s.p.jobs.drop (j + 1))) = ents s.p by rw [← hes.out, entsFrom_drop hjl]; rfl)
      clear hes hlen
      obtain ⟨bp, offp, Ap, cp, hAp, hbp, hcp, hSlp⟩ := plan_at hP hl
      have hcpw := (hB.cell (p := ⟨bp, offp + j, none⟩) hbp).trans hcp
      subst hAp
      clear hl hjl
      go_wp2_with fail
      clear hcpw
      go_loopw [5, 19] (fun v z W => ∃ (k : Nat) (es : List Ent), z = .int .i64 k ∧ k ≤ l.length ∧ Hid (es ++ (stepsFrom j k (st.drop k) ++ entsFrom (j + 1) (s.p.jobs.drop (j + 1))) = ents s.p) ∧ Blk W w.heap.size 25 #[.int .i64 s.p.op, .int .i64 s.p.cl, .slice s.aH s.p.hol.length s.cH, .int .i64 s.p.mach, .slice s.aS s.p.setup.length s.cS, .slice s.aJ s.p.jobs.length s.cJ] ∧ Own W (w.heap.size + 1) 91 7 At.enc v (es.map (mkAt pl)) ∧ w.heap.size + 1 ≤ W.heap.size ∧ Below w.heap.size w W) (fun v z _ => l.length - (intOf z).toNat)
      case atStart => exact ⟨0, es, rfl, Nat.zero_le _, HES, hk, hO, hz, hB⟩
      case round =>
        clear HES
        clear hk hO hz hB
        obtain ⟨W, rfl⟩ : ∃ W : World, W = wr := ⟨_, rfl⟩
        obtain ⟨k, es, rfl, hk2, hes, hk, hO, hz, hB⟩ := hrel
        by_cases hlk : k < l.length
        · obtain ⟨t, ht⟩ : ∃ t, l[k]? = some t := ⟨_, List.getElem?_eq_getElem hlk⟩
          obtain ⟨x, hx⟩ : ∃ x, st[k]? = some x := ⟨_, List.getElem?_eq_getElem (by omega)⟩
          have HES := hide (show (es ++ [⟨j, k, x⟩]) ++ (stepsFrom j (k + 1) (st.drop (k + 1)) ++ entsFrom (j + 1) (s.p.jobs.drop (j + 1))) = ents s.p by rw [← hes.out, stepsFrom_drop hx]; simp)
          have hel : es.length + 1 ≤ 96 := by
            have := congrArg List.length HES.out
            simp at this; omega
          have HMK : Hid (mkAt pl ⟨j, k, x⟩ = ⟨j, k, t, x⟩) := by show mkAt _ _ = _; unfold mkAt; rw [planAt_eq HL.out ht]
          obtain ⟨bt, offt, hAt, hbt, hct⟩ := int_at (hSlp.below hB) ht
          obtain ⟨bj, offj, Aj, cj, hAj, hbj, hcj, hSlj⟩ := job_at hS.jobs HJ.out
          obtain ⟨bx, offx, hAx, hbx, d0, d1, d2, d3⟩ := step_at (hSlj.below hB) hx
          have hcjw := (hB.cell (p := ⟨bj, offj + j, none⟩) hbj).trans hcj
          have hxl : k < st.length := by omega
          have hjlt : j < s.p.jobs.length := by omega
          clear hes ht hx
          obtain ⟨p, aH, cH, aS, cS, aJ, cJ⟩ := s
          dsimp only at *
          subst hAt hAj hAx
          have c5 := hk.cell_ 5 rfl
          have hlm : (es.map (mkAt pl)).length = es.length := List.length_map ..
          go_wp2_with (at_builtin; refine wpList_app _ _ rfl rfl et_at hO rfl rfl (y := (⟨j, k, t, x⟩ : At)) rfl rfl rfl (by rw [hlm]; omega) (by omega) ?_; intro v' W hO' hb hgt; clear c5 hcjw d0 d1 d2 d3 hct; replace hk := hk.below hb (by omega); replace hB := hB.trans (hb.mono (by omega)))
          go_roundw
          case rel => exact ⟨k + 1, es ++ [⟨j, k, x⟩], by go_num, by omega, HES, hk, by rw [List.map_append, List.map_cons, List.map_nil, HMK.out]; exact hO', by omega, hB⟩
          case measure => simp [intOf]; omega
        · obtain rfl : k = l.length := by omega
          have HES := hide (show es ++ entsFrom (j + 1) (s.p.jobs.drop (j + 1)) = ents s.p by rw [← hes.out, List.drop_eq_nil_of_le hlen'.2]; rfl)
          clear hes
          go_wp2_with fail
          go_roundw
          case rel => exact ⟨j + 1, es, by go_num, by omega, HES, hk, hO, hz, hB⟩
          case measure => simp [intOf]; omega
    · obtain rfl : j = pl.length := by omega
      have he : es = ents s.p := by rw [← hes.out, List.drop_eq_nil_of_le hpn'.2]; simp [entsFrom]
      clear hes
      go_wp2_with fail
      go_ret
      exact ⟨_, rfl, hB, by rw [he] at hO; exact hO.mono_base (by omega)⟩
end Go.Proofs.Ytcpnfcnobnjhdaa

/- The judge of package shop: the walk. -/
namespace Go.Proofs.Ytcpnfcnobnjhdaa
open Go.RowKit
theorem at7 {w : World} {B : Nat} {A : Option Addr} {xs : List At} {k : Nat} {x : At} (h : Slc At.enc 7 w B A xs) (hx : xs[k]? = some x) :
    ∃ b off, A = some ⟨b, off, none⟩ ∧ b < B ∧ w.cell? ⟨b, off + k * 7, none⟩ = some (.int .i64 x.j) ∧ w.cell? ⟨b, off + k * 7 + 1, none⟩ = some (.int .i64 x.k) ∧ w.cell? ⟨b, off + k * 7 + 2, none⟩ = some (.int .i64 x.t) ∧ w.cell? ⟨b, off + k * 7 + 3, none⟩ = some (.int .i64 x.x.m) ∧ w.cell? ⟨b, off + k * 7 + 4, none⟩ = some (.int .i64 x.x.mi) ∧ w.cell? ⟨b, off + k * 7 + 5, none⟩ = some (.int .i64 x.x.c) ∧ w.cell? ⟨b, off + k * 7 + 6, none⟩ = some (.int .i64 x.x.d) := by
  obtain ⟨b, off, ha, hb, hc⟩ := h k _ hx
  exact ⟨b, off, ha, hb, by simpa using hc 0 _ rfl, hc 1 _ rfl, hc 2 _ rfl, hc 3 _ rfl, hc 4 _ rfl, hc 5 _ rfl, hc 6 _ rfl⟩
theorem ret_eq3 {a b : Value} (h : a = b) : Ending.returned a = .returned b := by rw [h]
theorem Slc.drop_ {α : Type} {enc : α → List Value} {sz : Nat} {w : World} {B b off : Nat} {xs : List α} (h : Slc enc sz w B (some ⟨b, off, none⟩) xs) (n : Nat) : Slc enc sz w B (some ⟨b, off + n * sz, none⟩) (xs.drop n) := fun i x hx => by
  rw [List.getElem?_drop] at hx
  obtain ⟨b', off', hA, hb, hc⟩ := h _ x hx
  injection hA with hA
  injection hA with h1 h2
  subst h1 h2
  refine ⟨b, off + n * sz, rfl, hb, fun j v hv => ?_⟩
  have := hc j v hv
  rw [show off + n * sz + i * sz + j = off + (n + i) * sz + j by rw [Nat.add_mul]; omega]
  exact this
/-- what the two judges return -/
def JPost (p : Shop) (pl : List (List Int)) (w : World) (e : Ending) (w' : World) : Prop := e = .returned (V3 (judgeF p pl)) ∧ Below w.heap.size w w'
set_option maxRecDepth 100000 in
set_option maxHeartbeats 2000000 in
theorem judge_any (s : Sh) (A : Option Addr) (c : Nat) (pl : List (List Int)) (w : World) (hS : ShAt w w.heap.size s) (hv : VShop s.p) (hP : Plan w w.heap.size A pl) (hf : PFits pl) :
    Calls Try.prog 64 #[.agg #[.int .i64 s.p.op, .int .i64 s.p.cl, .slice s.aH s.p.hol.length s.cH, .int .i64 s.p.mach, .slice s.aS s.p.setup.length s.cS, .slice s.aJ s.p.jobs.length s.cJ], .slice A pl.length c] w (JPost s.p pl w) := by
  have hen := ents_len hv
  have v1 := hv.op0
  have v3 := hv.cl
  have HJ : Hid (judgeF s.p pl = if shapedB s.p pl then judgeL s.p (ats s.p pl) else (0, 0, 2)) := rfl
  have hk := Blk.new w 25 #[.int .i64 s.p.op, .int .i64 s.p.cl, .slice s.aH s.p.hol.length s.cH, .int .i64 s.p.mach, .slice s.aS s.p.setup.length s.cS, .slice s.aJ s.p.jobs.length s.cJ]
  have hB := (Below.refl w.heap.size w).alloc (Nat.le_refl _) (.cells #[.int .i64 s.p.op, .int .i64 s.p.cl, .slice s.aH s.p.hol.length s.cH, .int .i64 s.p.mach, .slice s.aS s.p.setup.length s.cS, .slice s.aJ s.p.jobs.length s.cJ] 25)
  go_enter Try.func64, Try.ntmps64
  go_wp2_with fail
  generalize w.alloc (.cells #[.int .i64 s.p.op, .int .i64 s.p.cl, .slice s.aH s.p.hol.length s.cH, .int .i64 s.p.mach, .slice s.aS s.p.setup.length s.cS, .slice s.aJ s.p.jobs.length s.cJ] 25) = W at *
  have c0 := hk.cell_ 0 rfl
  have c1 := hk.cell_ 1 rfl
  have c2 := hk.cell_ 2 rfl
  have c3 := hk.cell_ 3 rfl
  have c4 := hk.cell_ 4 rfl
  have c5 := hk.cell_ 5 rfl
  go_wp2_with fail
  refine (shaped_any s A c pl _ (hS.on hB) hv (hP.on hB) hf).mono ?_
  rintro e W ⟨rfl, hb⟩
  clear c0 c1 c2 c3 c4 c5
  replace hk := hk.below hb hk.lt
  replace hB := hB.trans (hb.mono hB.size)
  clear hb
  have c0 := hk.cell_ 0 rfl
  have c1 := hk.cell_ 1 rfl
  have c2 := hk.cell_ 2 rfl
  have c3 := hk.cell_ 3 rfl
  have c4 := hk.cell_ 4 rfl
  have c5 := hk.cell_ 5 rfl
  cases hsh : shapedB s.p pl
  · go_wp2_with fail
    go_ret3
    exact ⟨ret_eq (by rw [HJ.out, hsh]; rfl), hB⟩
  have hp := shaped_facts hsh
  have HJ2 := hide (show judgeF s.p pl = judgeL s.p (ats s.p pl) by rw [HJ.out, if_pos hsh])
  have hal := ats_len s.p pl
  have hal2 : (ats s.p pl).length ≤ 96 := by omega
  have HOK := hide (fun (a : At) (h : a ∈ ats s.p pl) => ats_ok hv hp h)
  have HPV := hide (fun (i : Nat) (a : At) (h : (ats s.p pl)[i]? = some a) (hk : 0 < a.k) => ats_prev h hk)
  clear HJ hsh hal
  go_wp2_with fail
  refine (list_any s A c pl _ (hS.on hB) hv (hP.on hB) hp).mono ?_
  rintro e W ⟨v, rfl, hb, hO⟩
  clear c0 c1 c2 c3 c4 c5
  replace hk := hk.below hb hk.lt
  replace hB := hB.trans (hb.mono hB.size)
  clear hb
  have c0 := hk.cell_ 0 rfl
  have c1 := hk.cell_ 1 rfl
  have c2 := hk.cell_ 2 rfl
  have c3 := hk.cell_ 3 rfl
  have c4 := hk.cell_ 4 rfl
  have c5 := hk.cell_ 5 rfl
  obtain ⟨AL, cL, rfl, hcap, hL⟩ := hO.form2 fun _ => rfl
  clear hO
  generalize ats s.p pl = L at *
  clear c0 c1 c2 c3 c4 c5
  go_wp2_with fail
  go_loopw [25] (fun x W => ∃ i : Nat, x = .int .i64 i ∧ i ≤ L.length ∧ Hid (shiftBad s.p L = shiftBad s.p (L.drop i)) ∧ Blk W w.heap.size 25 #[.int .i64 s.p.op, .int .i64 s.p.cl, .slice s.aH s.p.hol.length s.cH, .int .i64 s.p.mach, .slice s.aS s.p.setup.length s.cS, .slice s.aJ s.p.jobs.length s.cJ] ∧ Slc At.enc 7 W W.heap.size AL L ∧ Below w.heap.size w W) (fun x _ => L.length - (intOf x).toNat)
  case atStart => exact ⟨0, rfl, Nat.zero_le _, hide rfl, hk, hL, hB⟩
  case round =>
    clear hk hB hL
    obtain ⟨W, rfl⟩ : ∃ W : World, W = wr := ⟨_, rfl⟩
    obtain ⟨i, rfl, hi, HS, hk, hL, hB⟩ := hrel
    by_cases hlt : i < L.length
    · obtain ⟨a, ha⟩ : ∃ a, L[i]? = some a := ⟨_, List.getElem?_eq_getElem hlt⟩
      obtain ⟨b, off, hA, hb0, d0, d1, d2, d3, d4, d5, d6⟩ := at7 hL ha
      have hok := HOK.out a (List.mem_of_getElem? ha)
      have o1 := hok.t0
      have o2 := hok.t1
      have o3 := hok.mi0
      have o4 := hok.mi1
      have HST := hide (shiftBad_drop (p := s.p) ha)
      clear ha hok
      subst hA
      have c0 := hk.cell_ 0 rfl
      have c1 := hk.cell_ 1 rfl
      have c2 := hk.cell_ 2 rfl
      have c3 := hk.cell_ 3 rfl
      have c4 := hk.cell_ 4 rfl
      have c5 := hk.cell_ 5 rfl
      have q_c0 := (hk.alloc (.cells #[.int .i64 a.j, .int .i64 a.k, .int .i64 a.t, .int .i64 a.x.m, .int .i64 a.x.mi, .int .i64 a.x.c, .int .i64 a.x.d] 91)).cell_ 0 rfl
      have q_c1 := (hk.alloc (.cells #[.int .i64 a.j, .int .i64 a.k, .int .i64 a.t, .int .i64 a.x.m, .int .i64 a.x.mi, .int .i64 a.x.c, .int .i64 a.x.d] 91)).cell_ 1 rfl
      have q_c2 := (hk.alloc (.cells #[.int .i64 a.j, .int .i64 a.k, .int .i64 a.t, .int .i64 a.x.m, .int .i64 a.x.mi, .int .i64 a.x.c, .int .i64 a.x.d] 91)).cell_ 2 rfl
      have q_c3 := (hk.alloc (.cells #[.int .i64 a.j, .int .i64 a.k, .int .i64 a.t, .int .i64 a.x.m, .int .i64 a.x.mi, .int .i64 a.x.c, .int .i64 a.x.d] 91)).cell_ 3 rfl
      have q_c4 := (hk.alloc (.cells #[.int .i64 a.j, .int .i64 a.k, .int .i64 a.t, .int .i64 a.x.m, .int .i64 a.x.mi, .int .i64 a.x.c, .int .i64 a.x.d] 91)).cell_ 4 rfl
      have q_c5 := (hk.alloc (.cells #[.int .i64 a.j, .int .i64 a.k, .int .i64 a.t, .int .i64 a.x.m, .int .i64 a.x.mi, .int .i64 a.x.c, .int .i64 a.x.d] 91)).cell_ 5 rfl
      go_wp2_with fail
      clear q_c0 q_c1 q_c2 q_c3 q_c4 q_c5
      clear c0 c1 c2 c3 c4 c5
      have hx := Blk.new W 91 #[.int .i64 a.j, .int .i64 a.k, .int .i64 a.t, .int .i64 a.x.m, .int .i64 a.x.mi, .int .i64 a.x.c, .int .i64 a.x.d]
      replace hk := hk.alloc (.cells #[.int .i64 a.j, .int .i64 a.k, .int .i64 a.t, .int .i64 a.x.m, .int .i64 a.x.mi, .int .i64 a.x.c, .int .i64 a.x.d] 91)
      replace hL := (hL.below ((Below.refl _ W).alloc (Nat.le_refl _) (.cells #[.int .i64 a.j, .int .i64 a.k, .int .i64 a.t, .int .i64 a.x.m, .int .i64 a.x.mi, .int .i64 a.x.c, .int .i64 a.x.d] 91))).more ((Below.refl _ W).alloc (Nat.le_refl _) (.cells #[.int .i64 a.j, .int .i64 a.k, .int .i64 a.t, .int .i64 a.x.m, .int .i64 a.x.mi, .int .i64 a.x.c, .int .i64 a.x.d] 91)).size
      replace hB := hB.alloc hB.size (.cells #[.int .i64 a.j, .int .i64 a.k, .int .i64 a.t, .int .i64 a.x.m, .int .i64 a.x.mi, .int .i64 a.x.c, .int .i64 a.x.d] 91)
      generalize W.alloc (.cells #[.int .i64 a.j, .int .i64 a.k, .int .i64 a.t, .int .i64 a.x.m, .int .i64 a.x.mi, .int .i64 a.x.c, .int .i64 a.x.d] 91) = W at *
      have c0 := hk.cell_ 0 rfl
      have c1 := hk.cell_ 1 rfl
      have c2 := hk.cell_ 2 rfl
      have c3 := hk.cell_ 3 rfl
      have c4 := hk.cell_ 4 rfl
      have c5 := hk.cell_ 5 rfl
      have a0 := hx.cell_ 0 rfl
      have a1 := hx.cell_ 1 rfl
      have a2 := hx.cell_ 2 rfl
      have a3 := hx.cell_ 3 rfl
      have a4 := hx.cell_ 4 rfl
      have a5 := hx.cell_ 5 rfl
      have a6 := hx.cell_ 6 rfl
      clear d0 d1 d2 d3 d4 d5 d6
      go_wp2_with fail
      refine (inShift_any s a.t a.x.mi _ (hS.on hB) hv o1 (by omega) (by omega) (by omega)).mono ?_
      rintro e W ⟨rfl, hb⟩
      clear c0 c1 c2 c3 c4 c5 a0 a1 a2 a3 a4 a5 a6
      replace hk := hk.below hb hk.lt
      replace hL := (hL.below hb).more hb.size
      replace hx := hx.below hb hx.lt
      replace hB := hB.trans (hb.mono hB.size)
      clear hb
      have c0 := hk.cell_ 0 rfl
      have c1 := hk.cell_ 1 rfl
      have c2 := hk.cell_ 2 rfl
      have c3 := hk.cell_ 3 rfl
      have c4 := hk.cell_ 4 rfl
      have c5 := hk.cell_ 5 rfl
      have a0 := hx.cell_ 0 rfl
      have a1 := hx.cell_ 1 rfl
      have a2 := hx.cell_ 2 rfl
      have a3 := hx.cell_ 3 rfl
      have a4 := hx.cell_ 4 rfl
      have a5 := hx.cell_ 5 rfl
      have a6 := hx.cell_ 6 rfl
      cases hsb : shiftB s.p a.t a.x.mi
      · go_wp2_with fail
        refine wp_region_quiet (C := fun w' => ∃ u : Since W, w' = u.w) (by kernel_rfl) (by kernel_rfl) (Since.start W) ?_
        dsimp only
        have y_c0 := Since.cell c0
        have y_c1 := Since.cell c1
        have y_c2 := Since.cell c2
        have y_c3 := Since.cell c3
        have y_c4 := Since.cell c4
        have y_c5 := Since.cell c5
        have y_a0 := Since.cell a0
        have y_a1 := Since.cell a1
        have y_a2 := Since.cell a2
        have y_a3 := Since.cell a3
        have y_a4 := Since.cell a4
        have y_a5 := Since.cell a5
        have y_a6 := Since.cell a6
        clear c0 c1 c2 c3 c4 c5 a0 a1 a2 a3 a4 a5 a6
        repeat (go_big_quiet_step ((fail)))
        refine wpQuiet_nil ?_
        rintro W ⟨⟨_, hb⟩, rfl⟩
        try dsimp only at hb ⊢
        clear y_c0 y_c1 y_c2 y_c3 y_c4 y_c5 y_a0 y_a1 y_a2 y_a3 y_a4 y_a5 y_a6
        replace hk := hk.below hb hk.lt
        replace hL := (hL.below hb).more hb.size
        replace hx := hx.below hb hx.lt
        replace hB := hB.trans (hb.mono hB.size)
        clear hb
        have c0 := hk.cell_ 0 rfl
        have c1 := hk.cell_ 1 rfl
        have c2 := hk.cell_ 2 rfl
        have c3 := hk.cell_ 3 rfl
        have c4 := hk.cell_ 4 rfl
        have c5 := hk.cell_ 5 rfl
        have a0 := hx.cell_ 0 rfl
        have a1 := hx.cell_ 1 rfl
        have a2 := hx.cell_ 2 rfl
        have a3 := hx.cell_ 3 rfl
        have a4 := hx.cell_ 4 rfl
        have a5 := hx.cell_ 5 rfl
        have a6 := hx.cell_ 6 rfl
        go_wp2_with fail
        go_ret3
        exact ⟨ret_eq (by rw [HJ2.out]; unfold judgeL; rw [HS.out, HST.out, hsb]; rfl), hB⟩
      · go_wp2_with fail
        go_roundw
        case rel => exact ⟨i + 1, by go_num, by omega, (by show _ = _; rw [HS.out, HST.out, hsb]; rfl), hk, hL, hB⟩
        case measure => simp [intOf]; omega
    · obtain rfl : i = L.length := by omega
      have HS0 : Hid (shiftBad s.p L = none) := by show _ = _; rw [HS.out, nomore]; rfl
      clear HS
      have c0 := hk.cell_ 0 rfl
      have c1 := hk.cell_ 1 rfl
      have c2 := hk.cell_ 2 rfl
      have c3 := hk.cell_ 3 rfl
      have c4 := hk.cell_ 4 rfl
      have c5 := hk.cell_ 5 rfl
      go_wp2_with fail
      clear c0 c1 c2 c3 c4 c5
      go_loopw [44] (fun x W => ∃ (i : Nat) (dr : Int), x = .int .i64 i ∧ i ≤ L.length ∧ Hid (earlyBad 0 L = earlyBad dr (L.drop i)) ∧ Hid (∀ i', i = i' + 1 → ∃ b, L[i']? = some b ∧ dr = b.dry) ∧ Blk W w.heap.size 25 #[.int .i64 s.p.op, .int .i64 s.p.cl, .slice s.aH s.p.hol.length s.cH, .int .i64 s.p.mach, .slice s.aS s.p.setup.length s.cS, .slice s.aJ s.p.jobs.length s.cJ] ∧ Slc At.enc 7 W W.heap.size AL L ∧ Below w.heap.size w W) (fun x _ => L.length - (intOf x).toNat)
      case atStart => exact ⟨0, 0, rfl, Nat.zero_le _, hide rfl, hide fun i' h => by omega, hk, hL, hB⟩
      case round =>
        clear hk hB hL
        obtain ⟨W, rfl⟩ : ∃ W : World, W = wr := ⟨_, rfl⟩
        obtain ⟨i, dr, rfl, hi, HS, HPR, hk, hL, hB⟩ := hrel
        by_cases hlt : i < L.length
        · obtain ⟨a, ha⟩ : ∃ a, L[i]? = some a := ⟨_, List.getElem?_eq_getElem hlt⟩
          obtain ⟨b, off, hA, hb0, d0, d1, d2, d3, d4, d5, d6⟩ := at7 hL ha
          have hok := HOK.out a (List.mem_of_getElem? ha)
          have o1 := hok.t0
          have o2 := hok.t1
          have HST := hide (earlyBad_drop (dr := dr) ha)
          have HA := hide ha
          clear ha hok
          subst hA
          have c0 := hk.cell_ 0 rfl
          have c1 := hk.cell_ 1 rfl
          have c2 := hk.cell_ 2 rfl
          have c3 := hk.cell_ 3 rfl
          have c4 := hk.cell_ 4 rfl
          have c5 := hk.cell_ 5 rfl
          have q_c0 := (hk.alloc (.cells #[.int .i64 a.j, .int .i64 a.k, .int .i64 a.t, .int .i64 a.x.m, .int .i64 a.x.mi, .int .i64 a.x.c, .int .i64 a.x.d] 91)).cell_ 0 rfl
          have q_c1 := (hk.alloc (.cells #[.int .i64 a.j, .int .i64 a.k, .int .i64 a.t, .int .i64 a.x.m, .int .i64 a.x.mi, .int .i64 a.x.c, .int .i64 a.x.d] 91)).cell_ 1 rfl
          have q_c2 := (hk.alloc (.cells #[.int .i64 a.j, .int .i64 a.k, .int .i64 a.t, .int .i64 a.x.m, .int .i64 a.x.mi, .int .i64 a.x.c, .int .i64 a.x.d] 91)).cell_ 2 rfl
          have q_c3 := (hk.alloc (.cells #[.int .i64 a.j, .int .i64 a.k, .int .i64 a.t, .int .i64 a.x.m, .int .i64 a.x.mi, .int .i64 a.x.c, .int .i64 a.x.d] 91)).cell_ 3 rfl
          have q_c4 := (hk.alloc (.cells #[.int .i64 a.j, .int .i64 a.k, .int .i64 a.t, .int .i64 a.x.m, .int .i64 a.x.mi, .int .i64 a.x.c, .int .i64 a.x.d] 91)).cell_ 4 rfl
          have q_c5 := (hk.alloc (.cells #[.int .i64 a.j, .int .i64 a.k, .int .i64 a.t, .int .i64 a.x.m, .int .i64 a.x.mi, .int .i64 a.x.c, .int .i64 a.x.d] 91)).cell_ 5 rfl
          go_wp2_with fail
          clear q_c0 q_c1 q_c2 q_c3 q_c4 q_c5
          clear c0 c1 c2 c3 c4 c5
          have hx := Blk.new W 91 #[.int .i64 a.j, .int .i64 a.k, .int .i64 a.t, .int .i64 a.x.m, .int .i64 a.x.mi, .int .i64 a.x.c, .int .i64 a.x.d]
          replace hk := hk.alloc (.cells #[.int .i64 a.j, .int .i64 a.k, .int .i64 a.t, .int .i64 a.x.m, .int .i64 a.x.mi, .int .i64 a.x.c, .int .i64 a.x.d] 91)
          replace hL := (hL.below ((Below.refl _ W).alloc (Nat.le_refl _) (.cells #[.int .i64 a.j, .int .i64 a.k, .int .i64 a.t, .int .i64 a.x.m, .int .i64 a.x.mi, .int .i64 a.x.c, .int .i64 a.x.d] 91))).more ((Below.refl _ W).alloc (Nat.le_refl _) (.cells #[.int .i64 a.j, .int .i64 a.k, .int .i64 a.t, .int .i64 a.x.m, .int .i64 a.x.mi, .int .i64 a.x.c, .int .i64 a.x.d] 91)).size
          replace hB := hB.alloc hB.size (.cells #[.int .i64 a.j, .int .i64 a.k, .int .i64 a.t, .int .i64 a.x.m, .int .i64 a.x.mi, .int .i64 a.x.c, .int .i64 a.x.d] 91)
          generalize W.alloc (.cells #[.int .i64 a.j, .int .i64 a.k, .int .i64 a.t, .int .i64 a.x.m, .int .i64 a.x.mi, .int .i64 a.x.c, .int .i64 a.x.d] 91) = W at *
          have c0 := hk.cell_ 0 rfl
          have c1 := hk.cell_ 1 rfl
          have c2 := hk.cell_ 2 rfl
          have c3 := hk.cell_ 3 rfl
          have c4 := hk.cell_ 4 rfl
          have c5 := hk.cell_ 5 rfl
          have a0 := hx.cell_ 0 rfl
          have a1 := hx.cell_ 1 rfl
          have a2 := hx.cell_ 2 rfl
          have a3 := hx.cell_ 3 rfl
          have a4 := hx.cell_ 4 rfl
          have a5 := hx.cell_ 5 rfl
          have a6 := hx.cell_ 6 rfl
          clear d0 d1 d2 d3 d4 d5 d6
          by_cases hk0 : 0 < a.k
          · obtain ⟨i', hi', e, he, hej, hek⟩ := HPV.out i a HA.out hk0
            subst hi'
            obtain ⟨e', he', hdr⟩ := HPR.out i' rfl
            obtain rfl : e' = e := by rw [he] at he'; injection he' with he'; exact he'.symm
            have HDR := hide hdr
            clear hdr he'
            obtain ⟨b2, off2, hA2, hb2, e0, e1, e2, e3, e4, e5, e6⟩ := at7 hL he
            have hok2 := HOK.out _ (List.mem_of_getElem? he)
            have q1 := hok2.t0
            have q2 := hok2.t1
            have q3 := hok2.mi0
            have q4 := hok2.mi1
            have q5 := hok2.d0
            have q6 := hok2.d1
            clear he hok2 hej hek
            injection hA2 with hA2
            injection hA2 with h7 h8
            subst h7 h8
            have x1 : IntKind.i64.wrap (i' : Int) = (i' : Int) := IntWalk.i64_in _ (by omega)
            have x2 : (i' : Int) < (L.length : Int) := by omega
            have x3 : decide ((0 : Int) < (a.k : Int)) = true := by simp; omega
            have x4 : (0 : Int) < (a.k : Int) := by omega
            by_cases hbad : a.t < e'.dry
            · have x5 : decide (a.t < e'.dry) = true := decide_eq_true hbad
              go_wp2_with fail
              refine wp_region_quiet (C := fun w' => ∃ u : Since W, w' = u.w) (by kernel_rfl) (by kernel_rfl) (Since.start W) ?_
              dsimp only
              have y_c0 := Since.cell c0
              have y_c1 := Since.cell c1
              have y_c2 := Since.cell c2
              have y_c3 := Since.cell c3
              have y_c4 := Since.cell c4
              have y_c5 := Since.cell c5
              have y_a0 := Since.cell a0
              have y_a1 := Since.cell a1
              have y_a2 := Since.cell a2
              have y_a3 := Since.cell a3
              have y_a4 := Since.cell a4
              have y_a5 := Since.cell a5
              have y_a6 := Since.cell a6
              have y_e0 := Since.cell e0
              have y_e1 := Since.cell e1
              have y_e2 := Since.cell e2
              have y_e3 := Since.cell e3
              have y_e4 := Since.cell e4
              have y_e5 := Since.cell e5
              have y_e6 := Since.cell e6
              clear c0 c1 c2 c3 c4 c5 a0 a1 a2 a3 a4 a5 a6
              repeat (go_big_quiet_step ((go_at_call 78; exact Since.calls (dry_any e' _ ⟨by omega, by omega⟩ ⟨by omega, by omega⟩ ⟨q5, by omega⟩))))
              refine wpQuiet_nil ?_
              rintro W ⟨⟨_, hb⟩, rfl⟩
              try dsimp only at hb ⊢
              replace e0 : W.cell? _ = _ := y_e0 ⟨W, hb⟩
              replace e1 : W.cell? _ = _ := y_e1 ⟨W, hb⟩
              replace e2 : W.cell? _ = _ := y_e2 ⟨W, hb⟩
              replace e3 : W.cell? _ = _ := y_e3 ⟨W, hb⟩
              replace e4 : W.cell? _ = _ := y_e4 ⟨W, hb⟩
              replace e5 : W.cell? _ = _ := y_e5 ⟨W, hb⟩
              replace e6 : W.cell? _ = _ := y_e6 ⟨W, hb⟩
              clear y_c0 y_c1 y_c2 y_c3 y_c4 y_c5 y_a0 y_a1 y_a2 y_a3 y_a4 y_a5 y_a6 y_e0 y_e1 y_e2 y_e3 y_e4 y_e5 y_e6
              replace hk := hk.below hb hk.lt
              replace hL := (hL.below hb).more hb.size
              replace hx := hx.below hb hx.lt
              replace hB := hB.trans (hb.mono hB.size)
              clear hb
              have c0 := hk.cell_ 0 rfl
              have c1 := hk.cell_ 1 rfl
              have c2 := hk.cell_ 2 rfl
              have c3 := hk.cell_ 3 rfl
              have c4 := hk.cell_ 4 rfl
              have c5 := hk.cell_ 5 rfl
              have a0 := hx.cell_ 0 rfl
              have a1 := hx.cell_ 1 rfl
              have a2 := hx.cell_ 2 rfl
              have a3 := hx.cell_ 3 rfl
              have a4 := hx.cell_ 4 rfl
              have a5 := hx.cell_ 5 rfl
              have a6 := hx.cell_ 6 rfl
              go_wp2_with fail
              go_wp2_with fail
              refine wp_region_quiet (C := fun w' => ∃ u : Since W, w' = u.w) (by kernel_rfl) (by kernel_rfl) (Since.start W) ?_
              dsimp only
              have y_c0 := Since.cell c0
              have y_c1 := Since.cell c1
              have y_c2 := Since.cell c2
              have y_c3 := Since.cell c3
              have y_c4 := Since.cell c4
              have y_c5 := Since.cell c5
              have y_a0 := Since.cell a0
              have y_a1 := Since.cell a1
              have y_a2 := Since.cell a2
              have y_a3 := Since.cell a3
              have y_a4 := Since.cell a4
              have y_a5 := Since.cell a5
              have y_a6 := Since.cell a6
              clear c0 c1 c2 c3 c4 c5 a0 a1 a2 a3 a4 a5 a6
              repeat (go_big_quiet_step ((fail)))
              refine wpQuiet_nil ?_
              rintro W ⟨⟨_, hb⟩, rfl⟩
              try dsimp only at hb ⊢
              clear y_c0 y_c1 y_c2 y_c3 y_c4 y_c5 y_a0 y_a1 y_a2 y_a3 y_a4 y_a5 y_a6
              replace hk := hk.below hb hk.lt
              replace hL := (hL.below hb).more hb.size
              replace hx := hx.below hb hx.lt
              replace hB := hB.trans (hb.mono hB.size)
              clear hb
              have c0 := hk.cell_ 0 rfl
              have c1 := hk.cell_ 1 rfl
              have c2 := hk.cell_ 2 rfl
              have c3 := hk.cell_ 3 rfl
              have c4 := hk.cell_ 4 rfl
              have c5 := hk.cell_ 5 rfl
              have a0 := hx.cell_ 0 rfl
              have a1 := hx.cell_ 1 rfl
              have a2 := hx.cell_ 2 rfl
              have a3 := hx.cell_ 3 rfl
              have a4 := hx.cell_ 4 rfl
              have a5 := hx.cell_ 5 rfl
              have a6 := hx.cell_ 6 rfl
              go_wp2_with fail
              go_ret3
              exact ⟨ret_eq (by rw [HJ2.out]; unfold judgeL; rw [HS0.out, HS.out, HST.out, if_pos ⟨hk0, by rw [HDR.out]; exact hbad⟩]; rfl), hB⟩
            · have x5 : decide (a.t < e'.dry) = false := decide_eq_false hbad
              go_wp2_with fail
              refine wp_region_quiet (C := fun w' => ∃ u : Since W, w' = u.w) (by kernel_rfl) (by kernel_rfl) (Since.start W) ?_
              dsimp only
              have y_c0 := Since.cell c0
              have y_c1 := Since.cell c1
              have y_c2 := Since.cell c2
              have y_c3 := Since.cell c3
              have y_c4 := Since.cell c4
              have y_c5 := Since.cell c5
              have y_a0 := Since.cell a0
              have y_a1 := Since.cell a1
              have y_a2 := Since.cell a2
              have y_a3 := Since.cell a3
              have y_a4 := Since.cell a4
              have y_a5 := Since.cell a5
              have y_a6 := Since.cell a6
              have y_e0 := Since.cell e0
              have y_e1 := Since.cell e1
              have y_e2 := Since.cell e2
              have y_e3 := Since.cell e3
              have y_e4 := Since.cell e4
              have y_e5 := Since.cell e5
              have y_e6 := Since.cell e6
              clear c0 c1 c2 c3 c4 c5 a0 a1 a2 a3 a4 a5 a6
              repeat (go_big_quiet_step ((go_at_call 78; exact Since.calls (dry_any e' _ ⟨by omega, by omega⟩ ⟨by omega, by omega⟩ ⟨q5, by omega⟩))))
              refine wpQuiet_nil ?_
              rintro W ⟨⟨_, hb⟩, rfl⟩
              try dsimp only at hb ⊢
              replace e0 : W.cell? _ = _ := y_e0 ⟨W, hb⟩
              replace e1 : W.cell? _ = _ := y_e1 ⟨W, hb⟩
              replace e2 : W.cell? _ = _ := y_e2 ⟨W, hb⟩
              replace e3 : W.cell? _ = _ := y_e3 ⟨W, hb⟩
              replace e4 : W.cell? _ = _ := y_e4 ⟨W, hb⟩
              replace e5 : W.cell? _ = _ := y_e5 ⟨W, hb⟩
              replace e6 : W.cell? _ = _ := y_e6 ⟨W, hb⟩
              clear y_c0 y_c1 y_c2 y_c3 y_c4 y_c5 y_a0 y_a1 y_a2 y_a3 y_a4 y_a5 y_a6 y_e0 y_e1 y_e2 y_e3 y_e4 y_e5 y_e6
              replace hk := hk.below hb hk.lt
              replace hL := (hL.below hb).more hb.size
              replace hx := hx.below hb hx.lt
              replace hB := hB.trans (hb.mono hB.size)
              clear hb
              have c0 := hk.cell_ 0 rfl
              have c1 := hk.cell_ 1 rfl
              have c2 := hk.cell_ 2 rfl
              have c3 := hk.cell_ 3 rfl
              have c4 := hk.cell_ 4 rfl
              have c5 := hk.cell_ 5 rfl
              have a0 := hx.cell_ 0 rfl
              have a1 := hx.cell_ 1 rfl
              have a2 := hx.cell_ 2 rfl
              have a3 := hx.cell_ 3 rfl
              have a4 := hx.cell_ 4 rfl
              have a5 := hx.cell_ 5 rfl
              have a6 := hx.cell_ 6 rfl
              go_wp2_with fail
              go_roundw
              case rel => exact ⟨i' + 1 + 1, a.dry, by go_num, by omega, (by show _ = _; rw [HS.out, HST.out, if_neg (by rw [HDR.out]; omega)]), hide (fun j hj => by obtain rfl : j = i' + 1 := (by omega); exact ⟨a, HA.out, rfl⟩), hk, hL, hB⟩
              case measure => simp [intOf]; omega
          · have x3 : decide ((0 : Int) < (a.k : Int)) = false := by simp; omega
            have x4 : ¬ (0 : Int) < (a.k : Int) := by omega
            go_wp2_with fail
            refine wp_region_quiet (C := fun w' => ∃ u : Since W, w' = u.w) (by kernel_rfl) (by kernel_rfl) (Since.start W) ?_
            dsimp only
            have y_c0 := Since.cell c0
            have y_c1 := Since.cell c1
            have y_c2 := Since.cell c2
            have y_c3 := Since.cell c3
            have y_c4 := Since.cell c4
            have y_c5 := Since.cell c5
            have y_a0 := Since.cell a0
            have y_a1 := Since.cell a1
            have y_a2 := Since.cell a2
            have y_a3 := Since.cell a3
            have y_a4 := Since.cell a4
            have y_a5 := Since.cell a5
            have y_a6 := Since.cell a6
            clear c0 c1 c2 c3 c4 c5 a0 a1 a2 a3 a4 a5 a6
            repeat (go_big_quiet_step ((fail)))
            refine wpQuiet_nil ?_
            rintro W ⟨⟨_, hb⟩, rfl⟩
            try dsimp only at hb ⊢
            clear y_c0 y_c1 y_c2 y_c3 y_c4 y_c5 y_a0 y_a1 y_a2 y_a3 y_a4 y_a5 y_a6
            replace hk := hk.below hb hk.lt
            replace hL := (hL.below hb).more hb.size
            replace hx := hx.below hb hx.lt
            replace hB := hB.trans (hb.mono hB.size)
            clear hb
            have c0 := hk.cell_ 0 rfl
            have c1 := hk.cell_ 1 rfl
            have c2 := hk.cell_ 2 rfl
            have c3 := hk.cell_ 3 rfl
            have c4 := hk.cell_ 4 rfl
            have c5 := hk.cell_ 5 rfl
            have a0 := hx.cell_ 0 rfl
            have a1 := hx.cell_ 1 rfl
            have a2 := hx.cell_ 2 rfl
            have a3 := hx.cell_ 3 rfl
            have a4 := hx.cell_ 4 rfl
            have a5 := hx.cell_ 5 rfl
            have a6 := hx.cell_ 6 rfl
            go_wp2_with fail
            go_roundw
            case rel => exact ⟨i + 1, a.dry, by go_num, by omega, (by show _ = _; rw [HS.out, HST.out, if_neg (by omega)]), hide (fun j hj => by obtain rfl : j = i := (by omega); exact ⟨a, HA.out, rfl⟩), hk, hL, hB⟩
            case measure => simp [intOf]; omega
        · obtain rfl : i = L.length := by omega
          have HS1 : Hid (earlyBad 0 L = none) := by show _ = _; rw [HS.out, nomore]; rfl
          clear HS HPR
          have c0 := hk.cell_ 0 rfl
          have c1 := hk.cell_ 1 rfl
          have c2 := hk.cell_ 2 rfl
          have c3 := hk.cell_ 3 rfl
          have c4 := hk.cell_ 4 rfl
          have c5 := hk.cell_ 5 rfl
          go_wp2_with fail
          clear c0 c1 c2 c3 c4 c5
          go_loopw [70] (fun x W => ∃ i : Nat, x = .int .i64 i ∧ i ≤ L.length ∧ Hid (clashBad s.p L = clashBad s.p (L.drop i)) ∧ Blk W w.heap.size 25 #[.int .i64 s.p.op, .int .i64 s.p.cl, .slice s.aH s.p.hol.length s.cH, .int .i64 s.p.mach, .slice s.aS s.p.setup.length s.cS, .slice s.aJ s.p.jobs.length s.cJ] ∧ Slc At.enc 7 W W.heap.size AL L ∧ Below w.heap.size w W) (fun x _ => L.length - (intOf x).toNat)
          case atStart => exact ⟨0, rfl, Nat.zero_le _, hide rfl, hk, hL, hB⟩
          case round =>
            clear hk hB hL
            obtain ⟨W, rfl⟩ : ∃ W : World, W = wr := ⟨_, rfl⟩
            obtain ⟨i, rfl, hi, HS, hk, hL, hB⟩ := hrel
            by_cases hlt : i < L.length
            · obtain ⟨a, ha⟩ : ∃ a, L[i]? = some a := ⟨_, List.getElem?_eq_getElem hlt⟩
              obtain ⟨b, off, hA, hb0, d0, d1, d2, d3, d4, d5, d6⟩ := at7 hL ha
              have hfa := (HOK.out a (List.mem_of_getElem? ha)).fit hv
              have HST := hide (clashBad_drop (p := s.p) ha)
              clear ha
              subst hA
              have c0 := hk.cell_ 0 rfl
              have c1 := hk.cell_ 1 rfl
              have c2 := hk.cell_ 2 rfl
              have c3 := hk.cell_ 3 rfl
              have c4 := hk.cell_ 4 rfl
              have c5 := hk.cell_ 5 rfl
              by_cases hce : cL = i + 1
              · have q_c0 := (hk.alloc (.cells #[.int .i64 a.j, .int .i64 a.k, .int .i64 a.t, .int .i64 a.x.m, .int .i64 a.x.mi, .int .i64 a.x.c, .int .i64 a.x.d] 91)).cell_ 0 rfl
                have q_c1 := (hk.alloc (.cells #[.int .i64 a.j, .int .i64 a.k, .int .i64 a.t, .int .i64 a.x.m, .int .i64 a.x.mi, .int .i64 a.x.c, .int .i64 a.x.d] 91)).cell_ 1 rfl
                have q_c2 := (hk.alloc (.cells #[.int .i64 a.j, .int .i64 a.k, .int .i64 a.t, .int .i64 a.x.m, .int .i64 a.x.mi, .int .i64 a.x.c, .int .i64 a.x.d] 91)).cell_ 2 rfl
                have q_c3 := (hk.alloc (.cells #[.int .i64 a.j, .int .i64 a.k, .int .i64 a.t, .int .i64 a.x.m, .int .i64 a.x.mi, .int .i64 a.x.c, .int .i64 a.x.d] 91)).cell_ 3 rfl
                have q_c4 := (hk.alloc (.cells #[.int .i64 a.j, .int .i64 a.k, .int .i64 a.t, .int .i64 a.x.m, .int .i64 a.x.mi, .int .i64 a.x.c, .int .i64 a.x.d] 91)).cell_ 4 rfl
                have q_c5 := (hk.alloc (.cells #[.int .i64 a.j, .int .i64 a.k, .int .i64 a.t, .int .i64 a.x.m, .int .i64 a.x.mi, .int .i64 a.x.c, .int .i64 a.x.d] 91)).cell_ 5 rfl
                go_wp2_with fail
                clear q_c0 q_c1 q_c2 q_c3 q_c4 q_c5
                clear c0 c1 c2 c3 c4 c5
                have hx := Blk.new W 91 #[.int .i64 a.j, .int .i64 a.k, .int .i64 a.t, .int .i64 a.x.m, .int .i64 a.x.mi, .int .i64 a.x.c, .int .i64 a.x.d]
                replace hk := hk.alloc (.cells #[.int .i64 a.j, .int .i64 a.k, .int .i64 a.t, .int .i64 a.x.m, .int .i64 a.x.mi, .int .i64 a.x.c, .int .i64 a.x.d] 91)
                replace hL := (hL.below ((Below.refl _ W).alloc (Nat.le_refl _) (.cells #[.int .i64 a.j, .int .i64 a.k, .int .i64 a.t, .int .i64 a.x.m, .int .i64 a.x.mi, .int .i64 a.x.c, .int .i64 a.x.d] 91))).more ((Below.refl _ W).alloc (Nat.le_refl _) (.cells #[.int .i64 a.j, .int .i64 a.k, .int .i64 a.t, .int .i64 a.x.m, .int .i64 a.x.mi, .int .i64 a.x.c, .int .i64 a.x.d] 91)).size
                have hsz_bx : (W.alloc (.cells #[.int .i64 a.j, .int .i64 a.k, .int .i64 a.t, .int .i64 a.x.m, .int .i64 a.x.mi, .int .i64 a.x.c, .int .i64 a.x.d] 91)).heap.size = W.heap.size + 1 := by simp
                have bxge := hB.size
                replace hB := hB.alloc hB.size (.cells #[.int .i64 a.j, .int .i64 a.k, .int .i64 a.t, .int .i64 a.x.m, .int .i64 a.x.mi, .int .i64 a.x.c, .int .i64 a.x.d] 91)
                generalize hbx : W.heap.size = bx at *
                generalize W.alloc (.cells #[.int .i64 a.j, .int .i64 a.k, .int .i64 a.t, .int .i64 a.x.m, .int .i64 a.x.mi, .int .i64 a.x.c, .int .i64 a.x.d] 91) = W at *
                clear hbx
                have c0 := hk.cell_ 0 rfl
                have c1 := hk.cell_ 1 rfl
                have c2 := hk.cell_ 2 rfl
                have c3 := hk.cell_ 3 rfl
                have c4 := hk.cell_ 4 rfl
                have c5 := hk.cell_ 5 rfl
                have a0 := hx.cell_ 0 rfl
                have a1 := hx.cell_ 1 rfl
                have a2 := hx.cell_ 2 rfl
                have a3 := hx.cell_ 3 rfl
                have a4 := hx.cell_ 4 rfl
                have a5 := hx.cell_ 5 rfl
                have a6 := hx.cell_ 6 rfl
                clear d0 d1 d2 d3 d4 d5 d6 hsz_bx
                have hR : Slc At.enc 7 W W.heap.size (some ⟨b, off, none⟩) (L.drop (i + 1)) := by rw [List.drop_eq_nil_of_le (by omega)]; exact Slc.nil_
                go_wp2_with fail
                clear c0 c1 c2 c3 c4 c5 a0 a1 a2 a3 a4 a5 a6
                have hlr : (L.drop (i + 1)).length = L.length - (i + 1) := List.length_drop ..
                go_loopw [80] (fun y W => ∃ j : Nat, y = .int .i64 j ∧ j ≤ L.length - (i + 1) ∧ Hid ((L.drop (i + 1)).all (togB s.p a) = ((L.drop (i + 1)).drop j).all (togB s.p a)) ∧ Blk W w.heap.size 25 #[.int .i64 s.p.op, .int .i64 s.p.cl, .slice s.aH s.p.hol.length s.cH, .int .i64 s.p.mach, .slice s.aS s.p.setup.length s.cS, .slice s.aJ s.p.jobs.length s.cJ] ∧ Slc At.enc 7 W W.heap.size (some ⟨b, off, none⟩) L ∧ Blk W bx 91 #[.int .i64 a.j, .int .i64 a.k, .int .i64 a.t, .int .i64 a.x.m, .int .i64 a.x.mi, .int .i64 a.x.c, .int .i64 a.x.d] ∧ Slc At.enc 7 W W.heap.size (some ⟨b, off, none⟩) (L.drop (i + 1)) ∧ Below w.heap.size w W) (fun y _ => L.length - (i + 1) - (intOf y).toNat)
                case atStart => exact ⟨0, rfl, Nat.zero_le _, hide rfl, hk, hL, hx, hR, hB⟩
                case round =>
                  clear hk hB hL hx hR
                  obtain ⟨W, rfl⟩ : ∃ W : World, W = wr := ⟨_, rfl⟩
                  obtain ⟨j, rfl, hj, HS3, hk, hL, hx, hR, hB⟩ := hrel
                  have hlt2 : ¬ j < L.length - (i + 1) := by omega
                  have hjz : ¬ ((j : Int) < ((L.length - (i + 1) : Nat) : Int)) := by omega
                  have HS4 : Hid ((L.drop (i + 1)).all (togB s.p a) = true) := by show _ = _; rw [HS3.out, List.drop_eq_nil_of_le (by omega)]; rfl
                  go_wp2_with fail
                  go_roundw
                  case rel => exact ⟨i + 1, by go_num, by omega, (by show _ = _; rw [HS.out, HST.out, HS4.out]; rfl), hk, hL, hB⟩
                  case measure => simp [intOf]; omega
              · have q_c0 := (hk.alloc (.cells #[.int .i64 a.j, .int .i64 a.k, .int .i64 a.t, .int .i64 a.x.m, .int .i64 a.x.mi, .int .i64 a.x.c, .int .i64 a.x.d] 91)).cell_ 0 rfl
                have q_c1 := (hk.alloc (.cells #[.int .i64 a.j, .int .i64 a.k, .int .i64 a.t, .int .i64 a.x.m, .int .i64 a.x.mi, .int .i64 a.x.c, .int .i64 a.x.d] 91)).cell_ 1 rfl
                have q_c2 := (hk.alloc (.cells #[.int .i64 a.j, .int .i64 a.k, .int .i64 a.t, .int .i64 a.x.m, .int .i64 a.x.mi, .int .i64 a.x.c, .int .i64 a.x.d] 91)).cell_ 2 rfl
                have q_c3 := (hk.alloc (.cells #[.int .i64 a.j, .int .i64 a.k, .int .i64 a.t, .int .i64 a.x.m, .int .i64 a.x.mi, .int .i64 a.x.c, .int .i64 a.x.d] 91)).cell_ 3 rfl
                have q_c4 := (hk.alloc (.cells #[.int .i64 a.j, .int .i64 a.k, .int .i64 a.t, .int .i64 a.x.m, .int .i64 a.x.mi, .int .i64 a.x.c, .int .i64 a.x.d] 91)).cell_ 4 rfl
                have q_c5 := (hk.alloc (.cells #[.int .i64 a.j, .int .i64 a.k, .int .i64 a.t, .int .i64 a.x.m, .int .i64 a.x.mi, .int .i64 a.x.c, .int .i64 a.x.d] 91)).cell_ 5 rfl
                go_wp2_with fail
                clear q_c0 q_c1 q_c2 q_c3 q_c4 q_c5
                clear c0 c1 c2 c3 c4 c5
                have hx := Blk.new W 91 #[.int .i64 a.j, .int .i64 a.k, .int .i64 a.t, .int .i64 a.x.m, .int .i64 a.x.mi, .int .i64 a.x.c, .int .i64 a.x.d]
                replace hk := hk.alloc (.cells #[.int .i64 a.j, .int .i64 a.k, .int .i64 a.t, .int .i64 a.x.m, .int .i64 a.x.mi, .int .i64 a.x.c, .int .i64 a.x.d] 91)
                replace hL := (hL.below ((Below.refl _ W).alloc (Nat.le_refl _) (.cells #[.int .i64 a.j, .int .i64 a.k, .int .i64 a.t, .int .i64 a.x.m, .int .i64 a.x.mi, .int .i64 a.x.c, .int .i64 a.x.d] 91))).more ((Below.refl _ W).alloc (Nat.le_refl _) (.cells #[.int .i64 a.j, .int .i64 a.k, .int .i64 a.t, .int .i64 a.x.m, .int .i64 a.x.mi, .int .i64 a.x.c, .int .i64 a.x.d] 91)).size
                have hsz_bx : (W.alloc (.cells #[.int .i64 a.j, .int .i64 a.k, .int .i64 a.t, .int .i64 a.x.m, .int .i64 a.x.mi, .int .i64 a.x.c, .int .i64 a.x.d] 91)).heap.size = W.heap.size + 1 := by simp
                have bxge := hB.size
                replace hB := hB.alloc hB.size (.cells #[.int .i64 a.j, .int .i64 a.k, .int .i64 a.t, .int .i64 a.x.m, .int .i64 a.x.mi, .int .i64 a.x.c, .int .i64 a.x.d] 91)
                generalize hbx : W.heap.size = bx at *
                generalize W.alloc (.cells #[.int .i64 a.j, .int .i64 a.k, .int .i64 a.t, .int .i64 a.x.m, .int .i64 a.x.mi, .int .i64 a.x.c, .int .i64 a.x.d] 91) = W at *
                clear hbx
                have c0 := hk.cell_ 0 rfl
                have c1 := hk.cell_ 1 rfl
                have c2 := hk.cell_ 2 rfl
                have c3 := hk.cell_ 3 rfl
                have c4 := hk.cell_ 4 rfl
                have c5 := hk.cell_ 5 rfl
                have a0 := hx.cell_ 0 rfl
                have a1 := hx.cell_ 1 rfl
                have a2 := hx.cell_ 2 rfl
                have a3 := hx.cell_ 3 rfl
                have a4 := hx.cell_ 4 rfl
                have a5 := hx.cell_ 5 rfl
                have a6 := hx.cell_ 6 rfl
                clear d0 d1 d2 d3 d4 d5 d6 hsz_bx
                have hR := hL.drop_ (i + 1)
                go_wp2_with fail
                clear c0 c1 c2 c3 c4 c5 a0 a1 a2 a3 a4 a5 a6
                have hlr : (L.drop (i + 1)).length = L.length - (i + 1) := List.length_drop ..
                go_loopw [80] (fun y W => ∃ j : Nat, y = .int .i64 j ∧ j ≤ L.length - (i + 1) ∧ Hid ((L.drop (i + 1)).all (togB s.p a) = ((L.drop (i + 1)).drop j).all (togB s.p a)) ∧ Blk W w.heap.size 25 #[.int .i64 s.p.op, .int .i64 s.p.cl, .slice s.aH s.p.hol.length s.cH, .int .i64 s.p.mach, .slice s.aS s.p.setup.length s.cS, .slice s.aJ s.p.jobs.length s.cJ] ∧ Slc At.enc 7 W W.heap.size (some ⟨b, off, none⟩) L ∧ Blk W bx 91 #[.int .i64 a.j, .int .i64 a.k, .int .i64 a.t, .int .i64 a.x.m, .int .i64 a.x.mi, .int .i64 a.x.c, .int .i64 a.x.d] ∧ Slc At.enc 7 W W.heap.size (some ⟨b, off + (i + 1) * 7, none⟩) (L.drop (i + 1)) ∧ Below w.heap.size w W) (fun y _ => L.length - (i + 1) - (intOf y).toNat)
                case atStart => exact ⟨0, rfl, Nat.zero_le _, hide rfl, hk, hL, hx, hR, hB⟩
                case round =>
                  clear hk hB hL hx hR
                  obtain ⟨W, rfl⟩ : ∃ W : World, W = wr := ⟨_, rfl⟩
                  obtain ⟨j, rfl, hj, HS3, hk, hL, hx, hR, hB⟩ := hrel
                  by_cases hlt2 : j < L.length - (i + 1)
                  · obtain ⟨e, he⟩ : ∃ e, (L.drop (i + 1))[j]? = some e := ⟨_, List.getElem?_eq_getElem (by omega)⟩
                    obtain ⟨b2, off2, hA2, hb2, e0, e1, e2, e3, e4, e5, e6⟩ := at7 hR he
                    have hfe := (HOK.out e (List.mem_of_mem_drop (List.mem_of_getElem? he))).fit hv
                    have HSE := hide (all_drop (f := togB s.p a) he)
                    injection hA2 with hA2
                    injection hA2 with h7 h8
                    subst h7 h8
                    clear he
                    have c0 := hk.cell_ 0 rfl
                    have c1 := hk.cell_ 1 rfl
                    have c2 := hk.cell_ 2 rfl
                    have c3 := hk.cell_ 3 rfl
                    have c4 := hk.cell_ 4 rfl
                    have c5 := hk.cell_ 5 rfl
                    have a0 := hx.cell_ 0 rfl
                    have a1 := hx.cell_ 1 rfl
                    have a2 := hx.cell_ 2 rfl
                    have a3 := hx.cell_ 3 rfl
                    have a4 := hx.cell_ 4 rfl
                    have a5 := hx.cell_ 5 rfl
                    have a6 := hx.cell_ 6 rfl
                    have hjz : (j : Int) < ((L.length - (i + 1) : Nat) : Int) := by omega
                    have q_c0 := (hk.alloc (.cells #[.int .i64 e.j, .int .i64 e.k, .int .i64 e.t, .int .i64 e.x.m, .int .i64 e.x.mi, .int .i64 e.x.c, .int .i64 e.x.d] 91)).cell_ 0 rfl
                    have q_c1 := (hk.alloc (.cells #[.int .i64 e.j, .int .i64 e.k, .int .i64 e.t, .int .i64 e.x.m, .int .i64 e.x.mi, .int .i64 e.x.c, .int .i64 e.x.d] 91)).cell_ 1 rfl
                    have q_c2 := (hk.alloc (.cells #[.int .i64 e.j, .int .i64 e.k, .int .i64 e.t, .int .i64 e.x.m, .int .i64 e.x.mi, .int .i64 e.x.c, .int .i64 e.x.d] 91)).cell_ 2 rfl
                    have q_c3 := (hk.alloc (.cells #[.int .i64 e.j, .int .i64 e.k, .int .i64 e.t, .int .i64 e.x.m, .int .i64 e.x.mi, .int .i64 e.x.c, .int .i64 e.x.d] 91)).cell_ 3 rfl
                    have q_c4 := (hk.alloc (.cells #[.int .i64 e.j, .int .i64 e.k, .int .i64 e.t, .int .i64 e.x.m, .int .i64 e.x.mi, .int .i64 e.x.c, .int .i64 e.x.d] 91)).cell_ 4 rfl
                    have q_c5 := (hk.alloc (.cells #[.int .i64 e.j, .int .i64 e.k, .int .i64 e.t, .int .i64 e.x.m, .int .i64 e.x.mi, .int .i64 e.x.c, .int .i64 e.x.d] 91)).cell_ 5 rfl
                    have q_a0 := (hx.alloc (.cells #[.int .i64 e.j, .int .i64 e.k, .int .i64 e.t, .int .i64 e.x.m, .int .i64 e.x.mi, .int .i64 e.x.c, .int .i64 e.x.d] 91)).cell_ 0 rfl
                    have q_a1 := (hx.alloc (.cells #[.int .i64 e.j, .int .i64 e.k, .int .i64 e.t, .int .i64 e.x.m, .int .i64 e.x.mi, .int .i64 e.x.c, .int .i64 e.x.d] 91)).cell_ 1 rfl
                    have q_a2 := (hx.alloc (.cells #[.int .i64 e.j, .int .i64 e.k, .int .i64 e.t, .int .i64 e.x.m, .int .i64 e.x.mi, .int .i64 e.x.c, .int .i64 e.x.d] 91)).cell_ 2 rfl
                    have q_a3 := (hx.alloc (.cells #[.int .i64 e.j, .int .i64 e.k, .int .i64 e.t, .int .i64 e.x.m, .int .i64 e.x.mi, .int .i64 e.x.c, .int .i64 e.x.d] 91)).cell_ 3 rfl
                    have q_a4 := (hx.alloc (.cells #[.int .i64 e.j, .int .i64 e.k, .int .i64 e.t, .int .i64 e.x.m, .int .i64 e.x.mi, .int .i64 e.x.c, .int .i64 e.x.d] 91)).cell_ 4 rfl
                    have q_a5 := (hx.alloc (.cells #[.int .i64 e.j, .int .i64 e.k, .int .i64 e.t, .int .i64 e.x.m, .int .i64 e.x.mi, .int .i64 e.x.c, .int .i64 e.x.d] 91)).cell_ 5 rfl
                    have q_a6 := (hx.alloc (.cells #[.int .i64 e.j, .int .i64 e.k, .int .i64 e.t, .int .i64 e.x.m, .int .i64 e.x.mi, .int .i64 e.x.c, .int .i64 e.x.d] 91)).cell_ 6 rfl
                    go_wp2_with fail
                    clear q_c0 q_c1 q_c2 q_c3 q_c4 q_c5 q_a0 q_a1 q_a2 q_a3 q_a4 q_a5 q_a6
                    clear c0 c1 c2 c3 c4 c5 a0 a1 a2 a3 a4 a5 a6
                    have hy := Blk.new W 91 #[.int .i64 e.j, .int .i64 e.k, .int .i64 e.t, .int .i64 e.x.m, .int .i64 e.x.mi, .int .i64 e.x.c, .int .i64 e.x.d]
                    replace hk := hk.alloc (.cells #[.int .i64 e.j, .int .i64 e.k, .int .i64 e.t, .int .i64 e.x.m, .int .i64 e.x.mi, .int .i64 e.x.c, .int .i64 e.x.d] 91)
                    replace hL := (hL.below ((Below.refl _ W).alloc (Nat.le_refl _) (.cells #[.int .i64 e.j, .int .i64 e.k, .int .i64 e.t, .int .i64 e.x.m, .int .i64 e.x.mi, .int .i64 e.x.c, .int .i64 e.x.d] 91))).more ((Below.refl _ W).alloc (Nat.le_refl _) (.cells #[.int .i64 e.j, .int .i64 e.k, .int .i64 e.t, .int .i64 e.x.m, .int .i64 e.x.mi, .int .i64 e.x.c, .int .i64 e.x.d] 91)).size
                    replace hx := hx.alloc (.cells #[.int .i64 e.j, .int .i64 e.k, .int .i64 e.t, .int .i64 e.x.m, .int .i64 e.x.mi, .int .i64 e.x.c, .int .i64 e.x.d] 91)
                    replace hR := (hR.below ((Below.refl _ W).alloc (Nat.le_refl _) (.cells #[.int .i64 e.j, .int .i64 e.k, .int .i64 e.t, .int .i64 e.x.m, .int .i64 e.x.mi, .int .i64 e.x.c, .int .i64 e.x.d] 91))).more ((Below.refl _ W).alloc (Nat.le_refl _) (.cells #[.int .i64 e.j, .int .i64 e.k, .int .i64 e.t, .int .i64 e.x.m, .int .i64 e.x.mi, .int .i64 e.x.c, .int .i64 e.x.d] 91)).size
                    replace hB := hB.alloc hB.size (.cells #[.int .i64 e.j, .int .i64 e.k, .int .i64 e.t, .int .i64 e.x.m, .int .i64 e.x.mi, .int .i64 e.x.c, .int .i64 e.x.d] 91)
                    generalize W.alloc (.cells #[.int .i64 e.j, .int .i64 e.k, .int .i64 e.t, .int .i64 e.x.m, .int .i64 e.x.mi, .int .i64 e.x.c, .int .i64 e.x.d] 91) = W at *
                    have c0 := hk.cell_ 0 rfl
                    have c1 := hk.cell_ 1 rfl
                    have c2 := hk.cell_ 2 rfl
                    have c3 := hk.cell_ 3 rfl
                    have c4 := hk.cell_ 4 rfl
                    have c5 := hk.cell_ 5 rfl
                    have a0 := hx.cell_ 0 rfl
                    have a1 := hx.cell_ 1 rfl
                    have a2 := hx.cell_ 2 rfl
                    have a3 := hx.cell_ 3 rfl
                    have a4 := hx.cell_ 4 rfl
                    have a5 := hx.cell_ 5 rfl
                    have a6 := hx.cell_ 6 rfl
                    have y0 := hy.cell_ 0 rfl
                    have y1 := hy.cell_ 1 rfl
                    have y2 := hy.cell_ 2 rfl
                    have y3 := hy.cell_ 3 rfl
                    have y4 := hy.cell_ 4 rfl
                    have y5 := hy.cell_ 5 rfl
                    have y6 := hy.cell_ 6 rfl
                    clear e0 e1 e2 e3 e4 e5 e6
                    go_wp2_with fail
                    refine (together_any s a e _ (hS.on hB) hv hfa hfe).mono ?_
                    rintro e W ⟨rfl, hb⟩
                    clear c0 c1 c2 c3 c4 c5 a0 a1 a2 a3 a4 a5 a6 y0 y1 y2 y3 y4 y5 y6
                    replace hk := hk.below hb hk.lt
                    replace hL := (hL.below hb).more hb.size
                    replace hx := hx.below hb hx.lt
                    replace hR := (hR.below hb).more hb.size
                    replace hy := hy.below hb hy.lt
                    replace hB := hB.trans (hb.mono hB.size)
                    clear hb
                    have c0 := hk.cell_ 0 rfl
                    have c1 := hk.cell_ 1 rfl
                    have c2 := hk.cell_ 2 rfl
                    have c3 := hk.cell_ 3 rfl
                    have c4 := hk.cell_ 4 rfl
                    have c5 := hk.cell_ 5 rfl
                    have a0 := hx.cell_ 0 rfl
                    have a1 := hx.cell_ 1 rfl
                    have a2 := hx.cell_ 2 rfl
                    have a3 := hx.cell_ 3 rfl
                    have a4 := hx.cell_ 4 rfl
                    have a5 := hx.cell_ 5 rfl
                    have a6 := hx.cell_ 6 rfl
                    have y0 := hy.cell_ 0 rfl
                    have y1 := hy.cell_ 1 rfl
                    have y2 := hy.cell_ 2 rfl
                    have y3 := hy.cell_ 3 rfl
                    have y4 := hy.cell_ 4 rfl
                    have y5 := hy.cell_ 5 rfl
                    have y6 := hy.cell_ 6 rfl
                    cases htg : togB s.p a e
                    · go_wp2_with fail
                      refine wp_region_quiet (C := fun w' => ∃ u : Since W, w' = u.w) (by kernel_rfl) (by kernel_rfl) (Since.start W) ?_
                      dsimp only
                      have y_c0 := Since.cell c0
                      have y_c1 := Since.cell c1
                      have y_c2 := Since.cell c2
                      have y_c3 := Since.cell c3
                      have y_c4 := Since.cell c4
                      have y_c5 := Since.cell c5
                      have y_a0 := Since.cell a0
                      have y_a1 := Since.cell a1
                      have y_a2 := Since.cell a2
                      have y_a3 := Since.cell a3
                      have y_a4 := Since.cell a4
                      have y_a5 := Since.cell a5
                      have y_a6 := Since.cell a6
                      have y_y0 := Since.cell y0
                      have y_y1 := Since.cell y1
                      have y_y2 := Since.cell y2
                      have y_y3 := Since.cell y3
                      have y_y4 := Since.cell y4
                      have y_y5 := Since.cell y5
                      have y_y6 := Since.cell y6
                      clear c0 c1 c2 c3 c4 c5 a0 a1 a2 a3 a4 a5 a6 y0 y1 y2 y3 y4 y5 y6
                      repeat (go_big_quiet_step ((fail)))
                      refine wpQuiet_nil ?_
                      rintro W ⟨⟨_, hb⟩, rfl⟩
                      try dsimp only at hb ⊢
                      clear y_c0 y_c1 y_c2 y_c3 y_c4 y_c5 y_a0 y_a1 y_a2 y_a3 y_a4 y_a5 y_a6 y_y0 y_y1 y_y2 y_y3 y_y4 y_y5 y_y6
                      replace hk := hk.below hb hk.lt
                      replace hL := (hL.below hb).more hb.size
                      replace hx := hx.below hb hx.lt
                      replace hR := (hR.below hb).more hb.size
                      replace hy := hy.below hb hy.lt
                      replace hB := hB.trans (hb.mono hB.size)
                      clear hb
                      have c0 := hk.cell_ 0 rfl
                      have c1 := hk.cell_ 1 rfl
                      have c2 := hk.cell_ 2 rfl
                      have c3 := hk.cell_ 3 rfl
                      have c4 := hk.cell_ 4 rfl
                      have c5 := hk.cell_ 5 rfl
                      have a0 := hx.cell_ 0 rfl
                      have a1 := hx.cell_ 1 rfl
                      have a2 := hx.cell_ 2 rfl
                      have a3 := hx.cell_ 3 rfl
                      have a4 := hx.cell_ 4 rfl
                      have a5 := hx.cell_ 5 rfl
                      have a6 := hx.cell_ 6 rfl
                      have y0 := hy.cell_ 0 rfl
                      have y1 := hy.cell_ 1 rfl
                      have y2 := hy.cell_ 2 rfl
                      have y3 := hy.cell_ 3 rfl
                      have y4 := hy.cell_ 4 rfl
                      have y5 := hy.cell_ 5 rfl
                      have y6 := hy.cell_ 6 rfl
                      go_wp2_with fail
                      go_ret3
                      exact ⟨ret_eq (by rw [HJ2.out]; unfold judgeL; rw [HS0.out, HS1.out, HS.out, HST.out, HS3.out, HSE.out, htg]; rfl), hB⟩
                    · go_wp2_with fail
                      go_roundw
                      case rel => exact ⟨j + 1, by go_num, by omega, (by show _ = _; rw [HS3.out, HSE.out, htg]; rfl), hk, hL, hx, hR, hB⟩
                      case measure => simp [intOf]; omega
                  · have hjz : ¬ ((j : Int) < ((L.length - (i + 1) : Nat) : Int)) := by omega
                    have HS4 : Hid ((L.drop (i + 1)).all (togB s.p a) = true) := by show _ = _; rw [HS3.out, List.drop_eq_nil_of_le (by omega)]; rfl
                    go_wp2_with fail
                    go_roundw
                    case rel => exact ⟨i + 1, by go_num, by omega, (by show _ = _; rw [HS.out, HST.out, HS4.out]; rfl), hk, hL, hB⟩
                    case measure => simp [intOf]; omega
            · obtain rfl : i = L.length := by omega
              have HS2 : Hid (clashBad s.p L = none) := by show _ = _; rw [HS.out, nomore]; rfl
              go_wp2_with fail
              go_ret3
              exact ⟨ret_eq (by rw [HJ2.out]; unfold judgeL; rw [HS0.out, HS1.out, HS2.out]; rfl), hB⟩
end Go.Proofs.Ytcpnfcnobnjhdaa
