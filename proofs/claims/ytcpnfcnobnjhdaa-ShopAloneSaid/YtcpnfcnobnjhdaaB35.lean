/- Parts of the proofs of this seat: RefDispatch. Each part says what it proves; no condition beyond those stated there. -/
import Derived.Deep.DeepCutAuto
import Derived.Test.YtcpnfcnobnjhdaaB32

/- The reference's Dispatch: the walk. -/
namespace Go.Proofs.Ytcpnfcnobnjhdaa
open Go.RowKit
/-- the arrays of the machines, and the last steps -/
structure RD (p : Shop) (last : List (Int × At)) (La Co : List Int) : Prop where
  lal : (La.length : Int) = p.mach
  col : (Co.length : Int) = p.mach
  no : ∀ m : Nat, (m : Int) < p.mach → look last (m : Int) = none → Co[m]? = some (-1)
  yes : ∀ (m : Nat) b, look last (m : Int) = some b → Co[m]? = some b.x.c ∧ La[m]? = some (b.t + b.x.mi)
theorem RD.start (p : Shop) (h : 0 ≤ p.mach) : RD p [] (List.replicate p.mach.toNat 0) (List.replicate p.mach.toNat (-1)) :=
  ⟨by simp; omega, by simp; omega, fun m hm _ => by rw [List.getElem?_replicate, if_pos (by omega)], fun m b hb => by simp [look] at hb⟩
theorem RD.put_ {p : Shop} {last : List (Int × At)} {La Co : List Int} (h : RD p last La Co) {a : At} (h0 : 0 ≤ a.x.m) (h1 : a.x.m < p.mach) : RD p (put last a.x.m a) (La.set a.x.m.toNat (a.t + a.x.mi)) (Co.set a.x.m.toNat a.x.c) := by
  have e1 := h.lal
  have e2 := h.col
  refine ⟨by simpa using e1, by simpa using e2, fun m hm hl => ?_, fun m b hl => ?_⟩
  · rw [look_put] at hl
    by_cases hma : (m : Int) = a.x.m
    · rw [if_pos hma] at hl; cases hl
    · rw [if_neg hma] at hl
      rw [List.getElem?_set, if_neg (by omega)]
      exact h.no m hm hl
  · rw [look_put] at hl
    by_cases hma : (m : Int) = a.x.m
    · rw [if_pos hma] at hl
      injection hl with hl
      subst hl
      have hq : a.x.m.toNat = m := by omega
      rw [hq, List.getElem?_set_self (by omega), List.getElem?_set_self (by omega)]
      exact ⟨rfl, rfl⟩
    · rw [if_neg hma] at hl
      rw [List.getElem?_set, List.getElem?_set, if_neg (by omega), if_neg (by omega)]
      exact h.yes m b hl
set_option maxRecDepth 100000 in
set_option maxHeartbeats 4000000 in
theorem refDispatch_any (s : Sh) (w : World) (hS : ShAt w w.heap.size s) (hv : VShop s.p) : Calls Try.prog 35 #[.agg #[.int .i64 s.p.op, .int .i64 s.p.cl, .slice s.aH s.p.hol.length s.cH, .int .i64 s.p.mach, .slice s.aS s.p.setup.length s.cS, .slice s.aJ s.p.jobs.length s.cJ]] w fun e w' => ∃ A c, e = .returned (.slice A (dispF s.p).length c) ∧ Below w.heap.size w w' ∧ Plan w' w'.heap.size A (dispF s.p) := by
  have hjn := hv.jobn
  have hm1 := hv.mach1
  have hm6 := hv.mach6
  obtain ⟨p, aH, cH, aS, cS, aJ, cJ⟩ := s
  dsimp only at *
  obtain ⟨mm, hmm⟩ : ∃ mm : Nat, (mm : Int) = p.mach := ⟨p.mach.toNat, by omega⟩
  have hmk1 : ∀ w, (Instr.makeSlice 44 (.int .i64 p.jobs.length) (.int .i64 p.jobs.length)).run Try.prog w = .ok (.slice (some ⟨w.heap.size, 0, none⟩) p.jobs.length p.jobs.length) (w.alloc (.cells (Array.replicate p.jobs.length (Value.slice none 0 0)) 22)) := fun w => by
    have := run_make1 (P := Try.prog) (bytes := 24) (z := .slice none 0 0) Try.underlying44 (by kernel_rfl) rfl (by omega) p.jobs.length (by omega) w
    simpa using this
  have hmk2 : ∀ w, (Instr.makeSlice 22 (.int .i64 p.mach) (.int .i64 p.mach)).run Try.prog w = .ok (.slice (some ⟨w.heap.size, 0, none⟩) mm mm) (w.alloc (.cells (Array.replicate mm (Value.int .i64 0)) 3)) := fun w => by
    have := run_make1 (P := Try.prog) (bytes := 8) (z := .int .i64 0) Try.underlying22 (by kernel_rfl) rfl (by omega) mm (by omega) w
    rw [hmm] at this
    simpa using this
  have HMM := hide hmm
  have hmm1 : (mm : Int) ≤ 6 := by omega
  clear hmm
  obtain ⟨bs, offs, hAS⟩ : ∃ bs offs, aS = some ⟨bs, offs, none⟩ := by
    have hl := hv.setn
    have h0 : p.setup[0]? = some (p.setup[0]'(by omega)) := List.getElem?_eq_getElem _
    obtain ⟨bs, offs, hA, _⟩ := int_at hS.setup h0
    exact ⟨bs, offs, hA⟩
  subst hAS
  have hk := Blk.new w 25 #[.int .i64 p.op, .int .i64 p.cl, .slice aH p.hol.length cH, .int .i64 p.mach, .slice (some ⟨bs, offs, none⟩) p.setup.length cS, .slice aJ p.jobs.length cJ]
  have hB := (Below.refl w.heap.size w).alloc (Nat.le_refl _) (.cells #[.int .i64 p.op, .int .i64 p.cl, .slice aH p.hol.length cH, .int .i64 p.mach, .slice (some ⟨bs, offs, none⟩) p.setup.length cS, .slice aJ p.jobs.length cJ] 25)
  go_enter Try.func35, Try.ntmps35
  go_upto_region 1 with fail
  generalize w.alloc (.cells #[.int .i64 p.op, .int .i64 p.cl, .slice aH p.hol.length cH, .int .i64 p.mach, .slice (some ⟨bs, offs, none⟩) p.setup.length cS, .slice aJ p.jobs.length cJ] 25) = W at *
  have lk := hk.lt
  have c0 := hk.cell_ 0 rfl
  have c1 := hk.cell_ 1 rfl
  have c2 := hk.cell_ 2 rfl
  have c3 := hk.cell_ 3 rfl
  have c4 := hk.cell_ 4 rfl
  have c5 := hk.cell_ 5 rfl
  have q_c0 := (hk.alloc (.cells (Array.replicate p.jobs.length (Value.slice none 0 0)) 22)).cell_ 0 rfl
  have q_c1 := (hk.alloc (.cells (Array.replicate p.jobs.length (Value.slice none 0 0)) 22)).cell_ 1 rfl
  have q_c2 := (hk.alloc (.cells (Array.replicate p.jobs.length (Value.slice none 0 0)) 22)).cell_ 2 rfl
  have q_c3 := (hk.alloc (.cells (Array.replicate p.jobs.length (Value.slice none 0 0)) 22)).cell_ 3 rfl
  have q_c4 := (hk.alloc (.cells (Array.replicate p.jobs.length (Value.slice none 0 0)) 22)).cell_ 4 rfl
  have q_c5 := (hk.alloc (.cells (Array.replicate p.jobs.length (Value.slice none 0 0)) 22)).cell_ 5 rfl
  go_upto_region 2 with fail
  clear q_c0 q_c1 q_c2 q_c3 q_c4 q_c5
  clear c0 c1 c2 c3 c4 c5
  have hp := Blk.new W 22 (Array.replicate p.jobs.length (Value.slice none 0 0))
  replace hk := hk.alloc (.cells (Array.replicate p.jobs.length (Value.slice none 0 0)) 22)
  have hsz_bp : (W.alloc (.cells (Array.replicate p.jobs.length (Value.slice none 0 0)) 22)).heap.size = W.heap.size + 1 := by simp
  have bpge := hB.size
  replace hB := hB.alloc hB.size (.cells (Array.replicate p.jobs.length (Value.slice none 0 0)) 22)
  generalize hbp : W.heap.size = bp at *
  generalize W.alloc (.cells (Array.replicate p.jobs.length (Value.slice none 0 0)) 22) = W at *
  clear hbp
  have c0 := hk.cell_ 0 rfl
  have c1 := hk.cell_ 1 rfl
  have c2 := hk.cell_ 2 rfl
  have c3 := hk.cell_ 3 rfl
  have c4 := hk.cell_ 4 rfl
  have c5 := hk.cell_ 5 rfl
  have lp := hp.lt
  have lk := hk.lt
  have q_c0 := (hk.alloc (.cells (Array.replicate mm (Value.int .i64 0)) 3)).cell_ 0 rfl
  have q_c1 := (hk.alloc (.cells (Array.replicate mm (Value.int .i64 0)) 3)).cell_ 1 rfl
  have q_c2 := (hk.alloc (.cells (Array.replicate mm (Value.int .i64 0)) 3)).cell_ 2 rfl
  have q_c3 := (hk.alloc (.cells (Array.replicate mm (Value.int .i64 0)) 3)).cell_ 3 rfl
  have q_c4 := (hk.alloc (.cells (Array.replicate mm (Value.int .i64 0)) 3)).cell_ 4 rfl
  have q_c5 := (hk.alloc (.cells (Array.replicate mm (Value.int .i64 0)) 3)).cell_ 5 rfl
  go_upto_region 3 with fail
  clear q_c0 q_c1 q_c2 q_c3 q_c4 q_c5
  clear c0 c1 c2 c3 c4 c5
  have hla := Blk.new W 3 (Array.replicate mm (Value.int .i64 0))
  replace hk := hk.alloc (.cells (Array.replicate mm (Value.int .i64 0)) 3)
  replace hp := hp.alloc (.cells (Array.replicate mm (Value.int .i64 0)) 3)
  have hsz_bl : (W.alloc (.cells (Array.replicate mm (Value.int .i64 0)) 3)).heap.size = W.heap.size + 1 := by simp
  have blge := hB.size
  replace hB := hB.alloc hB.size (.cells (Array.replicate mm (Value.int .i64 0)) 3)
  generalize hbl : W.heap.size = bl at *
  generalize W.alloc (.cells (Array.replicate mm (Value.int .i64 0)) 3) = W at *
  clear hbl
  have c0 := hk.cell_ 0 rfl
  have c1 := hk.cell_ 1 rfl
  have c2 := hk.cell_ 2 rfl
  have c3 := hk.cell_ 3 rfl
  have c4 := hk.cell_ 4 rfl
  have c5 := hk.cell_ 5 rfl
  have lp := hp.lt
  have ll := hla.lt
  have lk := hk.lt
  have q_c0 := (hk.alloc (.cells (Array.replicate mm (Value.int .i64 0)) 3)).cell_ 0 rfl
  have q_c1 := (hk.alloc (.cells (Array.replicate mm (Value.int .i64 0)) 3)).cell_ 1 rfl
  have q_c2 := (hk.alloc (.cells (Array.replicate mm (Value.int .i64 0)) 3)).cell_ 2 rfl
  have q_c3 := (hk.alloc (.cells (Array.replicate mm (Value.int .i64 0)) 3)).cell_ 3 rfl
  have q_c4 := (hk.alloc (.cells (Array.replicate mm (Value.int .i64 0)) 3)).cell_ 4 rfl
  have q_c5 := (hk.alloc (.cells (Array.replicate mm (Value.int .i64 0)) 3)).cell_ 5 rfl
  go_upto_region 4 with fail
  clear q_c0 q_c1 q_c2 q_c3 q_c4 q_c5
  clear c0 c1 c2 c3 c4 c5
  have hco := Blk.new W 3 (Array.replicate mm (Value.int .i64 0))
  replace hk := hk.alloc (.cells (Array.replicate mm (Value.int .i64 0)) 3)
  replace hp := hp.alloc (.cells (Array.replicate mm (Value.int .i64 0)) 3)
  replace hla := hla.alloc (.cells (Array.replicate mm (Value.int .i64 0)) 3)
  have hsz_bc : (W.alloc (.cells (Array.replicate mm (Value.int .i64 0)) 3)).heap.size = W.heap.size + 1 := by simp
  have bcge := hB.size
  replace hB := hB.alloc hB.size (.cells (Array.replicate mm (Value.int .i64 0)) 3)
  generalize hbc : W.heap.size = bc at *
  generalize W.alloc (.cells (Array.replicate mm (Value.int .i64 0)) 3) = W at *
  clear hbc
  have c0 := hk.cell_ 0 rfl
  have c1 := hk.cell_ 1 rfl
  have c2 := hk.cell_ 2 rfl
  have c3 := hk.cell_ 3 rfl
  have c4 := hk.cell_ 4 rfl
  have c5 := hk.cell_ 5 rfl
  have lp := hp.lt
  have ll := hla.lt
  have lk := hk.lt
  have lc := hco.lt
  obtain rfl : bl = bp + 1 := hsz_bp
  obtain rfl : bc = bp + 1 + 1 := hsz_bl
  clear hmk1 hmk2 hsz_bc
  rw [ints_zero'] at hla hco
  go_wp2_with fail
  clear c0 c1 c2 c3 c4 c5
  go_loopw [6] (fun x W => ∃ m : Nat, x = .int .i64 m ∧ m ≤ mm ∧ Blk W (bp + 1 + 1) 3 (ints (List.replicate m (-1) ++ List.replicate (mm - m) 0)) ∧ Blk W w.heap.size 25 #[.int .i64 p.op, .int .i64 p.cl, .slice aH p.hol.length cH, .int .i64 p.mach, .slice (some ⟨bs, offs, none⟩) p.setup.length cS, .slice aJ p.jobs.length cJ] ∧ Blk W bp 22 (Array.replicate p.jobs.length (Value.slice none 0 0)) ∧ Blk W (bp + 1) 3 (ints (List.replicate mm 0)) ∧ Below w.heap.size w W) (fun x _ => mm - (intOf x).toNat)
  case atStart => exact ⟨0, rfl, Nat.zero_le _, hco, hk, hp, hla, hB⟩
  case round =>
    clear hk hp hla hB hco
    obtain ⟨W, rfl⟩ : ∃ W : World, W = wr := ⟨_, rfl⟩
    obtain ⟨m, rfl, hm, hco, hk, hp, hla, hB⟩ := hrel
    have HM := hide HMM.out
    by_cases hlt : m < mm
    · have hmi : (m : Int) < p.mach := by have := HMM.out; omega
      have hmi2 : (m : Int) < (mm : Int) := by omega
      have hsz : m < (ints (List.replicate m (-1) ++ List.replicate (mm - m) 0)).size := by rw [ints_size]; simp; omega
      have HSZ := hide hsz
      clear hsz
      have c0 := hk.cell_ 0 rfl
      have c1 := hk.cell_ 1 rfl
      have c2 := hk.cell_ 2 rfl
      have c3 := hk.cell_ 3 rfl
      have c4 := hk.cell_ 4 rfl
      have c5 := hk.cell_ 5 rfl
      go_wp2_with (refine wpList_store_at rfl 3 _ _ rfl (.int .i64 (-1)) hco rfl rfl (by kernel_rfl) rfl HSZ.out rfl ?_; intro W2 hco2 hc2)
      rw [ints_set] at hco2
      have hco3 : Blk W2 (bp + 1 + 1) 3 (ints (List.replicate (m + 1) (-1) ++ List.replicate (mm - (m + 1)) 0)) := by
        have : (List.replicate m (-1 : Int) ++ List.replicate (mm - m) 0).set m (-1) = List.replicate (m + 1) (-1) ++ List.replicate (mm - (m + 1)) 0 := by
          obtain ⟨q, hq⟩ : ∃ q, mm - m = q + 1 := ⟨mm - m - 1, by omega⟩
          rw [hq, show mm - (m + 1) = q by omega]
          exact rep_set m q _ _
        rwa [this] at hco2
      go_roundw
      case rel => exact ⟨m + 1, by go_num, by omega, hco3, hk.chg1 hc2 (by omega), hp.chg1 hc2 (by omega), hla.chg1 hc2 (by omega), hB.trans (hc2.below1 hB.size (by omega))⟩
      case measure => simp [intOf]; omega
    · obtain rfl : m = mm := by omega
      have hmi : ¬ (m : Int) < p.mach := by have := HMM.out; omega
      have c0 := hk.cell_ 0 rfl
      have c1 := hk.cell_ 1 rfl
      have c2 := hk.cell_ 2 rfl
      have c3 := hk.cell_ 3 rfl
      have c4 := hk.cell_ 4 rfl
      have c5 := hk.cell_ 5 rfl
      go_wp2_with fail
      have hla' := hla
      obtain ⟨B0, hB0⟩ : ∃ B0 : Nat, B0 = W.heap.size := ⟨_, rfl⟩
      have hG0 := Grid.start hp
      have e1 := hp.lt
      have e2 := hla.lt
      have e3 := hco.lt
      have e4 := hk.lt
      rw [← hB0] at hG0 e1 e2 e3 e4
      have hle0 : B0 ≤ W.heap.size := by omega
      have hco0 : Blk W (bp + 1 + 1) 3 (ints (List.replicate p.mach.toNat (-1))) := by
        have h1 := HMM.out
        rw [Nat.sub_self] at hco
        rw [show p.mach.toNat = m by omega]
        simpa using hco
      have hla0 : Blk W (bp + 1) 3 (ints (List.replicate p.mach.toNat 0)) := by
        have h1 := HMM.out
        rw [show p.mach.toNat = m by omega]; exact hla
      clear c0 c1 c2 c3 c4 c5
      clear hco hla' hla hp hB0
      go_loopg [7] (total p) (fun gk x W => ∃ (S : DS) (vs : List Value) (La Co : List Int), Hid (iterS p gk S = iterS p (total p) (ds0 p)) ∧ Hid (gk + cnt S.pl = total p) ∧ VS p S ∧ RD p S.last La Co ∧ Grid B0 W bp vs S.pl ∧ Blk W (bp + 1) 3 (ints La) ∧ Blk W (bp + 1 + 1) 3 (ints Co) ∧ B0 ≤ W.heap.size ∧ Blk W w.heap.size 25 #[.int .i64 p.op, .int .i64 p.cl, .slice aH p.hol.length cH, .int .i64 p.mach, .slice (some ⟨bs, offs, none⟩) p.setup.length cS, .slice aJ p.jobs.length cJ] ∧ Below w.heap.size w W)
      case atStart => exact ⟨ds0 p, _, _, _, hide rfl, hide (by rw [cnt_start]; omega), VS.start p, RD.start p (by omega), hG0, hla0, hco0, hle0, hk, hB⟩
      case round =>
        clear hk hB hG0 hla0 hco0 hle0
        obtain ⟨W, rfl⟩ : ∃ W : World, W = wr := ⟨_, rfl⟩
        obtain ⟨S, vs, La, Co, HIT, HCN, hVS, hRD, hG, hla, hco, hle, hk, hB⟩ := hrel
        have c0 := hk.cell_ 0 rfl
        have c1 := hk.cell_ 1 rfl
        have c2 := hk.cell_ 2 rfl
        have c3 := hk.cell_ 3 rfl
        have c4 := hk.cell_ 4 rfl
        have c5 := hk.cell_ 5 rfl
        go_wp2_with fail
        clear c0 c1 c2 c3 c4 c5
        go_loopw [7, 8, 9] (fun a b c W => ∃ (j : Nat) (acc : Option (Nat × Int)), a = .int .i64 (accB acc) ∧ b = .int .i64 (accT acc) ∧ c = .int .i64 j ∧ j ≤ p.jobs.length ∧ Hid (bestF p S = bestFrom p S.last j (p.jobs.drop j) (S.pl.drop j) acc) ∧ AccOk p S acc ∧ Blk W w.heap.size 25 #[.int .i64 p.op, .int .i64 p.cl, .slice aH p.hol.length cH, .int .i64 p.mach, .slice (some ⟨bs, offs, none⟩) p.setup.length cS, .slice aJ p.jobs.length cJ] ∧ Blk W (bp + 1) 3 (ints La) ∧ Grid B0 W bp vs S.pl ∧ Blk W (bp + 1 + 1) 3 (ints Co) ∧ B0 ≤ W.heap.size ∧ Below w.heap.size w W) (fun a b c _ => p.jobs.length - (intOf c).toNat)
        case atStart => exact ⟨0, none, rfl, rfl, rfl, Nat.zero_le _, hide rfl, (fun b t h => by cases h), hk, hla, hG, hco, hle, hB⟩
        case round =>
          clear hk hB hG hla hco hle
          obtain ⟨W, rfl⟩ : ∃ W : World, W = wr := ⟨_, rfl⟩
          obtain ⟨j, acc, rfl, rfl, rfl, hj, HS, hAc, hk, hla, hG, hco, hle, hB⟩ := hrel
          by_cases hlt : j < p.jobs.length
          · obtain ⟨st, hst⟩ : ∃ st, p.jobs[j]? = some st := ⟨_, List.getElem?_eq_getElem hlt⟩
            obtain ⟨l, hl⟩ : ∃ l, S.pl[j]? = some l := ⟨_, List.getElem?_eq_getElem (by rw [hVS.len]; exact hlt)⟩
            have hrw := (hVS.row j st l hst hl).1
            have hsl := (hv.steps j st hst).1
            obtain ⟨b, off, A', c', hA', hb0, hc, hSl⟩ := job_at (hS.on hB).jobs hst
            dsimp only at hA'
            subst hA'
            obtain ⟨v, hvs, hown, hcv⟩ := hG.row hl
            obtain ⟨A2, c2, rfl, _⟩ := hown.form fun _ => rfl
            have HDR := hide (bestFrom_drop (p := p) (last := S.last) (acc := acc) hst hl)
            have HX := hide (And.intro hst hl)
            clear hst hl hvs hown
            have hji : (j : Int) < (p.jobs.length : Int) := by omega
            have c0 := hk.cell_ 0 rfl
            have c1 := hk.cell_ 1 rfl
            have c2 := hk.cell_ 2 rfl
            have c3 := hk.cell_ 3 rfl
            have c4 := hk.cell_ 4 rfl
            have c5 := hk.cell_ 5 rfl
            by_cases hfull : l.length = st.length
            · have hbq : ((l.length : Int) == (st.length : Int)) = true := by simp; omega
              have HC : Hid (candT p S.last st l = none) := by show _ = _; unfold candT; rw [List.getElem?_eq_none (by omega)]
              have HFULL := hide hfull
              clear hfull
              go_wp2_with fail
              go_roundw
              case rel => exact ⟨j + 1, acc, rfl, rfl, by go_num, by omega, (by show _ = _; rw [HS.out, HDR.out, HC.out]; rfl), hAc, hk, hla, hG, hco, hle, hB⟩
              case measure => simp [intOf]; omega
            · have hbq : ((l.length : Int) == (st.length : Int)) = false := by simp; omega
              obtain ⟨x, hxx⟩ : ∃ x, st[l.length]? = some x := ⟨_, List.getElem?_eq_getElem (by omega)⟩
              obtain ⟨b2, off2, hA2, hb2, d0, d1, d2, d3⟩ := hSl.at4_ hxx
              obtain ⟨t0, hcd⟩ : ∃ t0, candT p S.last st l = some t0 := by unfold candT; rw [hxx]; exact ⟨_, rfl⟩
              obtain ⟨x', hx1, ht1, ht2, ht3⟩ := candT_some hv hVS HX.out.1 HX.out.2 hcd
              obtain rfl : x' = x := by rw [hxx] at hx1; injection hx1 with hx1; exact hx1.symm
              obtain ⟨r1, r2⟩ := rdy_bd hv hVS HX.out.1 HX.out.2
              obtain ⟨p1, p2⟩ := prev_bd hv hVS (x := x') r1 r2
              obtain ⟨m0, m1, xm1, xm2, _, _, _, _⟩ := (hv.steps j st HX.out.1).2 _ _ hxx
              have htl := total_le hv
              have hcl := hVS.cnt_le
              have hbd1 : bd (cnt S.pl) + 11440 ≤ 1000000000 := by unfold bd; omega
              have hbd2 : bd (cnt S.pl + 1) ≤ 1000000000 := by unfold bd; push_cast; omega
              have hbd3 : bd (cnt S.pl) ≤ 1000000000 := by omega
              have HT1 := hide ht1
              have HCD := hide hcd
              have hli : (l.length : Int) < (st.length : Int) := by omega
              have HRB := hide (fun (i : Nat) t (h : l[i]? = some t) => show 0 ≤ t ∧ t ≤ 1000000000 by have := (hVS.row j st l HX.out.1 HX.out.2).2 i t h; omega)
              clear hxx hcd hx1 ht1
              subst hA2
              have q_c0 := (hk.alloc (.cells #[.int .i64 x'.m, .int .i64 x'.mi, .int .i64 x'.c, .int .i64 x'.d] 69)).cell_ 0 rfl
              have q_c1 := (hk.alloc (.cells #[.int .i64 x'.m, .int .i64 x'.mi, .int .i64 x'.c, .int .i64 x'.d] 69)).cell_ 1 rfl
              have q_c2 := (hk.alloc (.cells #[.int .i64 x'.m, .int .i64 x'.mi, .int .i64 x'.c, .int .i64 x'.d] 69)).cell_ 2 rfl
              have q_c3 := (hk.alloc (.cells #[.int .i64 x'.m, .int .i64 x'.mi, .int .i64 x'.c, .int .i64 x'.d] 69)).cell_ 3 rfl
              have q_c4 := (hk.alloc (.cells #[.int .i64 x'.m, .int .i64 x'.mi, .int .i64 x'.c, .int .i64 x'.d] 69)).cell_ 4 rfl
              have q_c5 := (hk.alloc (.cells #[.int .i64 x'.m, .int .i64 x'.mi, .int .i64 x'.c, .int .i64 x'.d] 69)).cell_ 5 rfl
              go_wp2_with fail
              clear q_c0 q_c1 q_c2 q_c3 q_c4 q_c5
              clear c0 c1 c2 c3 c4 c5
              have hx := Blk.new W 69 #[.int .i64 x'.m, .int .i64 x'.mi, .int .i64 x'.c, .int .i64 x'.d]
              replace hk := hk.alloc (.cells #[.int .i64 x'.m, .int .i64 x'.mi, .int .i64 x'.c, .int .i64 x'.d] 69)
              replace hla := hla.alloc (.cells #[.int .i64 x'.m, .int .i64 x'.mi, .int .i64 x'.c, .int .i64 x'.d] 69)
              replace hG := hG.below ((Below.refl _ W).alloc (Nat.le_refl _) (.cells #[.int .i64 x'.m, .int .i64 x'.mi, .int .i64 x'.c, .int .i64 x'.d] 69))
              replace hco := hco.alloc (.cells #[.int .i64 x'.m, .int .i64 x'.mi, .int .i64 x'.c, .int .i64 x'.d] 69)
              replace hle := Nat.le_trans hle ((Below.refl _ W).alloc (Nat.le_refl _) (.cells #[.int .i64 x'.m, .int .i64 x'.mi, .int .i64 x'.c, .int .i64 x'.d] 69)).size
              replace hB := hB.alloc hB.size (.cells #[.int .i64 x'.m, .int .i64 x'.mi, .int .i64 x'.c, .int .i64 x'.d] 69)
              generalize W.alloc (.cells #[.int .i64 x'.m, .int .i64 x'.mi, .int .i64 x'.c, .int .i64 x'.d] 69) = W at *
              have c0 := hk.cell_ 0 rfl
              have c1 := hk.cell_ 1 rfl
              have c2 := hk.cell_ 2 rfl
              have c3 := hk.cell_ 3 rfl
              have c4 := hk.cell_ 4 rfl
              have c5 := hk.cell_ 5 rfl
              have x0 := hx.cell_ 0 rfl
              have x1 := hx.cell_ 1 rfl
              have x2 := hx.cell_ 2 rfl
              have x3 := hx.cell_ 3 rfl
              clear hc d0 d1 d2 d3 hcv
              go_wp2_with fail
              refine (readyL_n ⟨p, aH, cH, some ⟨bs, offs, none⟩, cS, some ⟨b, off, none⟩, cJ⟩ (some ⟨bp, 0, none⟩) p.jobs.length p.jobs.length S.pl j st l _ hVS.len (hS.on hB) hv hG.plan_ HX.out.1 HX.out.2 hrw HRB.out).mono ?_
              rintro e W ⟨rfl, hb⟩
              clear c0 c1 c2 c3 c4 c5 x0 x1 x2 x3
              replace hk := hk.below hb hk.lt
              replace hla := hla.below hb hla.lt
              replace hG := hG.below hb
              replace hco := hco.below hb hco.lt
              replace hle := Nat.le_trans hle hb.size
              replace hx := hx.below hb hx.lt
              replace hB := hB.trans (hb.mono hB.size)
              clear hb
              have c0 := hk.cell_ 0 rfl
              have c1 := hk.cell_ 1 rfl
              have c2 := hk.cell_ 2 rfl
              have c3 := hk.cell_ 3 rfl
              have c4 := hk.cell_ 4 rfl
              have c5 := hk.cell_ 5 rfl
              have x0 := hx.cell_ 0 rfl
              have x1 := hx.cell_ 1 rfl
              have x2 := hx.cell_ 2 rfl
              have x3 := hx.cell_ 3 rfl
              generalize hr : rdy st l = r at *
              have HR := hide hr
              clear hr
              have hmx : ((x'.m.toNat : Nat) : Int) = x'.m := by omega
              have HMX := hide hmx
              clear hmx
              have hmi : x'.m < (m : Int) := by have := HMM.out; omega
              cases hlk : look S.last x'.m with
              | none =>
                have hco1 := hco.cell_ x'.m.toNat (ints_get (hRD.no x'.m.toNat (by omega) (by rw [HMX.out]; exact hlk)))
                have HPV : Hid (prevF p S.last x' r = r) := by show _ = _; unfold prevF; rw [hlk]
                clear hlk
                go_wp2_with fail
                refine (refNext_any ⟨p, aH, cH, some ⟨bs, offs, none⟩, cS, some ⟨b, off, none⟩, cJ⟩ (r) x'.mi _ (hS.on hB) hv (by omega) (by omega) xm1 xm2).mono ?_
                rintro e W ⟨rfl, hb⟩
                clear c0 c1 c2 c3 c4 c5 x0 x1 x2 x3
                replace hk := hk.below hb hk.lt
                replace hla := hla.below hb hla.lt
                replace hG := hG.below hb
                replace hco := hco.below hb hco.lt
                replace hle := Nat.le_trans hle hb.size
                replace hx := hx.below hb hx.lt
                replace hB := hB.trans (hb.mono hB.size)
                clear hb
                have c0 := hk.cell_ 0 rfl
                have c1 := hk.cell_ 1 rfl
                have c2 := hk.cell_ 2 rfl
                have c3 := hk.cell_ 3 rfl
                have c4 := hk.cell_ 4 rfl
                have c5 := hk.cell_ 5 rfl
                have x0 := hx.cell_ 0 rfl
                have x1 := hx.cell_ 1 rfl
                have x2 := hx.cell_ 2 rfl
                have x3 := hx.cell_ 3 rfl
                have ht4 : nextF p (r) x'.mi = t0 := by rw [HT1.out, HPV.out]
                rw [ht4]
                clear ht4
                cases acc with
                | none =>
                  have eb : accB (none : Option (Nat × Int)) = -1 := rfl
                  have HUP : Hid (upd none j (candT p S.last st l) = some (j, t0)) := by show _ = _; rw [HCD.out]; rfl
                  go_wp2_with fail
                  go_roundw
                  case rel => exact ⟨j + 1, some (j, t0), rfl, rfl, by go_num, by omega, (by show _ = _; rw [HS.out, HDR.out, HUP.out]), (fun b t h => by injection h with h; injection h with h1 h2; subst h1 h2; exact ⟨ht2, by omega, hlt⟩), hk, hla, hG, hco, hle, hB⟩
                  case measure => simp [intOf]; omega
                | some q =>
                  obtain ⟨b0, w0⟩ := q
                  obtain ⟨a1, a2, a3⟩ := hAc b0 w0 rfl
                  have eb : accB (some (b0, w0)) = (b0 : Int) := rfl
                  have et : accT (some (b0, w0)) = w0 := rfl
                  have eb2 : ¬ (b0 : Int) < 0 := by omega
                  have eb3 : decide ((b0 : Int) < 0) = false := decide_eq_false eb2
                  by_cases htw : t0 < w0
                  · have htw2 : decide (t0 < w0) = true := decide_eq_true htw
                    have HUP : Hid (upd (some (b0, w0)) j (candT p S.last st l) = some (j, t0)) := by show _ = _; rw [HCD.out]; unfold upd; simp [htw]
                    go_wp2_with fail
                    go_roundw
                    case rel => exact ⟨j + 1, some (j, t0), rfl, rfl, by go_num, by omega, (by show _ = _; rw [HS.out, HDR.out, HUP.out]), (fun b t h => by injection h with h; injection h with h1 h2; subst h1 h2; exact ⟨ht2, by omega, hlt⟩), hk, hla, hG, hco, hle, hB⟩
                    case measure => simp [intOf]; omega
                  · have htw2 : decide (t0 < w0) = false := decide_eq_false htw
                    have HUP : Hid (upd (some (b0, w0)) j (candT p S.last st l) = some (b0, w0)) := by show _ = _; rw [HCD.out]; unfold upd; simp [htw]
                    go_wp2_with fail
                    go_roundw
                    case rel => exact ⟨j + 1, some (b0, w0), rfl, rfl, by go_num, by omega, (by show _ = _; rw [HS.out, HDR.out, HUP.out]), hAc, hk, hla, hG, hco, hle, hB⟩
                    case measure => simp [intOf]; omega
              | some bb =>
                obtain ⟨hf, hbm, hc0, hc9, hbt⟩ := hVS.last _ bb hlk
                obtain ⟨g1, g2⟩ := hRD.yes x'.m.toNat bb (by rw [HMX.out]; exact hlk)
                have hco1 := hco.cell_ x'.m.toNat (ints_get g1)
                have hla1 := hla.cell_ x'.m.toNat (ints_get g2)
                obtain ⟨hsu, hs0, hs1⟩ := setup_get hv (m := x'.m) m0 (by omega)
                obtain ⟨bs', offs', hA', hbs', hcs⟩ := int_at (hS.on hB).setup hsu
                injection hA' with hA'
                injection hA' with h7 h8
                subst h7 h8
                have hsl2 : x'.m < (p.setup.length : Int) := by have := hv.setn; omega
                have HPV0 : Hid (prevF p S.last x' r = max r (roomF p bb x'.c)) := by show _ = _; unfold prevF; rw [hlk]
                have hft := hf.t0
                have hfm := hf.mi0
                have hfm1 := hf.mi1
                have HBM := hide hbm
                have hge : ¬ bb.x.c < 0 := by omega
                clear hlk g1 g2 hsu hbm
                by_cases hcc : bb.x.c = x'.c
                · have hc1 : (bb.x.c != x'.c) = false := by simpa using hcc
                  have HRM : Hid (roomF p bb x'.c = bb.t + bb.x.mi) := by show _ = _; unfold roomF; rw [if_pos hcc]; rfl
                  have HCC := hide hcc
                  clear hcc
                  by_cases hrw2 : r < (bb.t + bb.x.mi)
                  · have hmx1 : decide (r < (bb.t + bb.x.mi)) = true := decide_eq_true hrw2
                    have hmx2 : r ≤ (bb.t + bb.x.mi) := by omega
                    have HPV : Hid (prevF p S.last x' r = (bb.t + bb.x.mi)) := by show _ = _; rw [HPV0.out, HRM.out]; exact Int.max_eq_right hmx2
                    go_wp2_with fail
                    refine (refNext_any ⟨p, aH, cH, some ⟨bs, offs, none⟩, cS, some ⟨b, off, none⟩, cJ⟩ ((bb.t + bb.x.mi)) x'.mi _ (hS.on hB) hv (by omega) (by omega) xm1 xm2).mono ?_
                    rintro e W ⟨rfl, hb⟩
                    clear c0 c1 c2 c3 c4 c5 x0 x1 x2 x3
                    replace hk := hk.below hb hk.lt
                    replace hla := hla.below hb hla.lt
                    replace hG := hG.below hb
                    replace hco := hco.below hb hco.lt
                    replace hle := Nat.le_trans hle hb.size
                    replace hx := hx.below hb hx.lt
                    replace hB := hB.trans (hb.mono hB.size)
                    clear hb
                    have c0 := hk.cell_ 0 rfl
                    have c1 := hk.cell_ 1 rfl
                    have c2 := hk.cell_ 2 rfl
                    have c3 := hk.cell_ 3 rfl
                    have c4 := hk.cell_ 4 rfl
                    have c5 := hk.cell_ 5 rfl
                    have x0 := hx.cell_ 0 rfl
                    have x1 := hx.cell_ 1 rfl
                    have x2 := hx.cell_ 2 rfl
                    have x3 := hx.cell_ 3 rfl
                    have ht4 : nextF p ((bb.t + bb.x.mi)) x'.mi = t0 := by rw [HT1.out, HPV.out]
                    rw [ht4]
                    clear ht4
                    cases acc with
                    | none =>
                      have eb : accB (none : Option (Nat × Int)) = -1 := rfl
                      have HUP : Hid (upd none j (candT p S.last st l) = some (j, t0)) := by show _ = _; rw [HCD.out]; rfl
                      go_wp2_with fail
                      go_roundw
                      case rel => exact ⟨j + 1, some (j, t0), rfl, rfl, by go_num, by omega, (by show _ = _; rw [HS.out, HDR.out, HUP.out]), (fun b t h => by injection h with h; injection h with h1 h2; subst h1 h2; exact ⟨ht2, by omega, hlt⟩), hk, hla, hG, hco, hle, hB⟩
                      case measure => simp [intOf]; omega
                    | some q =>
                      obtain ⟨b0, w0⟩ := q
                      obtain ⟨a1, a2, a3⟩ := hAc b0 w0 rfl
                      have eb : accB (some (b0, w0)) = (b0 : Int) := rfl
                      have et : accT (some (b0, w0)) = w0 := rfl
                      have eb2 : ¬ (b0 : Int) < 0 := by omega
                      have eb3 : decide ((b0 : Int) < 0) = false := decide_eq_false eb2
                      by_cases htw : t0 < w0
                      · have htw2 : decide (t0 < w0) = true := decide_eq_true htw
                        have HUP : Hid (upd (some (b0, w0)) j (candT p S.last st l) = some (j, t0)) := by show _ = _; rw [HCD.out]; unfold upd; simp [htw]
                        go_wp2_with fail
                        go_roundw
                        case rel => exact ⟨j + 1, some (j, t0), rfl, rfl, by go_num, by omega, (by show _ = _; rw [HS.out, HDR.out, HUP.out]), (fun b t h => by injection h with h; injection h with h1 h2; subst h1 h2; exact ⟨ht2, by omega, hlt⟩), hk, hla, hG, hco, hle, hB⟩
                        case measure => simp [intOf]; omega
                      · have htw2 : decide (t0 < w0) = false := decide_eq_false htw
                        have HUP : Hid (upd (some (b0, w0)) j (candT p S.last st l) = some (b0, w0)) := by show _ = _; rw [HCD.out]; unfold upd; simp [htw]
                        go_wp2_with fail
                        go_roundw
                        case rel => exact ⟨j + 1, some (b0, w0), rfl, rfl, by go_num, by omega, (by show _ = _; rw [HS.out, HDR.out, HUP.out]), hAc, hk, hla, hG, hco, hle, hB⟩
                        case measure => simp [intOf]; omega
                  · have hmx1 : decide (r < (bb.t + bb.x.mi)) = false := decide_eq_false hrw2
                    have hmx2 : (bb.t + bb.x.mi) ≤ r := by omega
                    have HPV : Hid (prevF p S.last x' r = r) := by show _ = _; rw [HPV0.out, HRM.out]; exact Int.max_eq_left hmx2
                    go_wp2_with fail
                    refine (refNext_any ⟨p, aH, cH, some ⟨bs, offs, none⟩, cS, some ⟨b, off, none⟩, cJ⟩ (r) x'.mi _ (hS.on hB) hv (by omega) (by omega) xm1 xm2).mono ?_
                    rintro e W ⟨rfl, hb⟩
                    clear c0 c1 c2 c3 c4 c5 x0 x1 x2 x3
                    replace hk := hk.below hb hk.lt
                    replace hla := hla.below hb hla.lt
                    replace hG := hG.below hb
                    replace hco := hco.below hb hco.lt
                    replace hle := Nat.le_trans hle hb.size
                    replace hx := hx.below hb hx.lt
                    replace hB := hB.trans (hb.mono hB.size)
                    clear hb
                    have c0 := hk.cell_ 0 rfl
                    have c1 := hk.cell_ 1 rfl
                    have c2 := hk.cell_ 2 rfl
                    have c3 := hk.cell_ 3 rfl
                    have c4 := hk.cell_ 4 rfl
                    have c5 := hk.cell_ 5 rfl
                    have x0 := hx.cell_ 0 rfl
                    have x1 := hx.cell_ 1 rfl
                    have x2 := hx.cell_ 2 rfl
                    have x3 := hx.cell_ 3 rfl
                    have ht4 : nextF p (r) x'.mi = t0 := by rw [HT1.out, HPV.out]
                    rw [ht4]
                    clear ht4
                    cases acc with
                    | none =>
                      have eb : accB (none : Option (Nat × Int)) = -1 := rfl
                      have HUP : Hid (upd none j (candT p S.last st l) = some (j, t0)) := by show _ = _; rw [HCD.out]; rfl
                      go_wp2_with fail
                      go_roundw
                      case rel => exact ⟨j + 1, some (j, t0), rfl, rfl, by go_num, by omega, (by show _ = _; rw [HS.out, HDR.out, HUP.out]), (fun b t h => by injection h with h; injection h with h1 h2; subst h1 h2; exact ⟨ht2, by omega, hlt⟩), hk, hla, hG, hco, hle, hB⟩
                      case measure => simp [intOf]; omega
                    | some q =>
                      obtain ⟨b0, w0⟩ := q
                      obtain ⟨a1, a2, a3⟩ := hAc b0 w0 rfl
                      have eb : accB (some (b0, w0)) = (b0 : Int) := rfl
                      have et : accT (some (b0, w0)) = w0 := rfl
                      have eb2 : ¬ (b0 : Int) < 0 := by omega
                      have eb3 : decide ((b0 : Int) < 0) = false := decide_eq_false eb2
                      by_cases htw : t0 < w0
                      · have htw2 : decide (t0 < w0) = true := decide_eq_true htw
                        have HUP : Hid (upd (some (b0, w0)) j (candT p S.last st l) = some (j, t0)) := by show _ = _; rw [HCD.out]; unfold upd; simp [htw]
                        go_wp2_with fail
                        go_roundw
                        case rel => exact ⟨j + 1, some (j, t0), rfl, rfl, by go_num, by omega, (by show _ = _; rw [HS.out, HDR.out, HUP.out]), (fun b t h => by injection h with h; injection h with h1 h2; subst h1 h2; exact ⟨ht2, by omega, hlt⟩), hk, hla, hG, hco, hle, hB⟩
                        case measure => simp [intOf]; omega
                      · have htw2 : decide (t0 < w0) = false := decide_eq_false htw
                        have HUP : Hid (upd (some (b0, w0)) j (candT p S.last st l) = some (b0, w0)) := by show _ = _; rw [HCD.out]; unfold upd; simp [htw]
                        go_wp2_with fail
                        go_roundw
                        case rel => exact ⟨j + 1, some (b0, w0), rfl, rfl, by go_num, by omega, (by show _ = _; rw [HS.out, HDR.out, HUP.out]), hAc, hk, hla, hG, hco, hle, hB⟩
                        case measure => simp [intOf]; omega
                · have hc1 : (bb.x.c != x'.c) = true := by simpa using hcc
                  have HRM : Hid (roomF p bb x'.c = bb.t + bb.x.mi + setupOf p x'.m) := by show _ = _; unfold roomF; rw [if_neg hcc, HBM.out]; rfl
                  have HCC := hide hcc
                  clear hcc
                  by_cases hrw2 : r < (bb.t + bb.x.mi + setupOf p x'.m)
                  · have hmx1 : decide (r < (bb.t + bb.x.mi + setupOf p x'.m)) = true := decide_eq_true hrw2
                    have hmx2 : r ≤ (bb.t + bb.x.mi + setupOf p x'.m) := by omega
                    have HPV : Hid (prevF p S.last x' r = (bb.t + bb.x.mi + setupOf p x'.m)) := by show _ = _; rw [HPV0.out, HRM.out]; exact Int.max_eq_right hmx2
                    go_wp2_with fail
                    refine (refNext_any ⟨p, aH, cH, some ⟨bs, offs, none⟩, cS, some ⟨b, off, none⟩, cJ⟩ ((bb.t + bb.x.mi + setupOf p x'.m)) x'.mi _ (hS.on hB) hv (by omega) (by omega) xm1 xm2).mono ?_
                    rintro e W ⟨rfl, hb⟩
                    clear c0 c1 c2 c3 c4 c5 x0 x1 x2 x3
                    replace hk := hk.below hb hk.lt
                    replace hla := hla.below hb hla.lt
                    replace hG := hG.below hb
                    replace hco := hco.below hb hco.lt
                    replace hle := Nat.le_trans hle hb.size
                    replace hx := hx.below hb hx.lt
                    replace hB := hB.trans (hb.mono hB.size)
                    clear hb
                    have c0 := hk.cell_ 0 rfl
                    have c1 := hk.cell_ 1 rfl
                    have c2 := hk.cell_ 2 rfl
                    have c3 := hk.cell_ 3 rfl
                    have c4 := hk.cell_ 4 rfl
                    have c5 := hk.cell_ 5 rfl
                    have x0 := hx.cell_ 0 rfl
                    have x1 := hx.cell_ 1 rfl
                    have x2 := hx.cell_ 2 rfl
                    have x3 := hx.cell_ 3 rfl
                    have ht4 : nextF p ((bb.t + bb.x.mi + setupOf p x'.m)) x'.mi = t0 := by rw [HT1.out, HPV.out]
                    rw [ht4]
                    clear ht4
                    cases acc with
                    | none =>
                      have eb : accB (none : Option (Nat × Int)) = -1 := rfl
                      have HUP : Hid (upd none j (candT p S.last st l) = some (j, t0)) := by show _ = _; rw [HCD.out]; rfl
                      go_wp2_with fail
                      go_roundw
                      case rel => exact ⟨j + 1, some (j, t0), rfl, rfl, by go_num, by omega, (by show _ = _; rw [HS.out, HDR.out, HUP.out]), (fun b t h => by injection h with h; injection h with h1 h2; subst h1 h2; exact ⟨ht2, by omega, hlt⟩), hk, hla, hG, hco, hle, hB⟩
                      case measure => simp [intOf]; omega
                    | some q =>
                      obtain ⟨b0, w0⟩ := q
                      obtain ⟨a1, a2, a3⟩ := hAc b0 w0 rfl
                      have eb : accB (some (b0, w0)) = (b0 : Int) := rfl
                      have et : accT (some (b0, w0)) = w0 := rfl
                      have eb2 : ¬ (b0 : Int) < 0 := by omega
                      have eb3 : decide ((b0 : Int) < 0) = false := decide_eq_false eb2
                      by_cases htw : t0 < w0
                      · have htw2 : decide (t0 < w0) = true := decide_eq_true htw
                        have HUP : Hid (upd (some (b0, w0)) j (candT p S.last st l) = some (j, t0)) := by show _ = _; rw [HCD.out]; unfold upd; simp [htw]
                        go_wp2_with fail
                        go_roundw
                        case rel => exact ⟨j + 1, some (j, t0), rfl, rfl, by go_num, by omega, (by show _ = _; rw [HS.out, HDR.out, HUP.out]), (fun b t h => by injection h with h; injection h with h1 h2; subst h1 h2; exact ⟨ht2, by omega, hlt⟩), hk, hla, hG, hco, hle, hB⟩
                        case measure => simp [intOf]; omega
                      · have htw2 : decide (t0 < w0) = false := decide_eq_false htw
                        have HUP : Hid (upd (some (b0, w0)) j (candT p S.last st l) = some (b0, w0)) := by show _ = _; rw [HCD.out]; unfold upd; simp [htw]
                        go_wp2_with fail
                        go_roundw
                        case rel => exact ⟨j + 1, some (b0, w0), rfl, rfl, by go_num, by omega, (by show _ = _; rw [HS.out, HDR.out, HUP.out]), hAc, hk, hla, hG, hco, hle, hB⟩
                        case measure => simp [intOf]; omega
                  · have hmx1 : decide (r < (bb.t + bb.x.mi + setupOf p x'.m)) = false := decide_eq_false hrw2
                    have hmx2 : (bb.t + bb.x.mi + setupOf p x'.m) ≤ r := by omega
                    have HPV : Hid (prevF p S.last x' r = r) := by show _ = _; rw [HPV0.out, HRM.out]; exact Int.max_eq_left hmx2
                    go_wp2_with fail
                    refine (refNext_any ⟨p, aH, cH, some ⟨bs, offs, none⟩, cS, some ⟨b, off, none⟩, cJ⟩ (r) x'.mi _ (hS.on hB) hv (by omega) (by omega) xm1 xm2).mono ?_
                    rintro e W ⟨rfl, hb⟩
                    clear c0 c1 c2 c3 c4 c5 x0 x1 x2 x3
                    replace hk := hk.below hb hk.lt
                    replace hla := hla.below hb hla.lt
                    replace hG := hG.below hb
                    replace hco := hco.below hb hco.lt
                    replace hle := Nat.le_trans hle hb.size
                    replace hx := hx.below hb hx.lt
                    replace hB := hB.trans (hb.mono hB.size)
                    clear hb
                    have c0 := hk.cell_ 0 rfl
                    have c1 := hk.cell_ 1 rfl
                    have c2 := hk.cell_ 2 rfl
                    have c3 := hk.cell_ 3 rfl
                    have c4 := hk.cell_ 4 rfl
                    have c5 := hk.cell_ 5 rfl
                    have x0 := hx.cell_ 0 rfl
                    have x1 := hx.cell_ 1 rfl
                    have x2 := hx.cell_ 2 rfl
                    have x3 := hx.cell_ 3 rfl
                    have ht4 : nextF p (r) x'.mi = t0 := by rw [HT1.out, HPV.out]
                    rw [ht4]
                    clear ht4
                    cases acc with
                    | none =>
                      have eb : accB (none : Option (Nat × Int)) = -1 := rfl
                      have HUP : Hid (upd none j (candT p S.last st l) = some (j, t0)) := by show _ = _; rw [HCD.out]; rfl
                      go_wp2_with fail
                      go_roundw
                      case rel => exact ⟨j + 1, some (j, t0), rfl, rfl, by go_num, by omega, (by show _ = _; rw [HS.out, HDR.out, HUP.out]), (fun b t h => by injection h with h; injection h with h1 h2; subst h1 h2; exact ⟨ht2, by omega, hlt⟩), hk, hla, hG, hco, hle, hB⟩
                      case measure => simp [intOf]; omega
                    | some q =>
                      obtain ⟨b0, w0⟩ := q
                      obtain ⟨a1, a2, a3⟩ := hAc b0 w0 rfl
                      have eb : accB (some (b0, w0)) = (b0 : Int) := rfl
                      have et : accT (some (b0, w0)) = w0 := rfl
                      have eb2 : ¬ (b0 : Int) < 0 := by omega
                      have eb3 : decide ((b0 : Int) < 0) = false := decide_eq_false eb2
                      by_cases htw : t0 < w0
                      · have htw2 : decide (t0 < w0) = true := decide_eq_true htw
                        have HUP : Hid (upd (some (b0, w0)) j (candT p S.last st l) = some (j, t0)) := by show _ = _; rw [HCD.out]; unfold upd; simp [htw]
                        go_wp2_with fail
                        go_roundw
                        case rel => exact ⟨j + 1, some (j, t0), rfl, rfl, by go_num, by omega, (by show _ = _; rw [HS.out, HDR.out, HUP.out]), (fun b t h => by injection h with h; injection h with h1 h2; subst h1 h2; exact ⟨ht2, by omega, hlt⟩), hk, hla, hG, hco, hle, hB⟩
                        case measure => simp [intOf]; omega
                      · have htw2 : decide (t0 < w0) = false := decide_eq_false htw
                        have HUP : Hid (upd (some (b0, w0)) j (candT p S.last st l) = some (b0, w0)) := by show _ = _; rw [HCD.out]; unfold upd; simp [htw]
                        go_wp2_with fail
                        go_roundw
                        case rel => exact ⟨j + 1, some (b0, w0), rfl, rfl, by go_num, by omega, (by show _ = _; rw [HS.out, HDR.out, HUP.out]), hAc, hk, hla, hG, hco, hle, hB⟩
                        case measure => simp [intOf]; omega
          · obtain rfl : j = p.jobs.length := by omega
            have HBF : Hid (bestF p S = acc) := by show _ = _; rw [HS.out, nomore]; simp [bestFrom]
            cases acc with
            | none =>
              have eb : accB (none : Option (Nat × Int)) = -1 := rfl
              have hfin : dispF p = S.pl := by unfold dispF; rw [← HIT.out, iterS_none HBF.out]
              have HFIN := hide hfin
              clear hfin
              have c0 := hk.cell_ 0 rfl
              have c1 := hk.cell_ 1 rfl
              have c2 := hk.cell_ 2 rfl
              have c3 := hk.cell_ 3 rfl
              have c4 := hk.cell_ 4 rfl
              have c5 := hk.cell_ 5 rfl
              go_wp2_with fail
              go_ret
              exact ⟨some ⟨bp, 0, none⟩, p.jobs.length, by rw [HFIN.out, hVS.len]; rfl, hB, by rw [HFIN.out]; exact hG.plan_⟩
            | some q =>
              obtain ⟨b0, t0⟩ := q
              obtain ⟨st, l, x, h1, h2, h3, h4, h5, h6, h7⟩ := best_at hv hVS HBF.out
              clear h4
              obtain ⟨hVS2, hcn2⟩ := hVS.put_ hv HBF.out
              obtain ⟨m0, m1, xm1, xm2, _, _, _, _⟩ := (hv.steps b0 st h1).2 _ _ h3
              have htl := total_le hv
              have hcl := hVS.cnt_le
              have hbd2 : bd (cnt S.pl + 1) ≤ 1000000000 := by unfold bd; push_cast; omega
              have hxl := (List.getElem?_eq_some_iff.1 h3).1
              have hs8 := (hv.steps b0 st h1).1
              have hjl := (List.getElem?_eq_some_iff.1 h1).1
              have hbi : (b0 : Int) < (p.jobs.length : Int) := by omega
              have hli : (l.length : Int) < (st.length : Int) := by omega
              have hRD2 := hRD.put_ (a := ⟨b0, l.length, t0, x⟩) m0 (by show x.m < _; omega)
              have HPE := hide (putS_eq t0 h1 h2 h3)
              obtain ⟨b, off, A', c', hA', hb0, hc, hSl⟩ := job_at (hS.on hB).jobs h1
              dsimp only at hA'
              subst hA'
              obtain ⟨b2, off2, hA2, hb2, d0, d1, d2, d3⟩ := hSl.at4_ h3
              subst hA2
              obtain ⟨v, hvs, hown, hcv⟩ := hG.row h2
              obtain ⟨A2, c2, rfl, _⟩ := hown.form fun _ => rfl
              have eb : accB (some (b0, t0)) = (b0 : Int) := rfl
              have et : accT (some (b0, t0)) = t0 := rfl
              have eb2 : ¬ (b0 : Int) < 0 := by omega
              have HH := hide (And.intro h1 (And.intro h2 (And.intro h3 hvs)))
              have HIT2 : Hid (iterS p (gk - 1) (putS p S b0 t0) = iterS p (total p) (ds0 p)) := by
                show _ = _
                have := HCN.out
                rw [← HIT.out, show gk = (gk - 1) + 1 by omega, iterS_some HBF.out]; rfl
              have HCN2 : Hid (gk - 1 + cnt (putS p S b0 t0).pl = total p) := by show _ = _; have := HCN.out; rw [hcn2]; omega
              have hgk := hide (show gk - 1 < gk by have := HCN.out; omega)
              have HVI := hide (show b0 < vs.length by rw [hG.len, hVS.len]; exact hjl)
              have HOL := hide (fun k (hk : (Value.slice A2 l.length c2).ownBlock = some k) => World.ownsRow.lt hown k hk)
              have e1 : IntKind.i64.wrap (t0 + x.mi) = t0 + x.mi := IntWalk.i64_in _ (by have := hv.cl; have := hv.op0; omega)
              have HS1 := hide (show x.m.toNat < (ints La).size by rw [ints_size]; have := hRD.lal; omega)
              have HS2 := hide (show x.m.toNat < (ints Co).size by rw [ints_size]; have := hRD.col; omega)
              have hmi : x.m < (m : Int) := by have := HMM.out; omega
              have hlk := hk.lt
              have hl20 : l.length ≤ 1000000000 := by omega
              have hle9 := hle
              clear h1 h2 h3 hcn2 hvs hown
              have c0 := hk.cell_ 0 rfl
              have c1 := hk.cell_ 1 rfl
              have c2 := hk.cell_ 2 rfl
              have c3 := hk.cell_ 3 rfl
              have c4 := hk.cell_ 4 rfl
              have c5 := hk.cell_ 5 rfl
              go_wp2_with fail
              have z_c0 := hide (fun w' (hb : Below W.heap.size W w') => Since.later hb c0)
              have z_c1 := hide (fun w' (hb : Below W.heap.size W w') => Since.later hb c1)
              have z_c2 := hide (fun w' (hb : Below W.heap.size W w') => Since.later hb c2)
              have z_c3 := hide (fun w' (hb : Below W.heap.size W w') => Since.later hb c3)
              have z_c4 := hide (fun w' (hb : Below W.heap.size W w') => Since.later hb c4)
              have z_c5 := hide (fun w' (hb : Below W.heap.size W w') => Since.later hb c5)
              have z_hc := hide (fun w' (hb : Below W.heap.size W w') => Since.later hb hc)
              have z_hcv := hide (fun w' (hb : Below W.heap.size W w') => Since.later hb hcv)
              have z_d0 := hide (fun w' (hb : Below W.heap.size W w') => Since.later hb d0)
              have z_d1 := hide (fun w' (hb : Below W.heap.size W w') => Since.later hb d1)
              have z_d2 := hide (fun w' (hb : Below W.heap.size W w') => Since.later hb d2)
              have z_d3 := hide (fun w' (hb : Below W.heap.size W w') => Since.later hb d3)
              have hok : FldOk W ([⟨13, .ptr, (.cells #[.int .i64 0, .int .i64 0, .int .i64 0, .int .i64 0] 69), 13, (.cells #[.int .i64 0, .int .i64 0, .int .i64 0, .int .i64 0] 69)⟩]) [] := FldOk.nil_
              refine wp_region_both 14 [0, 1, 2, 3, 4, 5, 6, 7, 8, 9, 10, 11, 12] [13] [⟨13, .ptr, (.cells #[.int .i64 0, .int .i64 0, .int .i64 0, .int .i64 0] 69), 13, (.cells #[.int .i64 0, .int .i64 0, .int .i64 0, .int .i64 0] 69)⟩] [] (fun f hf => by cases hf) (by kernel_rfl) (by kernel_rfl) (by kernel_rfl) (by kernel_rfl) (by kernel_rfl) (by simp) ?_
              apply Exists.intro
              refine ⟨fun W1 hc0 => ?_, ?_⟩
              · have hb := hc0.nil_
                have y_c0 := Since.cell (z_c0.out W1 hb)
                have y_c1 := Since.cell (z_c1.out W1 hb)
                have y_c2 := Since.cell (z_c2.out W1 hb)
                have y_c3 := Since.cell (z_c3.out W1 hb)
                have y_c4 := Since.cell (z_c4.out W1 hb)
                have y_c5 := Since.cell (z_c5.out W1 hb)
                have y_hc := Since.cell (z_hc.out W1 hb)
                have y_hcv := Since.cell (z_hcv.out W1 hb)
                have y_d0 := Since.cell (z_d0.out W1 hb)
                have y_d1 := Since.cell (z_d1.out W1 hb)
                have y_d2 := Since.cell (z_d2.out W1 hb)
                have y_d3 := Since.cell (z_d3.out W1 hb)
                replace hk := hk.below hb hk.lt
                replace hla := hla.below hb hla.lt
                replace hG := hG.below hb
                replace hco := hco.below hb hco.lt
                replace hle := Nat.le_trans hle hb.size
                replace hB := hB.trans (hb.mono hB.size)
                dsimp only [pick, List.filterMap, List.getElem?_cons_succ, List.getElem?_cons_zero]
                repeat (go_big_quiet_step ((fail)))
                exact wpQuiet_nil rfl
              · refine ownWalk_alloc ⟨13, .ptr, (.cells #[.int .i64 0, .int .i64 0, .int .i64 0, .int .i64 0] 69), 13, (.cells #[.int .i64 0, .int .i64 0, .int .i64 0, .int .i64 0] 69)⟩ hok (by kernel_rfl) rfl rfl rfl rfl (fun _ => rfl) (by simp) (by simp) (fun _ => rfl) ?_
                intro gxb
                simp only [Shape.val, List.setIfInBounds_toArray, List.set_cons_succ, List.set_cons_zero]
                refine ownWalk_nil ?_
                intro w' hc0 hD
                have hb := hc0.nil_
                obtain ⟨gxge, gx⟩ := hD.box.get (x := ⟨13, .ptr, (.cells #[.int .i64 0, .int .i64 0, .int .i64 0, .int .i64 0] 69), 13, (.cells #[.int .i64 0, .int .i64 0, .int .i64 0, .int .i64 0] 69)⟩) (o := (.cells #[.int .i64 0, .int .i64 0, .int .i64 0, .int .i64 0] 69)) (by simp) rfl rfl
                replace gx : Blk _ _ _ _ := gx
                clear hD
                try simp only [List.drop_succ_cons, List.drop_zero]
                refine wpList_store_blk rfl 69 _ _ rfl #[.int .i64 x.m, .int .i64 x.mi, .int .i64 x.c, .int .i64 x.d] gx rfl rfl (by kernel_rfl) rfl (by simp [Value.oneCell']) ?_
                clear gx
                intro w0_ gx hoth
                replace hb := hb.trans (hoth.below1 hb.size gxge)
                clear hoth
                try dsimp only [Act.put]
                replace hc : w0_.cell? _ = _ := z_hc.out w0_ hb
                replace hcv : w0_.cell? _ = _ := z_hcv.out w0_ hb
                replace d0 : w0_.cell? _ = _ := z_d0.out w0_ hb
                replace d1 : w0_.cell? _ = _ := z_d1.out w0_ hb
                replace d2 : w0_.cell? _ = _ := z_d2.out w0_ hb
                replace d3 : w0_.cell? _ = _ := z_d3.out w0_ hb
                clear z_c0 z_c1 z_c2 z_c3 z_c4 z_c5 z_hc z_hcv z_d0 z_d1 z_d2 z_d3
                have hWge := hB.size
                clear c0 c1 c2 c3 c4 c5
                replace hk := hk.below hb hk.lt
                replace hla := hla.below hb hla.lt
                replace hG := hG.below hb
                replace hco := hco.below hb hco.lt
                replace hle := Nat.le_trans hle hb.size
                replace hB := hB.trans (hb.mono hB.size)
                clear hb hok hc0
                obtain ⟨W, rfl⟩ : ∃ W : World, W = w0_ := ⟨_, rfl⟩
                have c0 := hk.cell_ 0 rfl
                have c1 := hk.cell_ 1 rfl
                have c2 := hk.cell_ 2 rfl
                have c3 := hk.cell_ 3 rfl
                have c4 := hk.cell_ 4 rfl
                have c5 := hk.cell_ 5 rfl
                have x0 := gx.cell_ 0 rfl
                have x1 := gx.cell_ 1 rfl
                have x2 := gx.cell_ 2 rfl
                have x3 := gx.cell_ 3 rfl
                clear d0 d1 d2 d3 hc
                clear c0 c1 c2 c3 c4 c5 x0 x1 x2 x3
                have hown := hG.own b0 _ l HH.out.2.2.2 HH.out.2.1
                have HSV := hide (show b0 < vs.toArray.size by simpa using HVI.out)
                go_wp2_with (first
                  | (at_builtin; refine wpList_app_lies _ _ rfl rfl et_i (hown.alloc (.cells #[.int .i64 t0] 3)) rfl rfl (y := t0) (Blk.new W 3 #[.int .i64 t0]) rfl rfl rfl hl20 (by simp; omega) ?_; intro g cap W2 hown2 hgr hfr hglt; have hbp2 := (hG.blk.alloc (.cells #[.int .i64 t0] 3)).grownv hgr (fun k hk => by have := HOL.out k hk; have := hG.lo; omega))
                  | (refine wpList_store_at rfl 22 _ _ rfl (.slice (some ⟨g, 0, none⟩) (l.length + 1) cap) hbp2 rfl rfl (by kernel_rfl) rfl HSV.out rfl ?_; intro W3 hbp3 hc3))
                rw [List.setIfInBounds_toArray] at hbp3
                have hal := (Below.refl W.heap.size W).alloc (Nat.le_refl _) (.cells #[.int .i64 t0] 3)
                have hG3 := (hG.below hal).app HH.out.2.2.2 HH.out.2.1 hown2 hgr rfl (hfr.imp id (fun h => Nat.le_of_eq h.symm)) hbp3 hc3
                have q1 : ∀ k, (Value.slice A2 l.length c2).ownBlock = some k → B0 ≤ k ∧ k < gxb := fun k hk => by have := HOL.out k hk; omega
                have hla3 := ((hla.alloc (.cells #[.int .i64 t0] 3)).grownv hgr (fun k hk => by have := q1 k hk; omega)).chg1 hc3 (by omega)
                have hco3 := ((hco.alloc (.cells #[.int .i64 t0] 3)).grownv hgr (fun k hk => by have := q1 k hk; omega)).chg1 hc3 (by omega)
                have hk3 := ((hk.alloc (.cells #[.int .i64 t0] 3)).grownv hgr (fun k hk => by have := q1 k hk; omega)).chg1 hc3 (by omega)
                have hx3 := ((gx.alloc (.cells #[.int .i64 t0] 3)).grownv hgr (fun k hk => by have := q1 k hk; omega)).chg1 hc3 (by omega)
                have hb1 : Below w.heap.size w (W.alloc (.cells #[.int .i64 t0] 3)) := hB.trans (hal.mono hB.size)
                have hb2 := hb1.trans (grownv_below hgr hb1.size (fun k hk => by have := q1 k hk; omega))
                have hB3 := hb2.trans (hc3.below1 hb2.size (by omega))
                have hle3 : B0 ≤ W3.heap.size := by have h1 := hgr.size; have h2 := hc3.size; have h3 := hal.size; omega
                clear hk hla hG hco hB hle gx hown hown2 hgr hfr hglt hbp2 hbp3 hc3 hal q1 hb1 hb2 hcv
                obtain ⟨W, rfl⟩ : ∃ W : World, W = W3 := ⟨_, rfl⟩
                have hk := hk3
                have hla := hla3
                have hG := hG3
                have hco := hco3
                have hB := hB3
                have hle := hle3
                have gx := hx3
                clear hk3 hla3 hG3 hco3 hB3 hle3 hx3
                try dsimp only [Act.put]
                have c0 := hk.cell_ 0 rfl
                have c1 := hk.cell_ 1 rfl
                have c2 := hk.cell_ 2 rfl
                have c3 := hk.cell_ 3 rfl
                have c4 := hk.cell_ 4 rfl
                have c5 := hk.cell_ 5 rfl
                have x0 := gx.cell_ 0 rfl
                have x1 := gx.cell_ 1 rfl
                have x2 := gx.cell_ 2 rfl
                have x3 := gx.cell_ 3 rfl
                go_wp2_with fail
                have hok : FldOk W ([]) [⟨13, (bp + 1), 3, (ints La), ((ints La)).setIfInBounds (x.m.toNat) (.int .i64 (t0 + x.mi))⟩] := FldOk.one_ hla.lt (by simp)
                refine wp_region_both 14 [0, 1, 2, 3, 4, 5, 6, 7, 8, 9, 10, 11, 12] [13] [] [⟨13, (bp + 1), 3, (ints La), ((ints La)).setIfInBounds (x.m.toNat) (.int .i64 (t0 + x.mi))⟩] (fun f hf => by simp only [List.mem_singleton] at hf; subst hf; exact hla) (by kernel_rfl) (by kernel_rfl) (by kernel_rfl) (by kernel_rfl) (by kernel_rfl) (by simp) ?_
                apply Exists.intro
                refine ⟨fun W1 hc0 => ?_, ?_⟩
                · have hc1 : Chg (fun k => k = (bp + 1)) W W1 := hc0.one_
                  replace hk := hk.chg1 hc1 (by omega)
                  replace hG := hG.chg hc1 (by omega) (by omega)
                  replace hco := hco.chg1 hc1 (by omega)
                  replace hle := Nat.le_trans hle hc1.size
                  replace gx := gx.chg1 hc1 (by omega)
                  replace hB := hB.trans (hc1.below1 hB.size (by omega))
                  have c0 := hk.cell_ 0 rfl
                  have c1 := hk.cell_ 1 rfl
                  have c2 := hk.cell_ 2 rfl
                  have c3 := hk.cell_ 3 rfl
                  have c4 := hk.cell_ 4 rfl
                  have c5 := hk.cell_ 5 rfl
                  have x0 := gx.cell_ 0 rfl
                  have x1 := gx.cell_ 1 rfl
                  have x2 := gx.cell_ 2 rfl
                  have x3 := gx.cell_ 3 rfl
                  have y_c0 := Since.cell c0
                  have y_c1 := Since.cell c1
                  have y_c2 := Since.cell c2
                  have y_c3 := Since.cell c3
                  have y_c4 := Since.cell c4
                  have y_c5 := Since.cell c5
                  have y_x0 := Since.cell x0
                  have y_x1 := Since.cell x1
                  have y_x2 := Since.cell x2
                  have y_x3 := Since.cell x3
                  dsimp only [pick, List.filterMap, List.getElem?_cons_succ, List.getElem?_cons_zero]
                  repeat (go_big_quiet_step ((fail)))
                  exact wpQuiet_nil rfl
                · refine ownWalk_put (i := x.m.toNat) (v := .int .i64 (t0 + x.mi)) ⟨13, (bp + 1), 3, (ints La), ((ints La)).setIfInBounds (x.m.toNat) (.int .i64 (t0 + x.mi))⟩ hok (by simp) rfl rfl rfl rfl rfl rfl rfl (by kernel_rfl) rfl HS1.out rfl rfl (by simp) ?_
                  refine ownWalk_nil ?_
                  intro w' hc0 hD
                  have hc1 : Chg (fun k => k = (bp + 1)) W w' := hc0.one_
                  have n_hla := hD.get (f := ⟨13, (bp + 1), 3, (ints La), ((ints La)).setIfInBounds (x.m.toNat) (.int .i64 (t0 + x.mi))⟩) (by simp) rfl
                  clear hD
                  try simp only [List.drop_succ_cons, List.drop_zero]
                  clear c0 c1 c2 c3 c4 c5 x0 x1 x2 x3
                  replace hk := hk.chg1 hc1 (by omega)
                  replace hG := hG.chg hc1 (by omega) (by omega)
                  replace hco := hco.chg1 hc1 (by omega)
                  replace hle := Nat.le_trans hle hc1.size
                  replace gx := gx.chg1 hc1 (by omega)
                  replace hB := hB.trans (hc1.below1 hB.size (by omega))
                  clear hla
                  have hla := n_hla
                  clear n_hla hc1 hc0 hok
                  dsimp only at hla
                  obtain ⟨W, rfl⟩ : ∃ W : World, W = w' := ⟨_, rfl⟩
                  have c0 := hk.cell_ 0 rfl
                  have c1 := hk.cell_ 1 rfl
                  have c2 := hk.cell_ 2 rfl
                  have c3 := hk.cell_ 3 rfl
                  have c4 := hk.cell_ 4 rfl
                  have c5 := hk.cell_ 5 rfl
                  have x0 := gx.cell_ 0 rfl
                  have x1 := gx.cell_ 1 rfl
                  have x2 := gx.cell_ 2 rfl
                  have x3 := gx.cell_ 3 rfl
                  go_wp2_with (refine wpList_store_at rfl 3 _ _ rfl (.int .i64 x.c) hco rfl rfl (by kernel_rfl) rfl HS2.out rfl ?_; intro W3 hco3 hc3)
                  rw [ints_set] at hla hco3
                  go_roundg (gk - 1)
                  case measure => exact hgk.out
                  case rel => exact ⟨putS p S b0 t0, _, _, _, HIT2, HCN2, hVS2, (by rw [HPE.out]; exact hRD2), (by rw [HPE.out]; exact hG.chg hc3 (by omega) (by omega)), hla.chg1 hc3 (by omega), hco3, Nat.le_trans hle hc3.size, hk.chg1 hc3 (by omega), hB.trans (hc3.below1 hB.size (by omega))⟩
end Go.Proofs.Ytcpnfcnobnjhdaa
