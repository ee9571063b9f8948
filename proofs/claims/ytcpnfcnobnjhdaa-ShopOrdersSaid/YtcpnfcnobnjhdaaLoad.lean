/- Loads and bounds: the walks. -/
import Derived.Test.YtcpnfcnobnjhdaaList
namespace Go.Proofs.Ytcpnfcnobnjhdaa
open Go.RowKit
theorem sumM_nonneg (m : Int) : ∀ {l : List Ent}, (∀ e ∈ l, 0 ≤ e.x.mi ∧ e.x.mi ≤ 1440) → 0 ≤ sumM m l ∧ sumM m l ≤ l.length * 1440
  | [], _ => by simp [sumM]
  | e :: r, h => by
    have h1 := h e (by simp)
    have h2 := sumM_nonneg m (l := r) fun e he => h e (by simp [he])
    simp only [sumM, List.length_cons]
    split <;> omega
theorem ents_step {p : Shop} (hv : VShop p) {e : Ent} (h : e ∈ ents p) : 0 ≤ e.x.m ∧ e.x.m < p.mach ∧ 1 ≤ e.x.mi ∧ e.x.mi ≤ p.cl - p.op ∧ 0 ≤ e.x.c ∧ e.x.c ≤ 9 ∧ 0 ≤ e.x.d ∧ e.x.d ≤ 10000 := by
  obtain ⟨l, h1, h2⟩ := ents_mem h
  have h := (hv.steps e.j l h1).2 e.k e.x h2
  omega
theorem sumM_bd {p : Shop} (hv : VShop p) (m : Int) {es r : List Ent} (h : es ++ r = ents p) : 0 ≤ sumM m es ∧ sumM m es ≤ 138240 := by
  have v1 := hv.op0
  have v3 := hv.cl
  have h1 := sumM_nonneg m (l := es) fun e he => by
    have := ents_step hv (e := e) (by rw [← h]; simp [he])
    omega
  have h2 := ents_len hv
  have h3 : es.length ≤ 96 := by
    have := congrArg List.length h
    simp at this; omega
  omega
theorem sumM_snoc (m : Int) (es : List Ent) (e : Ent) : sumM m (es ++ [e]) = sumM m es + if e.x.m = m then e.x.mi else 0 := by
  rw [sumM_append]; simp [sumM]

set_option maxRecDepth 100000 in
theorem load_any (s : Sh) (m : Int) (w : World) (hS : ShAt w w.heap.size s) (hv : VShop s.p) :
    Calls Try.prog 57 #[.agg #[.int .i64 s.p.op, .int .i64 s.p.cl, .slice s.aH s.p.hol.length s.cH, .int .i64 s.p.mach, .slice s.aS s.p.setup.length s.cS, .slice s.aJ s.p.jobs.length s.cJ], .int .i64 m] w fun e w' => e = .returned (.int .i64 (loadF s.p m)) ∧ Below w.heap.size w w' := by
  have hjn := hv.jobn
  have hsb := hide (fun (es r : List Ent) (h : es ++ r = ents s.p) => sumM_bd hv m h)
  have hk := Blk.new w 25 #[.int .i64 s.p.op, .int .i64 s.p.cl, .slice s.aH s.p.hol.length s.cH, .int .i64 s.p.mach, .slice s.aS s.p.setup.length s.cS, .slice s.aJ s.p.jobs.length s.cJ]
  have hB := (Below.refl w.heap.size w).alloc (Nat.le_refl _) (.cells #[.int .i64 s.p.op, .int .i64 s.p.cl, .slice s.aH s.p.hol.length s.cH, .int .i64 s.p.mach, .slice s.aS s.p.setup.length s.cS, .slice s.aJ s.p.jobs.length s.cJ] 25)
  obtain ⟨p, aH, cH, aS, cS, aJ, cJ⟩ := s
  dsimp only at *
  go_enter Try.func57, Try.ntmps57
  go_wp2_with fail
  generalize w.alloc (.cells #[.int .i64 p.op, .int .i64 p.cl, .slice aH p.hol.length cH, .int .i64 p.mach, .slice aS p.setup.length cS, .slice aJ p.jobs.length cJ] 25) = W at *
  go_loopw [5, 13] (fun x y W => ∃ (j : Nat) (es : List Ent), x = .int .i64 (sumM m es) ∧ y = .int .i64 j ∧ j ≤ p.jobs.length ∧ es ++ entsFrom j (p.jobs.drop j) = ents p ∧ Blk W w.heap.size 25 #[.int .i64 p.op, .int .i64 p.cl, .slice aH p.hol.length cH, .int .i64 p.mach, .slice aS p.setup.length cS, .slice aJ p.jobs.length cJ] ∧ Below w.heap.size w W) (fun x y _ => p.jobs.length - (intOf y).toNat)
  case atStart => exact ⟨0, [], rfl, rfl, Nat.zero_le _, rfl, hk, hB⟩
  case round =>
    clear hk hB
    obtain ⟨W, rfl⟩ : ∃ W : World, W = wr := ⟨_, rfl⟩
    obtain ⟨j, es, rfl, rfl, hj, hes, hk, hB⟩ := hrel
    by_cases hlt : j < p.jobs.length
    · obtain ⟨l, b, off, A', c', hjl, hA, hb0, hc, hSl⟩ := jobs_at hS.jobs hlt
      have hll := (hv.steps j l hjl).1
      have HES := hide (show es ++ (stepsFrom j 0 (l.drop 0) ++ entsFrom (j + 1) (p.jobs.drop (j + 1))) = ents p by rw [← hes, entsFrom_drop hjl]; rfl)
      clear hes hjl
      have hcw := (hB.cell (p := ⟨b, off + j, none⟩) hb0).trans hc
      dsimp only at hA
      subst hA
      have hB' := hB.alloc hB.size (.cells #[.slice A' l.length c'] 67)
      have hk' := hk.alloc (.cells #[.slice A' l.length c'] 67)
      clear hk hB
      go_wp2_with fail
      clear hcw
      generalize W.alloc (.cells #[.slice A' l.length c'] 67) = W2 at *
      obtain ⟨hk, hB⟩ : _ ∧ _ := ⟨hk', hB'⟩
      clear hk' hB'
      go_loopw [5, 20] (fun x z W => ∃ (k : Nat) (es : List Ent), x = .int .i64 (sumM m es) ∧ z = .int .i64 k ∧ k ≤ l.length ∧ es ++ (stepsFrom j k (l.drop k) ++ entsFrom (j + 1) (p.jobs.drop (j + 1))) = ents p ∧ Blk W w.heap.size 25 #[.int .i64 p.op, .int .i64 p.cl, .slice aH p.hol.length cH, .int .i64 p.mach, .slice aS p.setup.length cS, .slice (some ⟨b, off, none⟩) p.jobs.length cJ] ∧ Below w.heap.size w W) (fun x z _ => l.length - (intOf z).toNat)
      case atStart => exact ⟨0, es, rfl, rfl, Nat.zero_le _, HES.out, hk, hB⟩
      case round =>
        clear HES
        clear hk hB
        obtain ⟨W, rfl⟩ : ∃ W : World, W = wr := ⟨_, rfl⟩
        obtain ⟨k, es, rfl, rfl, hk2, hes, hk, hB⟩ := hrel
        have hs1 := hsb.out _ _ hes
        by_cases hlk : k < l.length
        · obtain ⟨x, b2, off2, hx, hA2, hb2, d0, d1, d2, d3⟩ := steps_at (hSl.below hB) hlk
          have hes' : (es ++ [⟨j, k, x⟩]) ++ (stepsFrom j (k + 1) (l.drop (k + 1)) ++ entsFrom (j + 1) (p.jobs.drop (j + 1))) = ents p := by rw [← hes, stepsFrom_drop hx]; simp
          have hs2 := hsb.out _ _ hes'
          have HES := hide hes'
          have HSN := hide (sumM_snoc m es ⟨j, k, x⟩)
          have hxm := ents_step hv (e := ⟨j, k, x⟩) (by rw [← hes']; simp)
          dsimp only at hxm
          have v1 := hv.op0
          have v3 := hv.cl
          subst hA2
          replace hB := hB.alloc hB.size (.cells #[.int .i64 x.m, .int .i64 x.mi, .int .i64 x.c, .int .i64 x.d] 69)
          replace hk := hk.alloc (.cells #[.int .i64 x.m, .int .i64 x.mi, .int .i64 x.c, .int .i64 x.d] 69)
          clear hes hes' hx
          by_cases hm : x.m = m
          · have HM := hide hm
            have hmb : (x.m == m) = true := by simpa using hm
            clear hm
            go_wp2_with fail
            go_roundw
            case rel => exact ⟨k + 1, _, by rw [HSN.out, if_pos HM.out], by go_num, by omega, HES.out, hk, hB⟩
            case measure => simp [intOf]; omega
          · have HM := hide hm
            have hmb : (x.m == m) = false := by simpa using hm
            clear hm
            go_wp2_with fail
            go_roundw
            case rel => exact ⟨k + 1, _, by rw [HSN.out, if_neg HM.out]; go_num, by go_num, by omega, HES.out, hk, hB⟩
            case measure => simp [intOf]; omega
        · obtain rfl : k = l.length := by omega
          have HES := hide (show es ++ entsFrom (j + 1) (p.jobs.drop (j + 1)) = ents p by rw [← hes, nomore]; rfl)
          clear hes
          go_wp2_with fail
          go_roundw
          case rel => exact ⟨j + 1, es, rfl, by go_num, by omega, HES.out, hk, hB⟩
          case measure => simp [intOf]; omega
    · obtain rfl : j = p.jobs.length := by omega
      obtain rfl : es = ents p := by rw [← hes, nomore]; simp [entsFrom]
      have hs1 := hsb.out (ents p) [] (by simp)
      clear hes
      have c0 := hk.cell_ 0 rfl
      have c1 := hk.cell_ 1 rfl
      have c2 := hk.cell_ 2 rfl
      have c3 := hk.cell_ 3 rfl
      have c4 := hk.cell_ 4 rfl
      have c5 := hk.cell_ 5 rfl
      go_wp2_with fail
      refine (after_any ⟨p, aH, cH, aS, cS, aJ, cJ⟩ 0 (sumM m (ents p)) _ (hS.on hB) hv (by omega) (by omega) (by omega) (by omega)).mono ?_
      rintro e W ⟨rfl, hb⟩
      clear c0 c1 c2 c3 c4 c5
      replace hk := hk.below hb hk.lt
      replace hB := hB.trans (hb.mono hB.size)
      clear hb
      have c0 := hk.cell_ 0 rfl
      have c1 := hk.cell_ 1 rfl
      have c2 := hk.cell_ 2 rfl
      have c3 := hk.cell_ 3 rfl
      have c4 := hk.cell_ 4 rfl
      have c5 := hk.cell_ 5 rfl
      go_wp2_with fail
      go_ret
      exact ⟨rfl, hB⟩

theorem fstep0 (a b c d : Value) (w : World) : (Instr.field 69 (.agg #[a, b, c, d]) 0).run Try.prog w = .ok a w := by kernel_rfl
theorem fstep1 (a b c d : Value) (w : World) : (Instr.field 69 (.agg #[a, b, c, d]) 1).run Try.prog w = .ok b w := by kernel_rfl
theorem fstep2 (a b c d : Value) (w : World) : (Instr.field 69 (.agg #[a, b, c, d]) 2).run Try.prog w = .ok c w := by kernel_rfl
theorem fstep3 (a b c d : Value) (w : World) : (Instr.field 69 (.agg #[a, b, c, d]) 3).run Try.prog w = .ok d w := by kernel_rfl
theorem step_at {w : World} {B : Nat} {A : Option Addr} {xs : List Step} {k : Nat} {x : Step} (h : Slc Step.enc 4 w B A xs) (hx : xs[k]? = some x) :
    ∃ b off, A = some ⟨b, off, none⟩ ∧ b < B ∧ w.cell? ⟨b, off + k * 4, none⟩ = some (.int .i64 x.m) ∧ w.cell? ⟨b, off + k * 4 + 1, none⟩ = some (.int .i64 x.mi) ∧ w.cell? ⟨b, off + k * 4 + 2, none⟩ = some (.int .i64 x.c) ∧ w.cell? ⟨b, off + k * 4 + 3, none⟩ = some (.int .i64 x.d) := by
  obtain ⟨b, off, ha, hb, hc⟩ := h k _ hx
  exact ⟨b, off, ha, hb, by simpa using hc 0 _ rfl, hc 1 _ rfl, hc 2 _ rfl, hc 3 _ rfl⟩
theorem at_any (s : Sh) (j k : Nat) (l : List Step) (x : Step) (w : World) (hS : ShAt w w.heap.size s) (hj : s.p.jobs[j]? = some l) (hx : l[k]? = some x) :
    Calls Try.prog 59 #[.agg #[.int .i64 s.p.op, .int .i64 s.p.cl, .slice s.aH s.p.hol.length s.cH, .int .i64 s.p.mach, .slice s.aS s.p.setup.length s.cS, .slice s.aJ s.p.jobs.length s.cJ], .agg #[.int .i64 j, .int .i64 k]] w fun e w' => e = .returned (.agg #[.int .i64 x.m, .int .i64 x.mi, .int .i64 x.c, .int .i64 x.d]) ∧ Below w.heap.size w w' := by
  obtain ⟨b, off, A', c', hA, hb0, hc, hSl⟩ := job_at hS.jobs hj
  have hkl : k < l.length := (List.getElem?_eq_some_iff.1 hx).1
  have hjl : j < s.p.jobs.length := (List.getElem?_eq_some_iff.1 hj).1
  obtain ⟨b2, off2, hA2, hb2, d0, d1, d2, d3⟩ := step_at hSl hx
  obtain ⟨p, aH, cH, aS, cS, aJ, cJ⟩ := s
  dsimp only at *
  subst hA hA2
  have hk := Blk.new w 25 #[.int .i64 p.op, .int .i64 p.cl, .slice aH p.hol.length cH, .int .i64 p.mach, .slice aS p.setup.length cS, .slice (some ⟨b, off, none⟩) p.jobs.length cJ]
  have hB := (Below.refl w.heap.size w).alloc (Nat.le_refl _) (.cells #[.int .i64 p.op, .int .i64 p.cl, .slice aH p.hol.length cH, .int .i64 p.mach, .slice aS p.setup.length cS, .slice (some ⟨b, off, none⟩) p.jobs.length cJ] 25)
  have hz : w.heap.size < (w.alloc (.cells #[.int .i64 p.op, .int .i64 p.cl, .slice aH p.hol.length cH, .int .i64 p.mach, .slice aS p.setup.length cS, .slice (some ⟨b, off, none⟩) p.jobs.length cJ] 25)).heap.size := by simp
  have hz1 : (w.alloc (.cells #[.int .i64 p.op, .int .i64 p.cl, .slice aH p.hol.length cH, .int .i64 p.mach, .slice aS p.setup.length cS, .slice (some ⟨b, off, none⟩) p.jobs.length cJ] 25)).heap.size = w.heap.size + 1 := by simp
  go_enter Try.func59, Try.ntmps59
  go_wp2_with fail
  generalize w.alloc (.cells #[.int .i64 p.op, .int .i64 p.cl, .slice aH p.hol.length cH, .int .i64 p.mach, .slice aS p.setup.length cS, .slice (some ⟨b, off, none⟩) p.jobs.length cJ] 25) = W at *
  have hp := Blk.new W 77 #[.int .i64 j, .int .i64 k]
  have hr := Blk.new (W.alloc (.cells #[.int .i64 j, .int .i64 k] 77)) 69 #[.int .i64 0, .int .i64 0, .int .i64 0, .int .i64 0]
  rw [hz1] at hp
  rw [show (W.alloc (.cells #[.int .i64 j, .int .i64 k] 77)).heap.size = w.heap.size + 2 by simp [hz1]] at hr
  replace hp := hp.alloc (.cells #[.int .i64 0, .int .i64 0, .int .i64 0, .int .i64 0] 69)
  replace hk := (hk.alloc (.cells #[.int .i64 j, .int .i64 k] 77)).alloc (.cells #[.int .i64 0, .int .i64 0, .int .i64 0, .int .i64 0] 69)
  replace hB := (hB.alloc hB.size (.cells #[.int .i64 j, .int .i64 k] 77)).alloc (by simp; omega) (.cells #[.int .i64 0, .int .i64 0, .int .i64 0, .int .i64 0] 69)
  generalize (W.alloc (.cells #[.int .i64 j, .int .i64 k] 77)).alloc (.cells #[.int .i64 0, .int .i64 0, .int .i64 0, .int .i64 0] 69) = W at *
  replace hc := (hB.cell (p := ⟨b, off + j, none⟩) hb0).trans hc
  replace d0 := (hB.cell (p := ⟨b2, off2 + k * 4, none⟩) hb2).trans d0
  replace d1 := (hB.cell (p := ⟨b2, off2 + k * 4 + 1, none⟩) hb2).trans d1
  replace d2 := (hB.cell (p := ⟨b2, off2 + k * 4 + 2, none⟩) hb2).trans d2
  replace d3 := (hB.cell (p := ⟨b2, off2 + k * 4 + 3, none⟩) hb2).trans d3
  go_wp2_with fail
  have c5 := hk.cell_ 5 rfl
  have p0 := hp.cell_ 0 rfl
  have p1 := hp.cell_ 1 rfl
  have r0 := hr.cell_ 0 rfl
  have r1 := hr.cell_ 1 rfl
  have r2 := hr.cell_ 2 rfl
  have r3 := hr.cell_ 3 rfl
  refine wp_region_quiet_tail (C := fun w' => ∃ u : Since W, w' = u.w) 11 (by kernel_rfl) (by kernel_rfl) (Since.start W) ?_
  simp only [List.take_succ_cons, List.take_zero, List.drop_succ_cons, List.drop_zero]
  have y_c5 := Since.cell c5
  have y_p0 := Since.cell p0
  have y_p1 := Since.cell p1
  have y_r0 := Since.cell r0
  have y_r1 := Since.cell r1
  have y_r2 := Since.cell r2
  have y_r3 := Since.cell r3
  have y_hc := Since.cell hc
  have y_d0 := Since.cell d0
  have y_d1 := Since.cell d1
  have y_d2 := Since.cell d2
  have y_d3 := Since.cell d3
  clear c5 p0 p1 r0 r1 r2 r3
  repeat (go_big_quiet_step ((fail)))
  refine wpQuiet_nil ?_
  rintro W ⟨⟨_, hb⟩, rfl⟩
  try dsimp only at hb ⊢
  replace hc : W.cell? _ = _ := y_hc ⟨W, hb⟩
  replace d0 : W.cell? _ = _ := y_d0 ⟨W, hb⟩
  replace d1 : W.cell? _ = _ := y_d1 ⟨W, hb⟩
  replace d2 : W.cell? _ = _ := y_d2 ⟨W, hb⟩
  replace d3 : W.cell? _ = _ := y_d3 ⟨W, hb⟩
  clear y_c5 y_p0 y_p1 y_r0 y_r1 y_r2 y_r3 y_hc y_d0 y_d1 y_d2 y_d3
  replace hk := hk.below hb hk.lt
  replace hp := hp.below hb hp.lt
  replace hr := hr.below hb hr.lt
  replace hB := hB.trans (hb.mono hB.size)
  clear hb
  have c5 := hk.cell_ 5 rfl
  have p0 := hp.cell_ 0 rfl
  have p1 := hp.cell_ 1 rfl
  have r0 := hr.cell_ 0 rfl
  have r1 := hr.cell_ 1 rfl
  have r2 := hr.cell_ 2 rfl
  have r3 := hr.cell_ 3 rfl
  have f0 := hr.frozen 0
  have f1 := hr.frozen 1
  have f2 := hr.frozen 2
  have f3 := hr.frozen 3
  go_wp2_with fail
  refine bodyPost_ret (v := .agg #[.int .i64 x.m, .int .i64 x.mi, .int .i64 x.c, .int .i64 x.d]) (by simp [results, Try.results59, go_sem, r0, r1, r2, r3]) rfl ⟨rfl, ?_⟩
  exact (((hB.setCell (by simp; omega) _).setCell (by simp; omega) _).setCell (by simp; omega) _).setCell (by simp; omega) _

set_option maxRecDepth 100000 in
theorem refLoad_any (s : Sh) (m : Int) (w : World) (hS : ShAt w w.heap.size s) (hv : VShop s.p) :
    Calls Try.prog 32 #[.agg #[.int .i64 s.p.op, .int .i64 s.p.cl, .slice s.aH s.p.hol.length s.cH, .int .i64 s.p.mach, .slice s.aS s.p.setup.length s.cS, .slice s.aJ s.p.jobs.length s.cJ], .int .i64 m] w fun e w' => e = .returned (.int .i64 (loadF s.p m)) ∧ Below w.heap.size w w' := by
  have hen := ents_len hv
  have hsb := hide (fun (es r : List Ent) (h : es ++ r = ents s.p) => sumM_bd hv m h)
  have hk := Blk.new w 25 #[.int .i64 s.p.op, .int .i64 s.p.cl, .slice s.aH s.p.hol.length s.cH, .int .i64 s.p.mach, .slice s.aS s.p.setup.length s.cS, .slice s.aJ s.p.jobs.length s.cJ]
  have hB := (Below.refl w.heap.size w).alloc (Nat.le_refl _) (.cells #[.int .i64 s.p.op, .int .i64 s.p.cl, .slice s.aH s.p.hol.length s.cH, .int .i64 s.p.mach, .slice s.aS s.p.setup.length s.cS, .slice s.aJ s.p.jobs.length s.cJ] 25)
  go_enter Try.func32, Try.ntmps32
  go_wp2_with fail
  generalize w.alloc (.cells #[.int .i64 s.p.op, .int .i64 s.p.cl, .slice s.aH s.p.hol.length s.cH, .int .i64 s.p.mach, .slice s.aS s.p.setup.length s.cS, .slice s.aJ s.p.jobs.length s.cJ] 25) = W at *
  have c0 := hk.cell_ 0 rfl
  have c1 := hk.cell_ 1 rfl
  have c2 := hk.cell_ 2 rfl
  have c3 := hk.cell_ 3 rfl
  have c4 := hk.cell_ 4 rfl
  have c5 := hk.cell_ 5 rfl
  go_wp2_with fail
  refine (refList_any s _ (hS.on hB) hv).mono ?_
  rintro e W ⟨A, c, rfl, hb, hL⟩
  clear c0 c1 c2 c3 c4 c5
  replace hk := hk.below hb hk.lt
  replace hB := hB.trans (hb.mono hB.size)
  clear hb
  have c0 := hk.cell_ 0 rfl
  have c1 := hk.cell_ 1 rfl
  have c2 := hk.cell_ 2 rfl
  have c3 := hk.cell_ 3 rfl
  have c4 := hk.cell_ 4 rfl
  have c5 := hk.cell_ 5 rfl
  clear c0 c1 c2 c3 c4 c5
  go_wp2_with fail
  go_loopw [5, 7] (fun x y W => ∃ k : Nat, x = .int .i64 (sumM m ((ents s.p).take k)) ∧ y = .int .i64 k ∧ k ≤ (ents s.p).length ∧ Blk W w.heap.size 25 #[.int .i64 s.p.op, .int .i64 s.p.cl, .slice s.aH s.p.hol.length s.cH, .int .i64 s.p.mach, .slice s.aS s.p.setup.length s.cS, .slice s.aJ s.p.jobs.length s.cJ] ∧ Slc Ent.pair 2 W W.heap.size A (ents s.p) ∧ Below w.heap.size w W) (fun x y _ => (ents s.p).length - (intOf y).toNat)
  case atStart => exact ⟨0, rfl, rfl, Nat.zero_le _, hk, hL, hB⟩
  case round =>
    clear hk hB hL
    obtain ⟨W, rfl⟩ : ∃ W : World, W = wr := ⟨_, rfl⟩
    obtain ⟨k, rfl, rfl, hk2, hk, hL, hB⟩ := hrel
    have hs1 := hsb.out _ _ (List.take_append_drop k (ents s.p))
    have c0 := hk.cell_ 0 rfl
    have c1 := hk.cell_ 1 rfl
    have c2 := hk.cell_ 2 rfl
    have c3 := hk.cell_ 3 rfl
    have c4 := hk.cell_ 4 rfl
    have c5 := hk.cell_ 5 rfl
    by_cases hlt : k < (ents s.p).length
    · obtain ⟨en, hen1⟩ : ∃ en, (ents s.p)[k]? = some en := ⟨_, List.getElem?_eq_getElem hlt⟩
      have hs2 := hsb.out _ _ (List.take_append_drop (k + 1) (ents s.p))
      have hmem : en ∈ ents s.p := List.mem_of_getElem? hen1
      have hes := ents_step hv hmem
      have v1 := hv.op0
      have v3 := hv.cl
      obtain ⟨l, hj, hx⟩ := ents_mem hmem
      have HJ := hide hj
      have HX := hide hx
      have HSN : Hid (sumM m ((ents s.p).take (k + 1)) = sumM m ((ents s.p).take k) + if en.x.m = m then en.x.mi else 0) := by
        rw [List.take_add_one, hen1]; exact sumM_snoc m _ en
      obtain ⟨b, off, hA, hb2, d0, d1⟩ := hL.at2 hen1 (v0 := .int .i64 en.j) (v1 := .int .i64 en.k) rfl
      clear hj hx hen1
      subst hA
      have fs0 := fstep0
      have fs1 := fstep1
      have HSW := hS.on hB
      by_cases hm : en.x.m = m
      · have hM : (en.x.m == m) = true := by simpa using hm
        have HM := hide hm
        clear hm
        go_wp2_with fail
        refine wp_region_quiet (C := fun w' => ∃ u : Since W, w' = u.w) (by kernel_rfl) (by kernel_rfl) (Since.start W) ?_
        dsimp only
        have y_c0 := Since.cell c0
        have y_c1 := Since.cell c1
        have y_c2 := Since.cell c2
        have y_c3 := Since.cell c3
        have y_c4 := Since.cell c4
        have y_c5 := Since.cell c5
        have y_d0 := Since.cell d0
        have y_d1 := Since.cell d1
        clear c0 c1 c2 c3 c4 c5
        repeat (go_big_quiet_step ((go_at_call 59; exact Since.calls (at_any s en.j en.k l en.x _ (HSW.on (Since.h _)) HJ.out HX.out))))
        refine wpQuiet_nil ?_
        rintro W ⟨⟨_, hb⟩, rfl⟩
        try dsimp only at hb ⊢
        replace d0 : W.cell? _ = _ := y_d0 ⟨W, hb⟩
        replace d1 : W.cell? _ = _ := y_d1 ⟨W, hb⟩
        clear y_c0 y_c1 y_c2 y_c3 y_c4 y_c5 y_d0 y_d1
        replace hk := hk.below hb hk.lt
        replace hL := (hL.below hb).more hb.size
        replace hB := hB.trans (hb.mono hB.size)
        clear hb
        have c0 := hk.cell_ 0 rfl
        have c1 := hk.cell_ 1 rfl
        have c2 := hk.cell_ 2 rfl
        have c3 := hk.cell_ 3 rfl
        have c4 := hk.cell_ 4 rfl
        have c5 := hk.cell_ 5 rfl
        have HSW := hS.on hB
        have hsn : sumM m ((ents s.p).take (k + 1)) = sumM m ((ents s.p).take k) + en.x.mi := by rw [HSN.out, if_pos HM.out]
        have e1 : IntKind.i64.wrap (sumM m ((ents s.p).take k) + en.x.mi) = sumM m ((ents s.p).take k) + en.x.mi := IntWalk.i64_in _ (by omega)
        have HN := hide hsn
        clear hsn
        go_wp2_with fail
        refine wp_region_quiet (C := fun w' => ∃ u : Since W, w' = u.w) (by kernel_rfl) (by kernel_rfl) (Since.start W) ?_
        dsimp only
        have y_c0 := Since.cell c0
        have y_c1 := Since.cell c1
        have y_c2 := Since.cell c2
        have y_c3 := Since.cell c3
        have y_c4 := Since.cell c4
        have y_c5 := Since.cell c5
        have y_d0 := Since.cell d0
        have y_d1 := Since.cell d1
        clear c0 c1 c2 c3 c4 c5
        repeat (go_big_quiet_step ((go_at_call 59; exact Since.calls (at_any s en.j en.k l en.x _ (HSW.on (Since.h _)) HJ.out HX.out))))
        refine wpQuiet_nil ?_
        rintro W ⟨⟨_, hb⟩, rfl⟩
        try dsimp only at hb ⊢
        replace d0 : W.cell? _ = _ := y_d0 ⟨W, hb⟩
        replace d1 : W.cell? _ = _ := y_d1 ⟨W, hb⟩
        clear y_c0 y_c1 y_c2 y_c3 y_c4 y_c5 y_d0 y_d1
        replace hk := hk.below hb hk.lt
        replace hL := (hL.below hb).more hb.size
        replace hB := hB.trans (hb.mono hB.size)
        clear hb
        have c0 := hk.cell_ 0 rfl
        have c1 := hk.cell_ 1 rfl
        have c2 := hk.cell_ 2 rfl
        have c3 := hk.cell_ 3 rfl
        have c4 := hk.cell_ 4 rfl
        have c5 := hk.cell_ 5 rfl
        clear e1
        go_wp2_with fail
        go_roundw
        case rel => exact ⟨k + 1, by rw [HN.out], by go_num, by omega, hk, hL, hB⟩
        case measure => simp [intOf]; omega
      · have hM : (en.x.m == m) = false := by simpa using hm
        have HM := hide hm
        clear hm
        go_wp2_with fail
        refine wp_region_quiet (C := fun w' => ∃ u : Since W, w' = u.w) (by kernel_rfl) (by kernel_rfl) (Since.start W) ?_
        dsimp only
        have y_c0 := Since.cell c0
        have y_c1 := Since.cell c1
        have y_c2 := Since.cell c2
        have y_c3 := Since.cell c3
        have y_c4 := Since.cell c4
        have y_c5 := Since.cell c5
        have y_d0 := Since.cell d0
        have y_d1 := Since.cell d1
        clear c0 c1 c2 c3 c4 c5
        repeat (go_big_quiet_step ((go_at_call 59; exact Since.calls (at_any s en.j en.k l en.x _ (HSW.on (Since.h _)) HJ.out HX.out))))
        refine wpQuiet_nil ?_
        rintro W ⟨⟨_, hb⟩, rfl⟩
        try dsimp only at hb ⊢
        replace d0 : W.cell? _ = _ := y_d0 ⟨W, hb⟩
        replace d1 : W.cell? _ = _ := y_d1 ⟨W, hb⟩
        clear y_c0 y_c1 y_c2 y_c3 y_c4 y_c5 y_d0 y_d1
        replace hk := hk.below hb hk.lt
        replace hL := (hL.below hb).more hb.size
        replace hB := hB.trans (hb.mono hB.size)
        clear hb
        have c0 := hk.cell_ 0 rfl
        have c1 := hk.cell_ 1 rfl
        have c2 := hk.cell_ 2 rfl
        have c3 := hk.cell_ 3 rfl
        have c4 := hk.cell_ 4 rfl
        have c5 := hk.cell_ 5 rfl
        go_wp2_with fail
        go_roundw
        case rel => exact ⟨k + 1, by rw [HSN.out, if_neg HM.out, Int.add_zero], by go_num, by omega, hk, hL, hB⟩
        case measure => simp [intOf]; omega
    · obtain rfl : k = (ents s.p).length := by omega
      rw [List.take_length] at *
      by_cases h0 : sumM m (ents s.p) = 0
      · have H0 := hide h0
        have h0b : (sumM m (ents s.p) == 0) = true := by simpa using h0
        clear h0
        go_wp2_with fail
        go_ret
        exact ⟨ret_int (by unfold loadF; rw [H0.out, after_zero]), hB⟩
      · have h0b : (sumM m (ents s.p) == 0) = false := by simpa using h0
        go_wp2_with fail
        refine (refAfter_any s 0 (sumM m (ents s.p)) _ (hS.on hB) hv (by omega) (by omega) (by omega) (by omega)).mono ?_
        rintro e W ⟨rfl, hb⟩
        clear c0 c1 c2 c3 c4 c5
        replace hk := hk.below hb hk.lt
        replace hL := (hL.below hb).more hb.size
        replace hB := hB.trans (hb.mono hB.size)
        clear hb
        have c0 := hk.cell_ 0 rfl
        have c1 := hk.cell_ 1 rfl
        have c2 := hk.cell_ 2 rfl
        have c3 := hk.cell_ 3 rfl
        have c4 := hk.cell_ 4 rfl
        have c5 := hk.cell_ 5 rfl
        go_wp2_with fail
        go_ret
        exact ⟨rfl, hB⟩
end Go.Proofs.Ytcpnfcnobnjhdaa
