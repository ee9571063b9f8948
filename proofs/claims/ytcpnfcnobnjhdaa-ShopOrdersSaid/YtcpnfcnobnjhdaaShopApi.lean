/- Next, Worked and After of package shop; whether a shop is long; the sanity check of the laws. -/
import Derived.Test.YtcpnfcnobnjhdaaHours
namespace Go.Proofs.Ytcpnfcnobnjhdaa
open Go.RowKit

/-- no slice is longer than a slice can be -/
structure Fits (p : Shop) : Prop where
  h1 : p.hol.length ≤ 9223372036854775807
  h2 : p.setup.length ≤ 9223372036854775807
  h3 : p.jobs.length ≤ 9223372036854775807
  h4 : ∀ l ∈ p.jobs, l.length ≤ 9223372036854775807
theorem VShop.fits {p : Shop} (h : VShop p) : Fits p := by
  have := h.holn
  have := h.setn
  have := h.mach6
  have := h.jobn
  refine ⟨by omega, by omega, by omega, fun l hl => ?_⟩
  obtain ⟨i, hi⟩ := List.getElem?_of_mem hl
  have := (h.steps i l hi).1
  omega
theorem ret_ii {k k' : IntKind} {a b : Int} {c d : Int} (h : a = b) (h' : c = d) : Ending.returned (.tuple #[.int k a, .int k' c]) = .returned (.tuple #[.int k b, .int k' d]) := by rw [h, h']

noncomputable def nextV (p : Shop) (t m : Int) : Value := if inB 0 t 100000000 && inB 1 m (p.cl - p.op) then .tuple #[.int .i64 (nextF p t m), .int .i64 0] else .tuple #[.int .i64 0, .int .i64 2]
noncomputable def afterV (p : Shop) (t m : Int) : Value := if inB 0 t 100000000 && inB 0 m 1000000 then .tuple #[.int .i64 (afterF p t m), .int .i64 0] else .tuple #[.int .i64 0, .int .i64 2]
theorem nextV_no {p : Shop} {t m : Int} (h : inB 0 t 100000000 = false ∨ inB 1 m (p.cl - p.op) = false) : nextV p t m = .tuple #[.int .i64 0, .int .i64 2] := by
  unfold nextV
  rcases h with h | h <;> rw [h] <;> simp
theorem nextV_ok {p : Shop} {t m : Int} (h1 : 0 ≤ t) (h2 : t ≤ 100000000) (h3 : 1 ≤ m) (h4 : m ≤ p.cl - p.op) : nextV p t m = .tuple #[.int .i64 (nextF p t m), .int .i64 0] := by
  unfold nextV
  rw [inB_iff.2 ⟨h1, h2⟩, inB_iff.2 ⟨h3, h4⟩]; rfl
theorem afterV_no {p : Shop} {t m : Int} (h : inB 0 t 100000000 = false ∨ inB 0 m 1000000 = false) : afterV p t m = .tuple #[.int .i64 0, .int .i64 2] := by
  unfold afterV
  rcases h with h | h <;> rw [h] <;> simp
theorem afterV_ok {p : Shop} {t m : Int} (h1 : 0 ≤ t) (h2 : t ≤ 100000000) (h3 : 0 ≤ m) (h4 : m ≤ 1000000) : afterV p t m = .tuple #[.int .i64 (afterF p t m), .int .i64 0] := by
  unfold afterV
  rw [inB_iff.2 ⟨h1, h2⟩, inB_iff.2 ⟨h3, h4⟩]; rfl
theorem ret_eq {a b : Value} (h : a = b) : Ending.returned a = .returned b := by rw [h]

theorem apiNext_any (s : Sh) (t m : Int) (w : World) (hS : ShAt w w.heap.size s) (hvB : validShop s.p = true) :
    Calls Try.prog 21 #[.agg #[.int .i64 s.p.op, .int .i64 s.p.cl, .slice s.aH s.p.hol.length s.cH, .int .i64 s.p.mach, .slice s.aS s.p.setup.length s.cS, .slice s.aJ s.p.jobs.length s.cJ], .int .i64 t, .int .i64 m] w fun e w' => e = .returned (nextV s.p t m) ∧ Below w.heap.size w w' := by
  have hv := valid_facts hvB
  have v1 := hv.op0
  have v2 := hv.opcl
  have v3 := hv.cl
  have hf := hv.fits
  have hk := Blk.new w 25 #[.int .i64 s.p.op, .int .i64 s.p.cl, .slice s.aH s.p.hol.length s.cH, .int .i64 s.p.mach, .slice s.aS s.p.setup.length s.cS, .slice s.aJ s.p.jobs.length s.cJ]
  have hw := (Below.refl w.heap.size w).alloc (Nat.le_refl _) (.cells #[.int .i64 s.p.op, .int .i64 s.p.cl, .slice s.aH s.p.hol.length s.cH, .int .i64 s.p.mach, .slice s.aS s.p.setup.length s.cS, .slice s.aJ s.p.jobs.length s.cJ] 25)
  have HSW := hS.on hw
  go_enter Try.func21, Try.ntmps21
  go_wp2_with fail
  refine (valid_any s _ HSW hf.h1 hf.h2 hf.h3 hf.h4).mono ?_
  rintro e w2 ⟨rfl, hb⟩
  rw [hvB]
  have hb2 := hw.trans (hb.mono hw.size)
  have hk2 := hk.below hb hk.lt
  have c0 := hk2.cell_ 0 rfl
  have c1 := hk2.cell_ 1 rfl
  have c2 := hk2.cell_ 2 rfl
  have c3 := hk2.cell_ 3 rfl
  have c4 := hk2.cell_ 4 rfl
  have c5 := hk2.cell_ 5 rfl
  clear hb hw hk HSW
  cases ht : inB 0 t 100000000
  · go_wp2_with (go_at_call 50; refine (within_any _ _ _ _).mono ?_; rintro e w' ⟨rfl, rfl⟩)
    go_ret2
    exact ⟨ret_eq (nextV_no (.inl ht)).symm, hb2⟩
  · cases hm : inB 1 m (s.p.cl - s.p.op)
    · go_wp2_with (go_at_call 50; refine (within_any _ _ _ _).mono ?_; rintro e w' ⟨rfl, rfl⟩)
      go_ret2
      exact ⟨ret_eq (nextV_no (.inr hm)).symm, hb2⟩
    · obtain ⟨t1, t2⟩ := inB_iff.1 ht
      obtain ⟨m1, m2⟩ := inB_iff.1 hm
      go_wp2_with (go_at_call 50; refine (within_any _ _ _ _).mono ?_; rintro e w' ⟨rfl, rfl⟩)
      refine (next_any s t m _ (hS.on hb2) hv t1 (by omega) m1 m2).mono ?_
      rintro e w3 ⟨rfl, hb⟩
      go_wp2_with fail
      go_ret2
      exact ⟨ret_eq (nextV_ok t1 t2 m1 m2).symm, hb2.trans (hb.mono hb2.size)⟩

theorem apiAfter_any (s : Sh) (t m : Int) (w : World) (hS : ShAt w w.heap.size s) (hvB : validShop s.p = true) :
    Calls Try.prog 23 #[.agg #[.int .i64 s.p.op, .int .i64 s.p.cl, .slice s.aH s.p.hol.length s.cH, .int .i64 s.p.mach, .slice s.aS s.p.setup.length s.cS, .slice s.aJ s.p.jobs.length s.cJ], .int .i64 t, .int .i64 m] w fun e w' => e = .returned (afterV s.p t m) ∧ Below w.heap.size w w' := by
  have hv := valid_facts hvB
  have hf := hv.fits
  have hk := Blk.new w 25 #[.int .i64 s.p.op, .int .i64 s.p.cl, .slice s.aH s.p.hol.length s.cH, .int .i64 s.p.mach, .slice s.aS s.p.setup.length s.cS, .slice s.aJ s.p.jobs.length s.cJ]
  have hw := (Below.refl w.heap.size w).alloc (Nat.le_refl _) (.cells #[.int .i64 s.p.op, .int .i64 s.p.cl, .slice s.aH s.p.hol.length s.cH, .int .i64 s.p.mach, .slice s.aS s.p.setup.length s.cS, .slice s.aJ s.p.jobs.length s.cJ] 25)
  have HSW := hS.on hw
  go_enter Try.func23, Try.ntmps23
  go_wp2_with fail
  refine (valid_any s _ HSW hf.h1 hf.h2 hf.h3 hf.h4).mono ?_
  rintro e w2 ⟨rfl, hb⟩
  rw [hvB]
  have hb2 := hw.trans (hb.mono hw.size)
  have hk2 := hk.below hb hk.lt
  have c0 := hk2.cell_ 0 rfl
  have c1 := hk2.cell_ 1 rfl
  have c2 := hk2.cell_ 2 rfl
  have c3 := hk2.cell_ 3 rfl
  have c4 := hk2.cell_ 4 rfl
  have c5 := hk2.cell_ 5 rfl
  clear hb hw hk HSW
  cases ht : inB 0 t 100000000
  · go_wp2_with (go_at_call 50; refine (within_any _ _ _ _).mono ?_; rintro e w' ⟨rfl, rfl⟩)
    go_ret2
    exact ⟨ret_eq (afterV_no (.inl ht)).symm, hb2⟩
  · cases hm : inB 0 m 1000000
    · go_wp2_with (go_at_call 50; refine (within_any _ _ _ _).mono ?_; rintro e w' ⟨rfl, rfl⟩)
      go_ret2
      exact ⟨ret_eq (afterV_no (.inr hm)).symm, hb2⟩
    · obtain ⟨t1, t2⟩ := inB_iff.1 ht
      obtain ⟨m1, m2⟩ := inB_iff.1 hm
      go_wp2_with (go_at_call 50; refine (within_any _ _ _ _).mono ?_; rintro e w' ⟨rfl, rfl⟩)
      refine (after_any s t m _ (hS.on hb2) hv t1 (by omega) m1 (by omega)).mono ?_
      rintro e w3 ⟨rfl, hb⟩
      go_wp2_with fail
      go_ret2
      exact ⟨ret_eq (afterV_ok t1 t2 m1 m2).symm, hb2.trans (hb.mono hb2.size)⟩

theorem apiWorked_ok (s : Sh) (f t : Int) (w : World) (hS : ShAt w w.heap.size s) (hvB : validShop s.p = true) (h0 : 0 ≤ f) (h1 : f ≤ t) (h2 : t ≤ 100000000) :
    Calls Try.prog 25 #[.agg #[.int .i64 s.p.op, .int .i64 s.p.cl, .slice s.aH s.p.hol.length s.cH, .int .i64 s.p.mach, .slice s.aS s.p.setup.length s.cS, .slice s.aJ s.p.jobs.length s.cJ], .int .i64 f, .int .i64 t] w fun e w' => e = .returned (.tuple #[.int .i64 (oB s.p t - oB s.p f), .int .i64 0]) ∧ Below w.heap.size w w' := by
  have hv := valid_facts hvB
  have hf := hv.fits
  have hp1 := oB_pos hv h0
  have hp2 := oB_mono hv h1
  have hk := Blk.new w 25 #[.int .i64 s.p.op, .int .i64 s.p.cl, .slice s.aH s.p.hol.length s.cH, .int .i64 s.p.mach, .slice s.aS s.p.setup.length s.cS, .slice s.aJ s.p.jobs.length s.cJ]
  have hw := (Below.refl w.heap.size w).alloc (Nat.le_refl _) (.cells #[.int .i64 s.p.op, .int .i64 s.p.cl, .slice s.aH s.p.hol.length s.cH, .int .i64 s.p.mach, .slice s.aS s.p.setup.length s.cS, .slice s.aJ s.p.jobs.length s.cJ] 25)
  have HSW := hS.on hw
  go_enter Try.func25, Try.ntmps25
  go_wp2_with fail
  refine (valid_any s _ HSW hf.h1 hf.h2 hf.h3 hf.h4).mono ?_
  rintro e w2 ⟨rfl, hb⟩
  rw [hvB]
  have hb2 := hw.trans (hb.mono hw.size)
  have hk2 := hk.below hb hk.lt
  clear hb hw hk HSW
  go_wp2_with fail
  have HS2 := hS.on hb2
  refine wp_region_quiet (C := fun w' => ∃ u : Since w2, w' = u.w) (by kernel_rfl) (by kernel_rfl) (Since.start w2) ?_
  dsimp only
  have y0 := Since.cell (hk2.cell_ 0 rfl)
  have y1 := Since.cell (hk2.cell_ 1 rfl)
  have y2 := Since.cell (hk2.cell_ 2 rfl)
  have y3 := Since.cell (hk2.cell_ 3 rfl)
  have y4 := Since.cell (hk2.cell_ 4 rfl)
  have y5 := Since.cell (hk2.cell_ 5 rfl)
  have e1 : IntKind.i64.wrap (oB s.p t - oB s.p f) = oB s.p t - oB s.p f := IntWalk.i64_in _ (by omega)
  repeat (go_big_quiet_step ((go_at_call 55; exact Since.calls (openBefore_any s _ _ (HS2.on (Since.h _)) hv (by omega) (by omega)))))
  refine wpQuiet_nil ?_
  rintro _ ⟨u, rfl⟩
  go_wp2_with fail
  go_ret2
  exact ⟨rfl, hb2.trans (u.h.mono hb2.size)⟩

theorem apiWorked_err (s : Sh) (f t : Int) (w : World) (hS : ShAt w w.heap.size s) (hvB : validShop s.p = true) (h : f < 0 ∨ t < f ∨ 100000000 < t) :
    Calls Try.prog 25 #[.agg #[.int .i64 s.p.op, .int .i64 s.p.cl, .slice s.aH s.p.hol.length s.cH, .int .i64 s.p.mach, .slice s.aS s.p.setup.length s.cS, .slice s.aJ s.p.jobs.length s.cJ], .int .i64 f, .int .i64 t] w fun e w' => e = .returned (.tuple #[.int .i64 0, .int .i64 2]) ∧ Below w.heap.size w w' := by
  have hv := valid_facts hvB
  have hf := hv.fits
  have hk := Blk.new w 25 #[.int .i64 s.p.op, .int .i64 s.p.cl, .slice s.aH s.p.hol.length s.cH, .int .i64 s.p.mach, .slice s.aS s.p.setup.length s.cS, .slice s.aJ s.p.jobs.length s.cJ]
  have hw := (Below.refl w.heap.size w).alloc (Nat.le_refl _) (.cells #[.int .i64 s.p.op, .int .i64 s.p.cl, .slice s.aH s.p.hol.length s.cH, .int .i64 s.p.mach, .slice s.aS s.p.setup.length s.cS, .slice s.aJ s.p.jobs.length s.cJ] 25)
  have HSW := hS.on hw
  go_enter Try.func25, Try.ntmps25
  go_wp2_with fail
  refine (valid_any s _ HSW hf.h1 hf.h2 hf.h3 hf.h4).mono ?_
  rintro e w2 ⟨rfl, hb⟩
  rw [hvB]
  have hb2 := hw.trans (hb.mono hw.size)
  by_cases h1 : f < 0
  · go_wp2_with fail
    go_ret2
    exact ⟨rfl, hb2⟩
  · by_cases h2 : t < f
    · go_wp2_with fail
      go_ret2
      exact ⟨rfl, hb2⟩
    · have h3 : 100000000 < t := by omega
      go_wp2_with fail
      go_ret2
      exact ⟨rfl, hb2⟩

end Go.Proofs.Ytcpnfcnobnjhdaa
