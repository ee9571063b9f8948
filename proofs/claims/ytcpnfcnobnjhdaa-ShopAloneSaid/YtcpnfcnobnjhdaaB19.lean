/- Parts of the proofs of this seat: Order. Each part says what it proves; no condition beyond those stated there. -/
import Derived.Deep.DeepCutAuto
import Derived.Deep.RegionLaw
import Derived.Test.YtcpnfcnobnjhdaaB16
import Derived.Test.YtcpnfcnobnjhdaaB18

/- Order of package shop; the reference's End: the walks. -/
namespace Go.Proofs.Ytcpnfcnobnjhdaa
open Go.RowKit
def endA (p : Shop) (pl : List (List Int)) : Int := endL (ats p pl) 0
theorem endA_eq {p : Shop} {pl : List (List Int)} (hz : (judgeF p pl).2.2 = 0) : endA p pl = endV p pl := by
  unfold endA endV rightL
  rw [if_pos hz]
  exact (endL_perm (sortA_perm _) 0).symm
set_option maxRecDepth 100000 in
set_option maxHeartbeats 2000000 in
theorem refEnd_any (s : Sh) (A : Option Addr) (c : Nat) (pl : List (List Int)) (w : World) (hS : ShAt w w.heap.size s) (hv : VShop s.p) (hP : Plan w w.heap.size A pl) (hp : VPlan s.p pl) :
    Calls Try.prog 41 #[.agg #[.int .i64 s.p.op, .int .i64 s.p.cl, .slice s.aH s.p.hol.length s.cH, .int .i64 s.p.mach, .slice s.aS s.p.setup.length s.cS, .slice s.aJ s.p.jobs.length s.cJ], .slice A pl.length c] w fun e w' => e = .returned (.int .i64 (endA s.p pl)) ∧ Below w.heap.size w w' := by
  have hen := ents_len hv
  have v1 := hv.op0
  have v3 := hv.cl
  have hal := ats_len s.p pl
  have hal2 : (ats s.p pl).length ≤ 96 := by omega
  have HE : Hid (endA s.p pl = endL ((ats s.p pl).drop 0) 0) := rfl
  have HOK := hide (fun (a : At) (h : a ∈ ats s.p pl) => ats_ok hv hp h)
  have hk := Blk.new w 25 #[.int .i64 s.p.op, .int .i64 s.p.cl, .slice s.aH s.p.hol.length s.cH, .int .i64 s.p.mach, .slice s.aS s.p.setup.length s.cS, .slice s.aJ s.p.jobs.length s.cJ]
  have hB := (Below.refl w.heap.size w).alloc (Nat.le_refl _) (.cells #[.int .i64 s.p.op, .int .i64 s.p.cl, .slice s.aH s.p.hol.length s.cH, .int .i64 s.p.mach, .slice s.aS s.p.setup.length s.cS, .slice s.aJ s.p.jobs.length s.cJ] 25)
  go_enter Try.func41, Try.ntmps41
  go_wp2_with fail
  generalize w.alloc (.cells #[.int .i64 s.p.op, .int .i64 s.p.cl, .slice s.aH s.p.hol.length s.cH, .int .i64 s.p.mach, .slice s.aS s.p.setup.length s.cS, .slice s.aJ s.p.jobs.length s.cJ] 25) = W at *
  have c0 := hk.cell_ 0 rfl
  have c1 := hk.cell_ 1 rfl
  have c2 := hk.cell_ 2 rfl
  have c3 := hk.cell_ 3 rfl
  have c4 := hk.cell_ 4 rfl
  have c5 := hk.cell_ 5 rfl
  go_wp2_with fail
  refine (refList_any s _ (hS.on hB) hv).mono ?_
  rintro e W ⟨AL, cL, rfl, hb, hL0⟩
  clear c0 c1 c2 c3 c4 c5
  replace hk := hk.below hb hk.lt
  replace hB := hB.trans (hb.mono hB.size)
  clear hb
  have c0 := hk.cell_ 0 rfl
  have c1 := hk.cell_ 1 rfl
  have c2 := hk.cell_ 2 rfl
  have c3 := hk.cell_ 3 rfl
  have c4 := hk.cell_ 4 rfl
  have c5 := hk.cell_ 5 rfl
  have hL : Slc AP 2 W W.heap.size AL (ats s.p pl) := slc_map hL0
  rw [← hal]
  clear hL0 hal hen
  generalize ats s.p pl = L at *
  clear c0 c1 c2 c3 c4 c5
  go_wp2_with fail
  go_loopw [5, 7] (fun x y W => ∃ (i : Nat) (m : Int), x = .int .i64 m ∧ y = .int .i64 i ∧ i ≤ L.length ∧ 0 ≤ m ∧ m ≤ 2000000000 ∧ Hid (endA s.p pl = endL (L.drop i) m) ∧ Blk W w.heap.size 25 #[.int .i64 s.p.op, .int .i64 s.p.cl, .slice s.aH s.p.hol.length s.cH, .int .i64 s.p.mach, .slice s.aS s.p.setup.length s.cS, .slice s.aJ s.p.jobs.length s.cJ] ∧ Slc AP 2 W W.heap.size AL L ∧ Below w.heap.size w W) (fun x y _ => L.length - (intOf y).toNat)
  case atStart => exact ⟨0, 0, rfl, rfl, Nat.zero_le _, Int.le_refl _, by omega, HE, hk, hL, hB⟩
  case round =>
    clear hk hB hL
    obtain ⟨W, rfl⟩ : ∃ W : World, W = wr := ⟨_, rfl⟩
    obtain ⟨i, m, rfl, rfl, hi, hm0, hm1, HS, hk, hL, hB⟩ := hrel
    by_cases hlt : i < L.length
    · obtain ⟨a, ha⟩ : ∃ a, L[i]? = some a := ⟨_, List.getElem?_eq_getElem hlt⟩
      have HST := hide (endL_drop (m := m) ha)
      obtain ⟨b, off, hA, hb0, d0, d1⟩ := hL.at2 ha (v0 := .int .i64 a.j) (v1 := .int .i64 a.k) rfl
      have hok := HOK.out a (List.mem_of_getElem? ha)
      obtain ⟨st, hj, hx⟩ := hok.job
      obtain ⟨l, t, hpl, hlt0, hpt, _⟩ := hp.start hj hx
      have hlt' : l[a.k]? = some a.t := by rw [hok.start, hpt]; exact hlt0
      obtain ⟨bp, offp, Ap, cp, hAp, hbp, hcp, hSp⟩ := plan_at (hP.on hB) hpl
      obtain ⟨bt, offt, hAt, hbt, hct⟩ := int_at hSp hlt'
      have o1 := hok.t0
      have o2 := hok.t1
      have o3 := hok.mi0
      have o4 := hok.mi1
      have o5 := hok.d0
      have o6 := hok.d1
      have i1 : (i : Int) < (L.length : Int) := by omega
      have i2 : (a.j : Int) < (pl.length : Int) := by have := (List.getElem?_eq_some_iff.1 hpl).1; omega
      have i3 : (a.k : Int) < (l.length : Int) := by have := (List.getElem?_eq_some_iff.1 hlt').1; omega
      have HJX := hide (And.intro hj hx)
      have HPL := hide (And.intro hpl hlt')
      have HA := hide ha
      clear ha hok hj hx hpl hlt0 hpt hlt'
      subst hA hAp hAt
      have HSW := hS.on hB
      have e1 : IntKind.i64.wrap (a.t + a.x.mi) = a.t + a.x.mi := IntWalk.i64_in _ (by omega)
      have fs1 := fstep1
      have c0 := hk.cell_ 0 rfl
      have c1 := hk.cell_ 1 rfl
      have c2 := hk.cell_ 2 rfl
      have c3 := hk.cell_ 3 rfl
      have c4 := hk.cell_ 4 rfl
      have c5 := hk.cell_ 5 rfl
      go_wp2_with fail
      refine wp_region_quiet (C := fun w' => ∃ u : Since W, w' = u.w) (by kernel_rfl) (by kernel_rfl) (Since.start W) ?_
      dsimp only
      have y_c0 := Since.cell c0
      have y_c1 := Since.cell c1
      have y_c2 := Since.cell c2
      have y_c3 := Since.cell c3
      have y_c4 := Since.cell c4
      have y_c5 := Since.cell c5
      have y_d0 := Since.cell d0
      have y_d1 := Since.cell d1
      have y_hcp := Since.cell hcp
      have y_hct := Since.cell hct
      clear c0 c1 c2 c3 c4 c5
      repeat (go_big_quiet_step ((go_at_call 59; exact Since.calls (at_any s a.j a.k st a.x _ (HSW.on (Since.h _)) HJX.out.1 HJX.out.2))))
      refine wpQuiet_nil ?_
      rintro W ⟨⟨_, hb⟩, rfl⟩
      try dsimp only at hb ⊢
      replace d0 : W.cell? _ = _ := y_d0 ⟨W, hb⟩
      replace d1 : W.cell? _ = _ := y_d1 ⟨W, hb⟩
      replace hcp : W.cell? _ = _ := y_hcp ⟨W, hb⟩
      replace hct : W.cell? _ = _ := y_hct ⟨W, hb⟩
      clear y_c0 y_c1 y_c2 y_c3 y_c4 y_c5 y_d0 y_d1 y_hcp y_hct
      replace hk := hk.below hb hk.lt
      replace hL := (hL.below hb).more hb.size
      replace hB := hB.trans (hb.mono hB.size)
      clear hb
      have c0 := hk.cell_ 0 rfl
      have c1 := hk.cell_ 1 rfl
      have c2 := hk.cell_ 2 rfl
      have c3 := hk.cell_ 3 rfl
      have c4 := hk.cell_ 4 rfl
      have c5 := hk.cell_ 5 rfl
      have HS2 : Hid (endA s.p pl = endL (L.drop (i + 1)) (max m (a.t + a.x.mi))) := by show _ = _; rw [HS.out, HST.out]; rfl
      go_wp2_with fail
      go_roundw
      case rel => exact ⟨i + 1, max m (a.t + a.x.mi), rfl, by go_num, by omega, by omega, by omega, HS2, hk, hL, hB⟩
      case measure => simp [intOf]; omega
    · obtain rfl : i = L.length := by omega
      have HV : Hid (endA s.p pl = m) := by show _ = _; rw [HS.out, nomore]; rfl
      have c0 := hk.cell_ 0 rfl
      have c1 := hk.cell_ 1 rfl
      have c2 := hk.cell_ 2 rfl
      have c3 := hk.cell_ 3 rfl
      have c4 := hk.cell_ 4 rfl
      have c5 := hk.cell_ 5 rfl
      go_wp2_with fail
      go_ret
      exact ⟨ret_int (by rw [HV.out]), hB⟩
/-- Order: the steps of a machine -/
noncomputable def ordL (p : Shop) (pl : List (List Int)) (m : Int) : List At := if inB 0 m (p.mach - 1) then (rightL p pl).filter fun a => decide (a.x.m = m) else []
noncomputable def ordE (p : Shop) (pl : List (List Int)) (m : Int) : Int := if inB 0 m (p.mach - 1) then (judgeF p pl).2.2 else 2
theorem judge_not {p : Shop} {pl : List (List Int)} (h : shapedB p pl = false) : judgeF p pl = (0, 0, 2) := by unfold judgeF; rw [h]; rfl
theorem ord_not {p : Shop} {pl : List (List Int)} (h : shapedB p pl = false) (m : Int) : ordL p pl m = [] ∧ ordE p pl m = 2 := by
  have h1 := judge_not h
  unfold ordL ordE rightL
  rw [h1]
  simp
theorem filter_snoc {α : Type} {f : α → Bool} {L : List α} {i : Nat} {a : α} (h : L[i]? = some a) : (L.take (i + 1)).filter f = if f a then (L.take i).filter f ++ [a] else (L.take i).filter f := by
  rw [List.take_add_one, h]
  simp only [Option.toList, List.filter_append]
  by_cases hf : f a <;> simp [hf]
set_option maxRecDepth 100000 in
set_option maxHeartbeats 2000000 in
theorem apiOrder_any (s : Sh) (A : Option Addr) (c : Nat) (pl : List (List Int)) (mc : Int) (w : World) (hS : ShAt w w.heap.size s) (hvB : validShop s.p = true) (hP : Plan w w.heap.size A pl) (hf : PFits pl) :
    Calls Try.prog 40 #[.agg #[.int .i64 s.p.op, .int .i64 s.p.cl, .slice s.aH s.p.hol.length s.cH, .int .i64 s.p.mach, .slice s.aS s.p.setup.length s.cS, .slice s.aJ s.p.jobs.length s.cJ], .slice A pl.length c, .int .i64 mc] w fun e w' => ∃ A' c', e = .returned (.tuple #[.slice A' (ordL s.p pl mc).length c', .int .i64 (ordE s.p pl mc)]) ∧ Below w.heap.size w w' ∧ Slc AP 2 w' w'.heap.size A' (ordL s.p pl mc) := by
  have hv := valid_facts hvB
  have hfs := hv.fits
  have hln := rightL_len hv pl
  have hm1 := hv.mach1
  have hm6 := hv.mach6
  have hk := Blk.new w 25 #[.int .i64 s.p.op, .int .i64 s.p.cl, .slice s.aH s.p.hol.length s.cH, .int .i64 s.p.mach, .slice s.aS s.p.setup.length s.cS, .slice s.aJ s.p.jobs.length s.cJ]
  have hB := (Below.refl w.heap.size w).alloc (Nat.le_refl _) (.cells #[.int .i64 s.p.op, .int .i64 s.p.cl, .slice s.aH s.p.hol.length s.cH, .int .i64 s.p.mach, .slice s.aS s.p.setup.length s.cS, .slice s.aJ s.p.jobs.length s.cJ] 25)
  go_enter Try.func40, Try.ntmps40
  go_wp2_with fail
  generalize w.alloc (.cells #[.int .i64 s.p.op, .int .i64 s.p.cl, .slice s.aH s.p.hol.length s.cH, .int .i64 s.p.mach, .slice s.aS s.p.setup.length s.cS, .slice s.aJ s.p.jobs.length s.cJ] 25) = W at *
  have c0 := hk.cell_ 0 rfl
  have c1 := hk.cell_ 1 rfl
  have c2 := hk.cell_ 2 rfl
  have c3 := hk.cell_ 3 rfl
  have c4 := hk.cell_ 4 rfl
  have c5 := hk.cell_ 5 rfl
  go_wp2_with fail
  refine (valid_any s _ (hS.on hB) hfs.h1 hfs.h2 hfs.h3 hfs.h4).mono ?_
  rintro e W ⟨rfl, hb⟩
  clear c0 c1 c2 c3 c4 c5
  replace hk := hk.below hb hk.lt
  replace hB := hB.trans (hb.mono hB.size)
  clear hb
  have c0 := hk.cell_ 0 rfl
  have c1 := hk.cell_ 1 rfl
  have c2 := hk.cell_ 2 rfl
  have c3 := hk.cell_ 3 rfl
  have c4 := hk.cell_ 4 rfl
  have c5 := hk.cell_ 5 rfl
  rw [hvB]
  go_wp2_with fail
  refine (shaped_any s A c pl _ (hS.on hB) hv (hP.on hB) hf).mono ?_
  rintro e W ⟨rfl, hb⟩
  clear c0 c1 c2 c3 c4 c5
  replace hk := hk.below hb hk.lt
  replace hB := hB.trans (hb.mono hB.size)
  clear hb
  have c0 := hk.cell_ 0 rfl
  have c1 := hk.cell_ 1 rfl
  have c2 := hk.cell_ 2 rfl
  have c3 := hk.cell_ 3 rfl
  have c4 := hk.cell_ 4 rfl
  have c5 := hk.cell_ 5 rfl
  cases hsh : shapedB s.p pl
  · obtain ⟨q1, q2⟩ := ord_not hsh mc
    have HQ := hide (And.intro q1 q2)
    clear q1 q2 hsh
    go_wp2_with fail
    go_ret2
    exact ⟨none, 0, by rw [HQ.out.1, HQ.out.2]; rfl, hB, by rw [HQ.out.1]; exact Slc.nil_⟩
  · have HSH := hide hsh
    clear hsh
    go_wp2_with fail
    refine (within_any 0 mc (s.p.mach - 1) _).mono ?_
    rintro e W' ⟨rfl, rfl⟩
    cases hin : inB 0 mc (s.p.mach - 1)
    · have HQ : Hid (ordL s.p pl mc = [] ∧ ordE s.p pl mc = 2) := by show _ ∧ _; unfold ordL ordE; rw [hin]; exact ⟨rfl, rfl⟩
      clear hin
      go_wp2_with fail
      go_ret2
      exact ⟨none, 0, by rw [HQ.out.1, HQ.out.2]; rfl, hB, by rw [HQ.out.1]; exact Slc.nil_⟩
    · have HQ : Hid (ordL s.p pl mc = ((rightL s.p pl).filter fun a => decide (a.x.m = mc)) ∧ ordE s.p pl mc = (judgeF s.p pl).2.2) := by show _ ∧ _; unfold ordL ordE; rw [hin]; exact ⟨rfl, rfl⟩
      clear hin
      go_wp2_with fail
      refine (right_any s A c pl _ (hS.on hB) hvB (hP.on hB) hf).mono ?_
      rintro e W2 hR
      obtain ⟨AL, cL, rfl, hb, hL⟩ := hR.form
      replace hB := hB.trans (hb.mono hB.size)
      clear hb hR hk c0 c1 c2 c3 c4 c5
      generalize rightL s.p pl = L at *
      obtain ⟨z, hz⟩ : ∃ z, (judgeF s.p pl).2.2 = z := ⟨_, rfl⟩
      rw [hz] at HQ ⊢
      clear hz
      obtain ⟨W, rfl⟩ : ∃ W : World, W = W2 := ⟨_, rfl⟩
      obtain ⟨base, hbase⟩ : ∃ n, n = W.heap.size := ⟨_, rfl⟩
      have hwb : w.heap.size ≤ base := by rw [hbase]; exact hB.size
      rw [← hbase] at hL
      have hO : Own W base 77 2 AP (.slice none 0 0) [] := Own.nil_
      have hz : base ≤ W.heap.size := Nat.le_of_eq hbase
      clear hbase
      go_wp2_with fail
      go_loopw [10, 37] (fun v y W => ∃ i : Nat, y = .int .i64 i ∧ i ≤ L.length ∧ Slc At.enc 7 W base AL L ∧ Own W base 77 2 AP v ((L.take i).filter fun a => decide (a.x.m = mc)) ∧ base ≤ W.heap.size ∧ Below w.heap.size w W) (fun v y _ => L.length - (intOf y).toNat)
      case atStart => exact ⟨0, rfl, Nat.zero_le _, hL, hO, hz, hB⟩
      case round =>
        clear hL hO hz hB
        obtain ⟨W, rfl⟩ : ∃ W : World, W = wr := ⟨_, rfl⟩
        obtain ⟨i, rfl, hi, hL, hO, hz, hB⟩ := hrel
        by_cases hlt : i < L.length
        · obtain ⟨a, ha⟩ : ∃ a, L[i]? = some a := ⟨_, List.getElem?_eq_getElem hlt⟩
          obtain ⟨b, off, hA, hb0, d0, d1, d2, d3, d4, d5, d6⟩ := at7 hL ha
          have HFS := hide (filter_snoc (f := fun a : At => decide (a.x.m = mc)) ha)
          have hfl : ((L.take i).filter fun a => decide (a.x.m = mc)).length ≤ 1000000000 := by
            have h1 := List.length_filter_le (fun a : At => decide (a.x.m = mc)) (L.take i)
            have h2 : (L.take i).length ≤ i := List.length_take_le _ _
            omega
          clear ha
          subst hA
          have hij : (i : Int) < (L.length : Int) := by omega
          go_upto_region 8 with fail
          have hx := Blk.new W 91 #[.int .i64 a.j, .int .i64 a.k, .int .i64 a.t, .int .i64 a.x.m, .int .i64 a.x.mi, .int .i64 a.x.c, .int .i64 a.x.d]
          replace hL := hL.below (((Below.refl _ W).alloc (Nat.le_refl _) (.cells #[.int .i64 a.j, .int .i64 a.k, .int .i64 a.t, .int .i64 a.x.m, .int .i64 a.x.mi, .int .i64 a.x.c, .int .i64 a.x.d] 91)).mono (by omega))
          replace hO := hO.alloc (.cells #[.int .i64 a.j, .int .i64 a.k, .int .i64 a.t, .int .i64 a.x.m, .int .i64 a.x.mi, .int .i64 a.x.c, .int .i64 a.x.d] 91)
          replace hz := Nat.le_trans hz ((Below.refl _ W).alloc (Nat.le_refl _) (.cells #[.int .i64 a.j, .int .i64 a.k, .int .i64 a.t, .int .i64 a.x.m, .int .i64 a.x.mi, .int .i64 a.x.c, .int .i64 a.x.d] 91)).size
          replace hB := hB.alloc hB.size (.cells #[.int .i64 a.j, .int .i64 a.k, .int .i64 a.t, .int .i64 a.x.m, .int .i64 a.x.mi, .int .i64 a.x.c, .int .i64 a.x.d] 91)
          generalize W.alloc (.cells #[.int .i64 a.j, .int .i64 a.k, .int .i64 a.t, .int .i64 a.x.m, .int .i64 a.x.mi, .int .i64 a.x.c, .int .i64 a.x.d] 91) = W at *
          have a0 := hx.cell_ 0 rfl
          have a1 := hx.cell_ 1 rfl
          have a2 := hx.cell_ 2 rfl
          have a3 := hx.cell_ 3 rfl
          have a4 := hx.cell_ 4 rfl
          have a5 := hx.cell_ 5 rfl
          have a6 := hx.cell_ 6 rfl
          clear d0 d1 d2 d3 d4 d5 d6
          by_cases hmm : a.x.m = mc
          · have hmb : (a.x.m == mc) = true := by simpa using hmm
            have HF2 : Hid ((L.take (i + 1)).filter (fun a => decide (a.x.m = mc)) = (L.take i).filter (fun a => decide (a.x.m = mc)) ++ [a]) := by show _ = _; rw [HFS.out, if_pos (decide_eq_true hmm)]
            clear hmm
            go_wp2_with (at_builtin; refine wpList_app _ _ rfl rfl et_pair hO rfl rfl (y := a) rfl rfl rfl (by omega) (by omega) ?_; intro v' W' hO' hb hgt; clear hx a0 a1 a2 a3 a4 a5 a6; replace hL := hL.below hb; clear hO; have hO := hO'; clear hO'; replace hB := hB.trans (hb.mono hwb); replace hz := Nat.le_trans hz hb.size; clear hb)
            rw [← HF2.out] at hO
            go_roundw
            case rel => exact ⟨i + 1, by go_num, by omega, hL, hO, hz, hB⟩
            case measure => simp [intOf]; omega
          · have hmb : (a.x.m == mc) = false := by simpa using hmm
            have HF2 : Hid ((L.take (i + 1)).filter (fun a => decide (a.x.m = mc)) = (L.take i).filter (fun a => decide (a.x.m = mc))) := by show _ = _; rw [HFS.out, if_neg (by simpa using hmm)]
            clear hmm
            go_wp2_with fail
            rw [← HF2.out] at hO
            go_roundw
            case rel => exact ⟨i + 1, by go_num, by omega, hL, hO, hz, hB⟩
            case measure => simp [intOf]; omega
        · obtain rfl : i = L.length := by omega
          rw [List.take_length] at hO
          obtain ⟨A', c', hv', hSl⟩ := hO.form fun _ => rfl
          subst hv'
          have HSl := hide hSl
          clear hSl
          go_wp2_with fail
          go_ret2
          exact ⟨A', c', by rw [HQ.out.1, HQ.out.2]; rfl, hB, by rw [HQ.out.1]; exact HSl.out⟩
end Go.Proofs.Ytcpnfcnobnjhdaa
