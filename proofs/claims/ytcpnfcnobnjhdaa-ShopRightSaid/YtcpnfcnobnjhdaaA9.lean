/- Parts of the proofs of this seat: Order, OrderP, DispP, SeqP, App. Each part says what it proves; no condition beyond those stated there. -/
import Derived.Deep.DeepCutAuto
import Derived.Deep.RegionLaw
import Derived.Laws.StructEq
import Derived.ChangeKeysEq
import Derived.ArgAppend
import Derived.Great.BuildSlice
import Derived.Test.YtcpnfcnobnjhdaaA8

/- Order of package shop; the reference's End: the walks. -/
namespace Go.Proofs.Ytcpnfcnobnjhdaa
open Go.RowKit
def endA (p : Shop) (pl : List (List Int)) : Int := endL (ats p pl) 0
theorem endA_eq {p : Shop} {pl : List (List Int)} (hz : (judgeF p pl).2.2 = 0) : endA p pl = endV p pl := by
  unfold endA endV rightL
  rw [if_pos hz]
  exact (endL_perm (sortA_perm _) 0).symm
set_option maxRecDepth 100000 in
set_option maxHeartbeats 2000000 in
theorem refEnd_any (s : Sh) (A : Option Addr) (c : Nat) (pl : List (List Int)) (w : World) (hS : ShAt w w.heap.size s) (hv : VShop s.p) (hP : Plan w w.heap.size A pl) (hp : VPlan s.p pl) :
    Calls Try.prog 41 #[.agg #[.int .i64 s.p.op, .int .i64 s.p.cl, .slice s.aH s.p.hol.length s.cH, .int .i64 s.p.mach, .slice s.aS s.p.setup.length s.cS, .slice s.aJ s.p.jobs.length s.cJ], .slice A pl.length c] w fun e w' => e = .returned (.int .i64 (endA s.p pl)) ∧ Below w.heap.size w w' := by
  have hen := ents_len hv
  have v1 := hv.op0
  have v3 := hv.cl
  have hal := ats_len s.p pl
  have hal2 : (ats s.p pl).length ≤ 96 := by omega
  have HE : Hid (endA s.p pl = endL ((ats s.p pl).drop 0) 0) := rfl
  have HOK := hide (fun (a : At) (h : a ∈ ats s.p pl) => ats_ok hv hp h)
  have hk := Blk.new w 25 #[.int .i64 s.p.op, .int .i64 s.p.cl, .slice s.aH s.p.hol.length s.cH, .int .i64 s.p.mach, .slice s.aS s.p.setup.length s.cS, .slice s.aJ s.p.jobs.length s.cJ]
  have hB := (Below.refl w.heap.size w).alloc (Nat.le_refl _) (.cells #[.int .i64 s.p.op, .int .i64 s.p.cl, .slice s.aH s.p.hol.length s.cH, .int .i64 s.p.mach, .slice s.aS s.p.setup.length s.cS, .slice s.aJ s.p.jobs.length s.cJ] 25)
  go_enter Try.func41, Try.ntmps41
  go_wp2_with fail
  generalize w.alloc (.cells #[.int .i64 s.p.op, .int .i64 s.p.cl, .slice s.aH s.p.hol.length s.cH, .int .i64 s.p.mach, .slice s.aS s.p.setup.length s.cS, .slice s.aJ s.p.jobs.length s.cJ] 25) = W at *
  have c0 := hk.cell_ 0 rfl
  have c1 := hk.cell_ 1 rfl
  have c2 := hk.cell_ 2 rfl
  have c3 := hk.cell_ 3 rfl
  have c4 := hk.cell_ 4 rfl
  have c5 := hk.cell_ 5 rfl
  go_wp2_with fail
  refine (refList_any s _ (hS.on hB) hv).mono ?_
  rintro e W ⟨AL, cL, rfl, hb, hL0⟩
  clear c0 c1 c2 c3 c4 c5
  replace hk := hk.below hb hk.lt
  replace hB := hB.trans (hb.mono hB.size)
  clear hb
  have c0 := hk.cell_ 0 rfl
  have c1 := hk.cell_ 1 rfl
  have c2 := hk.cell_ 2 rfl
  have c3 := hk.cell_ 3 rfl
  have c4 := hk.cell_ 4 rfl
  have c5 := hk.cell_ 5 rfl
  have hL : Slc AP 2 W W.heap.size AL (ats s.p pl) := slc_map hL0
  rw [← hal]
  clear hL0 hal hen
  generalize ats s.p pl = L at *
  clear c0 c1 c2 c3 c4 c5
  go_wp2_with fail
  go_loopw [5, 7] (fun x y W => ∃ (i : Nat) (m : Int), x = .int .i64 m ∧ y = .int .i64 i ∧ i ≤ L.length ∧ 0 ≤ m ∧ m ≤ 2000000000 ∧ Hid (endA s.p pl = endL (L.drop i) m) ∧ Blk W w.heap.size 25 #[.int .i64 s.p.op, .int .i64 s.p.cl, .slice s.aH s.p.hol.length s.cH, .int .i64 s.p.mach, .slice s.aS s.p.setup.length s.cS, .slice s.aJ s.p.jobs.length s.cJ] ∧ Slc AP 2 W W.heap.size AL L ∧ Below w.heap.size w W) (fun x y _ => L.length - (intOf y).toNat)
  case atStart => exact ⟨0, 0, rfl, rfl, Nat.zero_le _, Int.le_refl _, by omega, HE, hk, hL, hB⟩
  case round =>
    clear hk hB hL
    obtain ⟨W, rfl⟩ : ∃ W : World, W = wr := ⟨_, rfl⟩
    obtain ⟨i, m, rfl, rfl, hi, hm0, hm1, HS, hk, hL, hB⟩ := hrel
    by_cases hlt : i < L.length
    · obtain ⟨a, ha⟩ : ∃ a, L[i]? = some a := ⟨_, List.getElem?_eq_getElem hlt⟩
      have HST := hide (endL_drop (m := m) ha)
      obtain ⟨b, off, hA, hb0, d0, d1⟩ := hL.at2 ha (v0 := .int .i64 a.j) (v1 := .int .i64 a.k) rfl
      have hok := HOK.out a (List.mem_of_getElem? ha)
      obtain ⟨st, hj, hx⟩ := hok.job
      obtain ⟨l, t, hpl, hlt0, hpt, _⟩ := hp.start hj hx
      have hlt' : l[a.k]? = some a.t := by rw [hok.start, hpt]; exact hlt0
      obtain ⟨bp, offp, Ap, cp, hAp, hbp, hcp, hSp⟩ := plan_at (hP.on hB) hpl
      obtain ⟨bt, offt, hAt, hbt, hct⟩ := int_at hSp hlt'
      have o1 := hok.t0
      have o2 := hok.t1
      have o3 := hok.mi0
      have o4 := hok.mi1
      have o5 := hok.d0
      have o6 := hok.d1
      have i1 : (i : Int) < (L.length : Int) := by omega
      have i2 : (a.j : Int) < (pl.length : Int) := by have := (List.getElem?_eq_some_iff.1 hpl).1; omega
      have i3 : (a.k : Int) < (l.length : Int) := by have := (List.getElem?_eq_some_iff.1 hlt').1; omega
      have HJX := hide (And.intro hj hx)
      have HPL := hide (And.intro hpl hlt')
      have HA := hide ha
      clear ha hok hj hx hpl hlt0 hpt hlt'
      subst hA hAp hAt
      have HSW := hS.on hB
      have e1 : IntKind.i64.wrap (a.t + a.x.mi) = a.t + a.x.mi := IntWalk.i64_in _ (by omega)
      have fs1 := fstep1
      have c0 := hk.cell_ 0 rfl
      have c1 := hk.cell_ 1 rfl
      have c2 := hk.cell_ 2 rfl
      have c3 := hk.cell_ 3 rfl
      have c4 := hk.cell_ 4 rfl
      have c5 := hk.cell_ 5 rfl
      go_wp2_with fail
      refine wp_region_quiet (C := fun w' => ∃ u : Since W, w' = u.w) (by kernel_rfl) (by kernel_rfl) (Since.start W) ?_
      dsimp only
      have y_c0 := Since.cell c0
      have y_c1 := Since.cell c1
      have y_c2 := Since.cell c2
      have y_c3 := Since.cell c3
      have y_c4 := Since.cell c4
      have y_c5 := Since.cell c5
      have y_d0 := Since.cell d0
      have y_d1 := Since.cell d1
      have y_hcp := Since.cell hcp
      have y_hct := Since.cell hct
      clear c0 c1 c2 c3 c4 c5
      repeat (go_big_quiet_step ((go_at_call 59; exact Since.calls (at_any s a.j a.k st a.x _ (HSW.on (Since.h _)) HJX.out.1 HJX.out.2))))
      refine wpQuiet_nil ?_
      rintro W ⟨⟨_, hb⟩, rfl⟩
      try dsimp only at hb ⊢
      replace d0 : W.cell? _ = _ := y_d0 ⟨W, hb⟩
      replace d1 : W.cell? _ = _ := y_d1 ⟨W, hb⟩
      replace hcp : W.cell? _ = _ := y_hcp ⟨W, hb⟩
      replace hct : W.cell? _ = _ := y_hct ⟨W, hb⟩
      clear y_c0 y_c1 y_c2 y_c3 y_c4 y_c5 y_d0 y_d1 y_hcp y_hct
      replace hk := hk.below hb hk.lt
      replace hL := (hL.below hb).more hb.size
      replace hB := hB.trans (hb.mono hB.size)
      clear hb
      have c0 := hk.cell_ 0 rfl
      have c1 := hk.cell_ 1 rfl
      have c2 := hk.cell_ 2 rfl
      have c3 := hk.cell_ 3 rfl
      have c4 := hk.cell_ 4 rfl
      have c5 := hk.cell_ 5 rfl
      have HS2 : Hid (endA s.p pl = endL (L.drop (i + 1)) (max m (a.t + a.x.mi))) := by show _ = _; rw [HS.out, HST.out]; rfl
      go_wp2_with fail
      go_roundw
      case rel => exact ⟨i + 1, max m (a.t + a.x.mi), rfl, by go_num, by omega, by omega, by omega, HS2, hk, hL, hB⟩
      case measure => simp [intOf]; omega
    · obtain rfl : i = L.length := by omega
      have HV : Hid (endA s.p pl = m) := by show _ = _; rw [HS.out, nomore]; rfl
      have c0 := hk.cell_ 0 rfl
      have c1 := hk.cell_ 1 rfl
      have c2 := hk.cell_ 2 rfl
      have c3 := hk.cell_ 3 rfl
      have c4 := hk.cell_ 4 rfl
      have c5 := hk.cell_ 5 rfl
      go_wp2_with fail
      go_ret
      exact ⟨ret_int (by rw [HV.out]), hB⟩
/-- Order: the steps of a machine -/
noncomputable def ordL (p : Shop) (pl : List (List Int)) (m : Int) : List At := if inB 0 m (p.mach - 1) then (rightL p pl).filter fun a => decide (a.x.m = m) else []
noncomputable def ordE (p : Shop) (pl : List (List Int)) (m : Int) : Int := if inB 0 m (p.mach - 1) then (judgeF p pl).2.2 else 2
theorem judge_not {p : Shop} {pl : List (List Int)} (h : shapedB p pl = false) : judgeF p pl = (0, 0, 2) := by unfold judgeF; rw [h]; rfl
theorem ord_not {p : Shop} {pl : List (List Int)} (h : shapedB p pl = false) (m : Int) : ordL p pl m = [] ∧ ordE p pl m = 2 := by
  have h1 := judge_not h
  unfold ordL ordE rightL
  rw [h1]
  simp
theorem filter_snoc {α : Type} {f : α → Bool} {L : List α} {i : Nat} {a : α} (h : L[i]? = some a) : (L.take (i + 1)).filter f = if f a then (L.take i).filter f ++ [a] else (L.take i).filter f := by
  rw [List.take_add_one, h]
  simp only [Option.toList, List.filter_append]
  by_cases hf : f a <;> simp [hf]
set_option maxRecDepth 100000 in
set_option maxHeartbeats 2000000 in
theorem apiOrder_any (s : Sh) (A : Option Addr) (c : Nat) (pl : List (List Int)) (mc : Int) (w : World) (hS : ShAt w w.heap.size s) (hvB : validShop s.p = true) (hP : Plan w w.heap.size A pl) (hf : PFits pl) :
    Calls Try.prog 40 #[.agg #[.int .i64 s.p.op, .int .i64 s.p.cl, .slice s.aH s.p.hol.length s.cH, .int .i64 s.p.mach, .slice s.aS s.p.setup.length s.cS, .slice s.aJ s.p.jobs.length s.cJ], .slice A pl.length c, .int .i64 mc] w fun e w' => ∃ A' c', e = .returned (.tuple #[.slice A' (ordL s.p pl mc).length c', .int .i64 (ordE s.p pl mc)]) ∧ Below w.heap.size w w' ∧ Slc AP 2 w' w'.heap.size A' (ordL s.p pl mc) := by
  have hv := valid_facts hvB
  have hfs := hv.fits
  have hln := rightL_len hv pl
  have hm1 := hv.mach1
  have hm6 := hv.mach6
  have hk := Blk.new w 25 #[.int .i64 s.p.op, .int .i64 s.p.cl, .slice s.aH s.p.hol.length s.cH, .int .i64 s.p.mach, .slice s.aS s.p.setup.length s.cS, .slice s.aJ s.p.jobs.length s.cJ]
  have hB := (Below.refl w.heap.size w).alloc (Nat.le_refl _) (.cells #[.int .i64 s.p.op, .int .i64 s.p.cl, .slice s.aH s.p.hol.length s.cH, .int .i64 s.p.mach, .slice s.aS s.p.setup.length s.cS, .slice s.aJ s.p.jobs.length s.cJ] 25)
  go_enter Try.func40, Try.ntmps40
  go_wp2_with fail
  generalize w.alloc (.cells #[.int .i64 s.p.op, .int .i64 s.p.cl, .slice s.aH s.p.hol.length s.cH, .int .i64 s.p.mach, .slice s.aS s.p.setup.length s.cS, .slice s.aJ s.p.jobs.length s.cJ] 25) = W at *
  have c0 := hk.cell_ 0 rfl
  have c1 := hk.cell_ 1 rfl
  have c2 := hk.cell_ 2 rfl
  have c3 := hk.cell_ 3 rfl
  have c4 := hk.cell_ 4 rfl
  have c5 := hk.cell_ 5 rfl
  go_wp2_with fail
  refine (valid_any s _ (hS.on hB) hfs.h1 hfs.h2 hfs.h3 hfs.h4).mono ?_
  rintro e W ⟨rfl, hb⟩
  clear c0 c1 c2 c3 c4 c5
  replace hk := hk.below hb hk.lt
  replace hB := hB.trans (hb.mono hB.size)
  clear hb
  have c0 := hk.cell_ 0 rfl
  have c1 := hk.cell_ 1 rfl
  have c2 := hk.cell_ 2 rfl
  have c3 := hk.cell_ 3 rfl
  have c4 := hk.cell_ 4 rfl
  have c5 := hk.cell_ 5 rfl
  rw [hvB]
  go_wp2_with fail
  refine (shaped_any s A c pl _ (hS.on hB) hv (hP.on hB) hf).mono ?_
  rintro e W ⟨rfl, hb⟩
  clear c0 c1 c2 c3 c4 c5
  replace hk := hk.below hb hk.lt
  replace hB := hB.trans (hb.mono hB.size)
  clear hb
  have c0 := hk.cell_ 0 rfl
  have c1 := hk.cell_ 1 rfl
  have c2 := hk.cell_ 2 rfl
  have c3 := hk.cell_ 3 rfl
  have c4 := hk.cell_ 4 rfl
  have c5 := hk.cell_ 5 rfl
  cases hsh : shapedB s.p pl
  · obtain ⟨q1, q2⟩ := ord_not hsh mc
    have HQ := hide (And.intro q1 q2)
    clear q1 q2 hsh
    go_wp2_with fail
    go_ret2
    exact ⟨none, 0, by rw [HQ.out.1, HQ.out.2]; rfl, hB, by rw [HQ.out.1]; exact Slc.nil_⟩
  · have HSH := hide hsh
    clear hsh
    go_wp2_with fail
    refine (within_any 0 mc (s.p.mach - 1) _).mono ?_
    rintro e W' ⟨rfl, rfl⟩
    cases hin : inB 0 mc (s.p.mach - 1)
    · have HQ : Hid (ordL s.p pl mc = [] ∧ ordE s.p pl mc = 2) := by show _ ∧ _; unfold ordL ordE; rw [hin]; exact ⟨rfl, rfl⟩
      clear hin
      go_wp2_with fail
      go_ret2
      exact ⟨none, 0, by rw [HQ.out.1, HQ.out.2]; rfl, hB, by rw [HQ.out.1]; exact Slc.nil_⟩
    · have HQ : Hid (ordL s.p pl mc = ((rightL s.p pl).filter fun a => decide (a.x.m = mc)) ∧ ordE s.p pl mc = (judgeF s.p pl).2.2) := by show _ ∧ _; unfold ordL ordE; rw [hin]; exact ⟨rfl, rfl⟩
      clear hin
      go_wp2_with fail
      refine (right_any s A c pl _ (hS.on hB) hvB (hP.on hB) hf).mono ?_
      rintro e W2 hR
      obtain ⟨AL, cL, rfl, hb, hL⟩ := hR.form
      replace hB := hB.trans (hb.mono hB.size)
      clear hb hR hk c0 c1 c2 c3 c4 c5
      generalize rightL s.p pl = L at *
      obtain ⟨z, hz⟩ : ∃ z, (judgeF s.p pl).2.2 = z := ⟨_, rfl⟩
      rw [hz] at HQ ⊢
      clear hz
      obtain ⟨W, rfl⟩ : ∃ W : World, W = W2 := ⟨_, rfl⟩
      obtain ⟨base, hbase⟩ : ∃ n, n = W.heap.size := ⟨_, rfl⟩
      have hwb : w.heap.size ≤ base := by rw [hbase]; exact hB.size
      rw [← hbase] at hL
      have hO : Own W base 77 2 AP (.slice none 0 0) [] := Own.nil_
      have hz : base ≤ W.heap.size := Nat.le_of_eq hbase
      clear hbase
      go_wp2_with fail
      go_loopw [10, 37] (fun v y W => ∃ i : Nat, y = .int .i64 i ∧ i ≤ L.length ∧ Slc At.enc 7 W base AL L ∧ Own W base 77 2 AP v ((L.take i).filter fun a => decide (a.x.m = mc)) ∧ base ≤ W.heap.size ∧ Below w.heap.size w W) (fun v y _ => L.length - (intOf y).toNat)
      case atStart => exact ⟨0, rfl, Nat.zero_le _, hL, hO, hz, hB⟩
      case round =>
        clear hL hO hz hB
        obtain ⟨W, rfl⟩ : ∃ W : World, W = wr := ⟨_, rfl⟩
        obtain ⟨i, rfl, hi, hL, hO, hz, hB⟩ := hrel
        by_cases hlt : i < L.length
        · obtain ⟨a, ha⟩ : ∃ a, L[i]? = some a := ⟨_, List.getElem?_eq_getElem hlt⟩
          obtain ⟨b, off, hA, hb0, d0, d1, d2, d3, d4, d5, d6⟩ := at7 hL ha
          have HFS := hide (filter_snoc (f := fun a : At => decide (a.x.m = mc)) ha)
          have hfl : ((L.take i).filter fun a => decide (a.x.m = mc)).length ≤ 1000000000 := by
            have h1 := List.length_filter_le (fun a : At => decide (a.x.m = mc)) (L.take i)
            have h2 : (L.take i).length ≤ i := List.length_take_le _ _
            omega
          clear ha
          subst hA
          have hij : (i : Int) < (L.length : Int) := by omega
          go_upto_region 8 with fail
          have hx := Blk.new W 91 #[.int .i64 a.j, .int .i64 a.k, .int .i64 a.t, .int .i64 a.x.m, .int .i64 a.x.mi, .int .i64 a.x.c, .int .i64 a.x.d]
          replace hL := hL.below (((Below.refl _ W).alloc (Nat.le_refl _) (.cells #[.int .i64 a.j, .int .i64 a.k, .int .i64 a.t, .int .i64 a.x.m, .int .i64 a.x.mi, .int .i64 a.x.c, .int .i64 a.x.d] 91)).mono (by omega))
          replace hO := hO.alloc (.cells #[.int .i64 a.j, .int .i64 a.k, .int .i64 a.t, .int .i64 a.x.m, .int .i64 a.x.mi, .int .i64 a.x.c, .int .i64 a.x.d] 91)
          replace hz := Nat.le_trans hz ((Below.refl _ W).alloc (Nat.le_refl _) (.cells #[.int .i64 a.j, .int .i64 a.k, .int .i64 a.t, .int .i64 a.x.m, .int .i64 a.x.mi, .int .i64 a.x.c, .int .i64 a.x.d] 91)).size
          replace hB := hB.alloc hB.size (.cells #[.int .i64 a.j, .int .i64 a.k, .int .i64 a.t, .int .i64 a.x.m, .int .i64 a.x.mi, .int .i64 a.x.c, .int .i64 a.x.d] 91)
          generalize W.alloc (.cells #[.int .i64 a.j, .int .i64 a.k, .int .i64 a.t, .int .i64 a.x.m, .int .i64 a.x.mi, .int .i64 a.x.c, .int .i64 a.x.d] 91) = W at *
          have a0 := hx.cell_ 0 rfl
          have a1 := hx.cell_ 1 rfl
          have a2 := hx.cell_ 2 rfl
          have a3 := hx.cell_ 3 rfl
          have a4 := hx.cell_ 4 rfl
          have a5 := hx.cell_ 5 rfl
          have a6 := hx.cell_ 6 rfl
          clear d0 d1 d2 d3 d4 d5 d6
          by_cases hmm : a.x.m = mc
          · have hmb : (a.x.m == mc) = true := by simpa using hmm
            have HF2 : Hid ((L.take (i + 1)).filter (fun a => decide (a.x.m = mc)) = (L.take i).filter (fun a => decide (a.x.m = mc)) ++ [a]) := by show _ = _; rw [HFS.out, if_pos (decide_eq_true hmm)]
            clear hmm
            go_wp2_with (at_builtin; refine wpList_app _ _ rfl rfl et_pair hO rfl rfl (y := a) rfl rfl rfl (by omega) (by omega) ?_; intro v' W' hO' hb hgt; clear hx a0 a1 a2 a3 a4 a5 a6; replace hL := hL.below hb; clear hO; have hO := hO'; clear hO'; replace hB := hB.trans (hb.mono hwb); replace hz := Nat.le_trans hz hb.size; clear hb)
            rw [← HF2.out] at hO
            go_roundw
            case rel => exact ⟨i + 1, by go_num, by omega, hL, hO, hz, hB⟩
            case measure => simp [intOf]; omega
          · have hmb : (a.x.m == mc) = false := by simpa using hmm
            have HF2 : Hid ((L.take (i + 1)).filter (fun a => decide (a.x.m = mc)) = (L.take i).filter (fun a => decide (a.x.m = mc))) := by show _ = _; rw [HFS.out, if_neg (by simpa using hmm)]
            clear hmm
            go_wp2_with fail
            rw [← HF2.out] at hO
            go_roundw
            case rel => exact ⟨i + 1, by go_num, by omega, hL, hO, hz, hB⟩
            case measure => simp [intOf]; omega
        · obtain rfl : i = L.length := by omega
          rw [List.take_length] at hO
          obtain ⟨A', c', hv', hSl⟩ := hO.form fun _ => rfl
          subst hv'
          have HSl := hide hSl
          clear hSl
          go_wp2_with fail
          go_ret2
          exact ⟨A', c', by rw [HQ.out.1, HQ.out.2]; rfl, hB, by rw [HQ.out.1]; exact HSl.out⟩
end Go.Proofs.Ytcpnfcnobnjhdaa

/- The order of a machine's steps: the plain law. -/
namespace Go.Proofs.Ytcpnfcnobnjhdaa
open Go.RowKit
def AscT (l : List At) : Prop := l.Pairwise fun a b => a.t ≤ b.t
theorem insA_mem {a c : At} : ∀ {l : List At}, c ∈ insA a l ↔ c = a ∨ c ∈ l
  | [] => by simp [insA]
  | b :: l => by
    unfold insA
    split
    · simp
    · rw [List.mem_cons, insA_mem, List.mem_cons]
      constructor
      · rintro (h | h | h)
        · exact .inr (.inl h)
        · exact .inl h
        · exact .inr (.inr h)
      · rintro (h | h | h)
        · exact .inr (.inl h)
        · exact .inl h
        · exact .inr (.inr h)
theorem insA_asc {a : At} : ∀ {l : List At}, AscT l → AscT (insA a l)
  | [], _ => by simp [insA, AscT]
  | b :: l, h => by
    obtain ⟨h1, h2⟩ := List.pairwise_cons.1 h
    unfold insA
    split
    · rename_i hlt
      refine List.pairwise_cons.2 ⟨fun c hc => ?_, h⟩
      rcases List.mem_cons.1 hc with rfl | hc
      · omega
      · have := h1 c hc; omega
    · rename_i hge
      refine List.pairwise_cons.2 ⟨fun c hc => ?_, insA_asc h2⟩
      rcases insA_mem.1 hc with rfl | hc
      · omega
      · exact h1 c hc
theorem insA_first {a : At} : ∀ {l : List At}, (∀ b ∈ l, a.t < b.t) → insA a l = a :: l
  | [], _ => rfl
  | b :: l, h => by unfold insA; rw [if_pos (h b (by simp))]
theorem insA_cons {a b : At} {l : List At} : insA a (b :: l) = if a.t < b.t then a :: b :: l else b :: insA a l := rfl
theorem insA_filter {f : At → Bool} {a : At} : ∀ {l : List At}, AscT l → (insA a l).filter f = if f a then insA a (l.filter f) else l.filter f
  | [], _ => by cases hf : f a <;> simp [insA, hf]
  | b :: l, h => by
    obtain ⟨h1, h2⟩ := List.pairwise_cons.1 h
    by_cases hlt : a.t < b.t
    · rw [insA_cons, if_pos hlt]
      have hall : ∀ c ∈ (b :: l).filter f, a.t < c.t := fun c hc => by
        rcases List.mem_cons.1 (List.mem_filter.1 hc).1 with rfl | hc
        · exact hlt
        · have := h1 c hc; omega
      by_cases hf : f a = true
      · rw [List.filter_cons_of_pos hf, if_pos hf, insA_first hall]
      · rw [List.filter_cons_of_neg hf, if_neg hf]
    · rw [insA_cons, if_neg hlt]
      have ih := insA_filter (f := f) (a := a) h2
      by_cases hb : f b = true
      · rw [List.filter_cons_of_pos hb, List.filter_cons_of_pos hb, ih]
        by_cases hf : f a = true
        · rw [if_pos hf, if_pos hf, insA_cons, if_neg hlt]
        · rw [if_neg hf, if_neg hf]
      · rw [List.filter_cons_of_neg hb, List.filter_cons_of_neg hb, ih]
theorem foldA_filter {f : At → Bool} : ∀ (l : List At) {acc : List At}, AscT acc → (l.foldl (fun acc a => insA a acc) acc).filter f = (l.filter f).foldl (fun acc a => insA a acc) (acc.filter f)
  | [], _, _ => rfl
  | a :: l, acc, h => by
    rw [List.foldl_cons, foldA_filter l (insA_asc h), insA_filter h]
    cases hf : f a
    · rw [List.filter_cons_of_neg (by simp [hf])]; rfl
    · rw [List.filter_cons_of_pos (by simp [hf])]; rfl
theorem sortA_filter (f : At → Bool) (l : List At) : (sortA l).filter f = sortA (l.filter f) := foldA_filter l List.Pairwise.nil
theorem foldA_asc : ∀ (l : List At) {acc : List At}, AscT acc → AscT (l.foldl (fun acc a => insA a acc) acc)
  | [], _, h => h
  | a :: l, acc, h => foldA_asc l (insA_asc h)
theorem sortA_asc (l : List At) : AscT (sortA l) := foldA_asc l List.Pairwise.nil
theorem sortA_snoc (l : List At) (a : At) : sortA (l ++ [a]) = insA a (sortA l) := by unfold sortA; rw [List.foldl_append]; rfl
/-- where the reference puts a step -/
theorem insA_at {a : At} : ∀ {l : List At} {k : Nat}, AscT l → k ≤ l.length → (∀ (i : Nat) b, k ≤ i → l[i]? = some b → a.t < b.t) → (∀ (i : Nat) b, i + 1 = k → l[i]? = some b → b.t ≤ a.t) → insA a l = l.take k ++ a :: l.drop k
  | l, 0, _, _, h1, _ => by
    rw [insA_first (fun b hb => by obtain ⟨i, hi⟩ := List.getElem?_of_mem hb; exact h1 i b (Nat.zero_le _) hi)]
    rfl
  | [], k + 1, _, h, _, _ => by simp at h
  | b :: l, k + 1, h, hk, h1, h2 => by
    obtain ⟨g1, g2⟩ := List.pairwise_cons.1 h
    have hb : b.t ≤ a.t := by
      cases k with
      | zero => exact h2 0 b rfl rfl
      | succ k =>
        have hlt : k < l.length := by simp at hk; omega
        have hc : l[k]? = some l[k] := List.getElem?_eq_getElem hlt
        have e1 := h2 (k + 1) l[k] rfl (by simp)
        have e2 := g1 l[k] (List.getElem_mem hlt)
        omega
    unfold insA
    rw [if_neg (by omega)]
    rw [insA_at g2 (by simpa using hk) (fun i c hi hc => h1 (i + 1) c (by omega) (by simpa using hc)) (fun i c hi hc => h2 (i + 1) c (by omega) (by simpa using hc))]
    rfl
theorem cells3 : Try.prog.cellsOf 3 = 1 := by kernel_rfl
@[go_sem] theorem eq_pair (j k : Int) (w : World) : (Op.equalIn 10000 77 (.agg #[.int .i64 j, .int .i64 k]) (.agg #[.int .i64 j, .int .i64 k])).run Try.prog w = .ok true w := by
  obtain ⟨i, hi, _⟩ := info_parts (P := Try.prog) (e := 3) (z := .int .i64 0) (size := 1) (bytes := 8) (by kernel_rfl)
  rw [run_equalIn_array w 9999 _ _ Try.underlying77 hi, cells3]
  simp [Op.eqItems, List.range, List.range.loop, part, isAgg, run_underlying Try.underlying3, run_equalIn_int]
set_option maxRecDepth 100000 in
theorem samePairs_any (A1 A2 : Option Addr) (c1 c2 : Nat) (l : List At) (w : World) (hl : l.length ≤ 9223372036854775807) (h1 : Slc AP 2 w w.heap.size A1 l) (h2 : Slc AP 2 w w.heap.size A2 l) :
    Calls Try.prog 42 #[.slice A1 l.length c1, .slice A2 l.length c2] w fun e w' => e = .returned (.bool true) ∧ Below w.heap.size w w' := by
  go_enter Try.func42, Try.ntmps42
  go_wp2_with fail
  go_loopw [5] (fun x W => ∃ i : Nat, x = .int .i64 i ∧ i ≤ l.length ∧ Below w.heap.size w W) (fun x _ => l.length - (intOf x).toNat)
  case atStart => exact ⟨0, rfl, Nat.zero_le _, Below.refl _ _⟩
  case round =>
    obtain ⟨W, rfl⟩ : ∃ W : World, W = wr := ⟨_, rfl⟩
    obtain ⟨i, rfl, hi, hB⟩ := hrel
    by_cases hlt : i < l.length
    · obtain ⟨a, ha⟩ : ∃ a, l[i]? = some a := ⟨_, List.getElem?_eq_getElem hlt⟩
      obtain ⟨b, off, hA, hb0, d0, d1⟩ := (h1.on hB).at2 ha (v0 := .int .i64 a.j) (v1 := .int .i64 a.k) rfl
      obtain ⟨b', off', hA', hb0', d2, d3⟩ := (h2.on hB).at2 ha (v0 := .int .i64 a.j) (v1 := .int .i64 a.k) rfl
      subst hA hA'
      clear ha
      have hij : (i : Int) < (l.length : Int) := by omega
      go_wp2_with fail
      refine wp_region_quiet (C := fun w' => ∃ u : Since W, w' = u.w) (by kernel_rfl) (by kernel_rfl) (Since.start W) ?_
      dsimp only
      have y_d0 := Since.cell d0
      have y_d1 := Since.cell d1
      have y_d2 := Since.cell d2
      have y_d3 := Since.cell d3
      repeat (go_big_quiet_step ((fail)))
      refine wpQuiet_nil ?_
      rintro W ⟨⟨_, hb⟩, rfl⟩
      try dsimp only at hb ⊢
      replace d0 : W.cell? _ = _ := y_d0 ⟨W, hb⟩
      replace d1 : W.cell? _ = _ := y_d1 ⟨W, hb⟩
      replace d2 : W.cell? _ = _ := y_d2 ⟨W, hb⟩
      replace d3 : W.cell? _ = _ := y_d3 ⟨W, hb⟩
      clear y_d0 y_d1 y_d2 y_d3
      replace hB := hB.trans (hb.mono hB.size)
      clear hb
      go_wp2_with fail
      go_roundw
      case rel => exact ⟨i + 1, by go_num, by omega, hB⟩
      case measure => simp [intOf]; omega
    · obtain rfl : i = l.length := by omega
      go_wp2_with fail
      go_ret
      exact ⟨rfl, hB⟩
end Go.Proofs.Ytcpnfcnobnjhdaa

/- Dispatch: the plain words. -/
namespace Go.Proofs.Ytcpnfcnobnjhdaa
open Go.RowKit
/-- the last steps of the machines, and the starts so far -/
structure DS where
  last : List (Int × At)
  pl : List (List Int)
def bd (K : Nat) : Int := 20000000 + K * 20000
def cnt (pl : List (List Int)) : Nat := (pl.map List.length).sum
def total (p : Shop) : Nat := (p.jobs.map List.length).sum
/-- when a job is ready for its next step -/
def rdy (st : List Step) (l : List Int) : Int := match l.length with
  | 0 => 0
  | k + 1 => l.getD k 0 + (st.getD k ⟨0, 0, 0, 0⟩).mi + (st.getD k ⟨0, 0, 0, 0⟩).d
noncomputable def prevF (p : Shop) (last : List (Int × At)) (x : Step) (r : Int) : Int := match look last x.m with
  | some b => max r (roomF p b x.c)
  | none => r
noncomputable def candT (p : Shop) (last : List (Int × At)) (st : List Step) (l : List Int) : Option Int := match st[l.length]? with
  | none => none
  | some x => some (nextF p (prevF p last x (rdy st l)) x.mi)
def upd (acc : Option (Nat × Int)) (j : Nat) (c : Option Int) : Option (Nat × Int) := match c with
  | none => acc
  | some t => match acc with
    | none => some (j, t)
    | some (b, w) => if t < w then some (j, t) else some (b, w)
noncomputable def bestFrom (p : Shop) (last : List (Int × At)) : Nat → List (List Step) → List (List Int) → Option (Nat × Int) → Option (Nat × Int)
  | j, st :: js, l :: ls, acc => bestFrom p last (j + 1) js ls (upd acc j (candT p last st l))
  | _, _, _, acc => acc
noncomputable def bestF (p : Shop) (S : DS) : Option (Nat × Int) := bestFrom p S.last 0 p.jobs S.pl none
def stepAt (p : Shop) (j k : Nat) : Step := (p.jobs.getD j []).getD k ⟨0, 0, 0, 0⟩
def putS (p : Shop) (S : DS) (j : Nat) (t : Int) : DS :=
  ⟨put S.last (stepAt p j (S.pl.getD j []).length).m ⟨j, (S.pl.getD j []).length, t, stepAt p j (S.pl.getD j []).length⟩, S.pl.modify j fun l => l ++ [t]⟩
noncomputable def nextS (p : Shop) (S : DS) : DS := match bestF p S with
  | none => S
  | some (j, t) => putS p S j t
noncomputable def iterS (p : Shop) : Nat → DS → DS
  | 0, S => S
  | n + 1, S => iterS p n (nextS p S)
def ds0 (p : Shop) : DS := ⟨[], List.replicate p.jobs.length []⟩
noncomputable def dispF (p : Shop) : List (List Int) := (iterS p (total p) (ds0 p)).pl
theorem iterS_none {p : Shop} {S : DS} (h : bestF p S = none) : ∀ n, iterS p n S = S
  | 0 => rfl
  | n + 1 => by
    unfold iterS nextS
    rw [h]
    exact iterS_none h n
theorem iterS_some {p : Shop} {S : DS} {j n : Nat} {t : Int} (h : bestF p S = some (j, t)) : iterS p (n + 1) S = iterS p n (putS p S j t) := by
  show iterS p n (nextS p S) = _
  unfold nextS; rw [h]
/-- the state of a dispatch -/
structure VS (p : Shop) (S : DS) : Prop where
  len : S.pl.length = p.jobs.length
  row : ∀ (j : Nat) st l, p.jobs[j]? = some st → S.pl[j]? = some l → l.length ≤ st.length ∧ ∀ (i : Nat) t, l[i]? = some t → 0 ≤ t ∧ t ≤ bd (cnt S.pl)
  last : ∀ m b, look S.last m = some b → AtFit p b ∧ b.x.m = m ∧ 0 ≤ b.x.c ∧ b.x.c ≤ 9 ∧ b.t ≤ bd (cnt S.pl)
theorem cnt_le {p : Shop} : ∀ {js : List (List Step)} {pl : List (List Int)}, pl.length = js.length → (∀ (j : Nat) st l, js[j]? = some st → pl[j]? = some l → l.length ≤ st.length) → (pl.map List.length).sum ≤ (js.map List.length).sum
  | [], [], _, _ => Nat.le_refl _
  | [], _ :: _, h, _ => by simp at h
  | _ :: _, [], h, _ => by simp at h
  | st :: js, l :: pl, h, hr => by
    have h1 := hr 0 st l rfl rfl
    have h2 := cnt_le (p := p) (js := js) (pl := pl) (by simpa using h) fun j s x g1 g2 => hr (j + 1) s x (by simpa using g1) (by simpa using g2)
    simp only [List.map_cons, List.sum_cons]
    omega
theorem cnt_lt {p : Shop} : ∀ {js : List (List Step)} {pl : List (List Int)}, pl.length = js.length → (∀ (j : Nat) st l, js[j]? = some st → pl[j]? = some l → l.length ≤ st.length) → (∃ (j : Nat) (st : List Step) (l : List Int), js[j]? = some st ∧ pl[j]? = some l ∧ l.length < st.length) → (pl.map List.length).sum < (js.map List.length).sum
  | [], _, _, _, h => by obtain ⟨j, st, l, h, _⟩ := h; simp at h
  | _ :: _, [], h, _, _ => by simp at h
  | st :: js, l :: pl, h, hr, ⟨j, s, x, g1, g2, g3⟩ => by
    have h1 := hr 0 st l rfl rfl
    have hr' : ∀ (j : Nat) s x, js[j]? = some s → pl[j]? = some x → x.length ≤ s.length := fun j s x g1 g2 => hr (j + 1) s x (by simpa using g1) (by simpa using g2)
    simp only [List.map_cons, List.sum_cons]
    cases j with
    | zero =>
      simp at g1 g2; subst g1 g2
      have h2 := cnt_le (p := p) (js := js) (pl := pl) (by simpa using h) hr'
      omega
    | succ j =>
      have h2 := cnt_lt (p := p) (js := js) (pl := pl) (by simpa using h) hr' ⟨j, s, x, by simpa using g1, by simpa using g2, g3⟩
      omega
theorem cnt_snoc : ∀ {pl : List (List Int)} {j : Nat} {l : List Int} {t : Int}, pl[j]? = some l → cnt (pl.modify j fun l => l ++ [t]) = cnt pl + 1
  | [], j, l, t, h => by simp at h
  | l' :: pl, 0, l, t, h => by simp [cnt]; omega
  | l' :: pl, j + 1, l, t, h => by
    have := cnt_snoc (pl := pl) (j := j) (l := l) (t := t) (by simpa using h)
    unfold cnt at this ⊢
    simp only [List.modify_succ_cons, List.map_cons, List.sum_cons]
    omega
theorem sum_le (n : Nat) : ∀ {js : List (List Step)}, (∀ l ∈ js, l.length ≤ n) → (js.map List.length).sum ≤ js.length * n
  | [], _ => by simp
  | l :: js, h => by
    have h1 := h l (by simp)
    have h2 := sum_le n (js := js) fun l hl => h l (by simp [hl])
    simp only [List.map_cons, List.sum_cons, List.length_cons, Nat.succ_mul]
    omega
theorem total_le {p : Shop} (hv : VShop p) : total p ≤ 96 := by
  have h := sum_le 8 (js := p.jobs) fun l hl => by
    obtain ⟨i, hi⟩ := List.getElem?_of_mem hl
    exact (hv.steps i l hi).1
  have := hv.jobn
  unfold total
  omega
theorem VS.cnt_le {p : Shop} {S : DS} (h : VS p S) : cnt S.pl ≤ total p := Go.Proofs.Ytcpnfcnobnjhdaa.cnt_le (p := p) h.len fun j st l h1 h2 => (h.row j st l h1 h2).1
theorem rdy_bd {p : Shop} (hv : VShop p) {S : DS} (h : VS p S) {j : Nat} {st : List Step} {l : List Int} (hj : p.jobs[j]? = some st) (hl : S.pl[j]? = some l) : 0 ≤ rdy st l ∧ rdy st l ≤ bd (cnt S.pl) + 11440 := by
  obtain ⟨h1, h2⟩ := h.row j st l hj hl
  have hb : 0 ≤ bd (cnt S.pl) := by unfold bd; omega
  unfold rdy
  split
  · omega
  · rename_i k hk
    have hkl : k < l.length := by omega
    have hks : k < st.length := by omega
    have e1 : l[k]? = some l[k] := List.getElem?_eq_getElem hkl
    have e2 : st[k]? = some st[k] := List.getElem?_eq_getElem hks
    have g1 := h2 k _ e1
    obtain ⟨_, _, x1, x2, _, _, x3, x4⟩ := (hv.steps j st hj).2 k _ e2
    have v0 := hv.op0
    have v1 := hv.cl
    rw [List.getD_eq_getElem?_getD, List.getD_eq_getElem?_getD, e1, e2]
    simp only [Option.getD_some]
    omega
theorem prev_bd {p : Shop} (hv : VShop p) {S : DS} (h : VS p S) {x : Step} {r : Int} (h0 : 0 ≤ r) (h1 : r ≤ bd (cnt S.pl) + 11440) : 0 ≤ prevF p S.last x r ∧ prevF p S.last x r ≤ bd (cnt S.pl) + 11440 := by
  unfold prevF
  cases hl : look S.last x.m with
  | none => exact ⟨h0, h1⟩
  | some b =>
    obtain ⟨hf, _, _, _, ht⟩ := h.last _ b hl
    have := room_bd hv hf (c := x.c)
    have := hf.mi1
    have := hf.t0
    have := hf.mi0
    show 0 ≤ max r (roomF p b x.c) ∧ max r (roomF p b x.c) ≤ _
    omega
theorem next_bd {p : Shop} (hv : VShop p) {S : DS} {t m : Int} (h0 : 0 ≤ t) (h1 : t ≤ bd (cnt S.pl) + 11440) (hm : m ≤ p.cl - p.op) : 0 ≤ nextF p t m ∧ nextF p t m ≤ bd (cnt S.pl + 1) := by
  have h2 := next_ge hv h0 hm
  have h3 := (next_is hv h0 hm).2
  have := hv.opcl
  have := hv.cl
  have : 0 ≤ (cnt S.pl : Int) := by omega
  unfold bd at h1 ⊢
  push_cast
  omega
theorem candT_some {p : Shop} (hv : VShop p) {S : DS} (h : VS p S) {j : Nat} {st : List Step} {l : List Int} {t : Int} (hj : p.jobs[j]? = some st) (hl : S.pl[j]? = some l) (hc : candT p S.last st l = some t) :
    ∃ x, st[l.length]? = some x ∧ t = nextF p (prevF p S.last x (rdy st l)) x.mi ∧ 0 ≤ t ∧ t ≤ bd (cnt S.pl + 1) := by
  unfold candT at hc
  cases hx : st[l.length]? with
  | none => rw [hx] at hc; cases hc
  | some x =>
    rw [hx] at hc
    injection hc with hc
    obtain ⟨_, _, x1, x2, _⟩ := (hv.steps j st hj).2 _ x hx
    have h1 := rdy_bd hv h hj hl
    have h2 := prev_bd hv h (x := x) h1.1 h1.2
    have h3 := next_bd hv (S := S) h2.1 h2.2 x2
    exact ⟨x, rfl, hc.symm, by rw [← hc]; exact h3.1, by rw [← hc]; exact h3.2⟩
/-- what the search finds -/
theorem bestFrom_some {p : Shop} {last : List (Int × At)} : ∀ {js : List (List Step)} {ls : List (List Int)} {j : Nat} {acc : Option (Nat × Int)} {b : Nat} {t : Int}, bestFrom p last j js ls acc = some (b, t) →
    acc = some (b, t) ∨ ∃ i st l, b = j + i ∧ js[i]? = some st ∧ ls[i]? = some l ∧ candT p last st l = some t
  | [], ls, j, acc, b, t, h => .inl (by simpa [bestFrom] using h)
  | _ :: _, [], j, acc, b, t, h => .inl (by simpa [bestFrom] using h)
  | st :: js, l :: ls, j, acc, b, t, h => by
    unfold bestFrom at h
    rcases bestFrom_some h with h1 | ⟨i, st', l', h1, h2, h3, h4⟩
    · cases hc : candT p last st l with
      | none => rw [hc] at h1; exact .inl h1
      | some u =>
        rw [hc] at h1
        unfold upd at h1
        cases acc with
        | none =>
          simp at h1
          exact .inr ⟨0, st, l, by omega, rfl, rfl, by rw [hc, h1.2]⟩
        | some a =>
          obtain ⟨a1, a2⟩ := a
          simp only at h1
          split at h1
          · injection h1 with h1
            injection h1 with h5 h6
            exact .inr ⟨0, st, l, by omega, rfl, rfl, by rw [hc, h6]⟩
          · exact .inl h1
    · exact .inr ⟨i + 1, st', l', by omega, by simpa using h2, by simpa using h3, h4⟩
theorem upd_none {acc : Option (Nat × Int)} {j : Nat} {c : Option Int} (h : upd acc j c = none) : acc = none ∧ c = none := by
  unfold upd at h
  cases c with
  | none => exact ⟨h, rfl⟩
  | some t =>
    cases acc with
    | none => cases h
    | some a =>
      simp only at h
      split at h <;> cases h
theorem bestFrom_none {p : Shop} {last : List (Int × At)} : ∀ {js : List (List Step)} {ls : List (List Int)} {j : Nat} {acc : Option (Nat × Int)}, bestFrom p last j js ls acc = none →
    acc = none ∧ ∀ (i : Nat) st l, js[i]? = some st → ls[i]? = some l → candT p last st l = none
  | [], ls, j, acc, h => ⟨by simpa [bestFrom] using h, fun i st l h1 _ => by simp at h1⟩
  | _ :: _, [], j, acc, h => ⟨by simpa [bestFrom] using h, fun i st l _ h1 => by simp at h1⟩
  | st :: js, l :: ls, j, acc, h => by
    unfold bestFrom at h
    obtain ⟨h1, h2⟩ := bestFrom_none h
    obtain ⟨h3, h4⟩ := upd_none h1
    refine ⟨h3, fun i st' l' g1 g2 => ?_⟩
    cases i with
    | zero => simp at g1 g2; subst g1 g2; exact h4
    | succ i => exact h2 i st' l' (by simpa using g1) (by simpa using g2)
theorem bestFrom_drop {p : Shop} {last : List (Int × At)} {js : List (List Step)} {ls : List (List Int)} {j : Nat} {acc : Option (Nat × Int)} {st : List Step} {l : List Int} (h1 : js[j]? = some st) (h2 : ls[j]? = some l) :
    bestFrom p last j (js.drop j) (ls.drop j) acc = bestFrom p last (j + 1) (js.drop (j + 1)) (ls.drop (j + 1)) (upd acc j (candT p last st l)) := by
  obtain ⟨g1, e1⟩ := List.getElem?_eq_some_iff.1 h1
  obtain ⟨g2, e2⟩ := List.getElem?_eq_some_iff.1 h2
  rw [List.drop_eq_getElem_cons g1, List.drop_eq_getElem_cons g2, e1, e2]
  rfl
/-- what is known of the best -/
theorem best_at {p : Shop} (hv : VShop p) {S : DS} (h : VS p S) {j : Nat} {t : Int} (hb : bestF p S = some (j, t)) :
    ∃ st l x, p.jobs[j]? = some st ∧ S.pl[j]? = some l ∧ st[l.length]? = some x ∧ t = nextF p (prevF p S.last x (rdy st l)) x.mi ∧ 0 ≤ t ∧ t ≤ bd (cnt S.pl + 1) ∧ cnt S.pl < total p := by
  rcases bestFrom_some hb with h1 | ⟨i, st, l, h1, h2, h3, h4⟩
  · cases h1
  · obtain rfl : j = i := by omega
    obtain ⟨x, g1, g2, g3, g4⟩ := candT_some hv h h2 h3 h4
    refine ⟨st, l, x, h2, h3, g1, g2, g3, g4, ?_⟩
    exact cnt_lt (p := p) h.len (fun j st l h1 h2 => (h.row j st l h1 h2).1) ⟨j, st, l, h2, h3, (List.getElem?_eq_some_iff.1 g1).1⟩
theorem putS_eq {p : Shop} {S : DS} {j : Nat} {st : List Step} {l : List Int} {x : Step} (t : Int) (hj : p.jobs[j]? = some st) (hl : S.pl[j]? = some l) (hx : st[l.length]? = some x) :
    putS p S j t = ⟨put S.last x.m ⟨j, l.length, t, x⟩, S.pl.modify j fun l => l ++ [t]⟩ := by
  have e1 : S.pl.getD j [] = l := by rw [List.getD_eq_getElem?_getD, hl]; rfl
  have e2 : stepAt p j l.length = x := by
    have e3 : p.jobs.getD j [] = st := by rw [List.getD_eq_getElem?_getD, hj]; rfl
    unfold stepAt; rw [e3, List.getD_eq_getElem?_getD, hx]; rfl
  unfold putS
  rw [e1, e2]
theorem look_cons {V : Type} (a : Int) (u : V) (M : List (Int × V)) (k : Int) : look ((a, u) :: M) k = if a = k then some u else look M k := by
  unfold look
  rw [List.find?_cons]
  by_cases h : a = k
  · subst h; simp
  · have h1 : (a == k) = false := by simpa using h
    simp only [h1, if_neg h]
theorem look_map {V : Type} {k k' : Int} {v : V} : ∀ M : List (Int × V), look (M.map fun p => if p.1 == k then (k, v) else p) k' = if k' = k then (if (look M k).isSome then some v else none) else look M k'
  | [] => by simp [look]
  | (a, u) :: M => by
    rw [List.map_cons, look_cons a u M k, look_cons a u M k']
    by_cases ha : a = k
    · subst ha
      rw [if_pos (by simp), look_cons, look_map M]
      by_cases hk : k' = a
      · subst hk; simp
      · rw [if_neg (fun he => hk he.symm), if_neg hk, if_neg hk, if_neg (fun he => hk he.symm)]
    · have h1 : (a == k) = false := by simpa using ha
      simp only [h1, Bool.false_eq_true, if_false]
      rw [look_cons, look_map M]
      by_cases hk : k' = k
      · subst hk; simp [ha]
      · simp only [if_neg hk]
theorem look_app {V : Type} (M : List (Int × V)) (k k' : Int) (v : V) (h : look M k = none) : look (M ++ [(k, v)]) k' = if k' = k then some v else look M k' := by
  induction M with
  | nil =>
    rw [List.nil_append, look_cons]
    by_cases hk : k' = k
    · subst hk; simp
    · rw [if_neg (fun he => hk he.symm), if_neg hk]
  | cons p M ih =>
    obtain ⟨a, u⟩ := p
    rw [look_cons] at h
    rw [List.cons_append, look_cons, look_cons]
    by_cases ha : a = k
    · rw [if_pos ha] at h; cases h
    · rw [if_neg ha] at h
      rw [ih h]
      by_cases hk : k' = k
      · subst hk; simp [ha]
      · simp only [if_neg hk]
theorem look_put {V : Type} {M : List (Int × V)} {k k' : Int} {v : V} : look (put M k v) k' = if k' = k then some v else look M k' := by
  unfold put
  by_cases hs : (look M k).isSome
  · rw [if_pos hs, look_map, if_pos hs]
  · rw [if_neg hs, look_app]
    cases hl : look M k with
    | none => rfl
    | some u => rw [hl] at hs; simp at hs
theorem VS.put_ {p : Shop} (hv : VShop p) {S : DS} (h : VS p S) {j : Nat} {t : Int} (hb : bestF p S = some (j, t)) : VS p (putS p S j t) ∧ cnt (putS p S j t).pl = cnt S.pl + 1 := by
  obtain ⟨st, l, x, h1, h2, h3, _, h5, h6, h7⟩ := best_at hv h hb
  have hc : cnt (S.pl.modify j fun l => l ++ [t]) = cnt S.pl + 1 := cnt_snoc h2
  have ht := total_le hv
  have hbd : bd (cnt S.pl) ≤ bd (cnt S.pl + 1) := by unfold bd; push_cast; omega
  have hb2 : bd (cnt S.pl + 1) ≤ 1000000000 := by unfold bd; push_cast; omega
  rw [putS_eq t h1 h2 h3]
  refine ⟨⟨by simpa using h.len, fun i s y g1 g2 => ?_, fun m b g => ?_⟩, hc⟩
  · show _ ∧ ∀ i t', _ → _ ∧ _ ≤ bd (cnt (S.pl.modify j fun l => l ++ [t]))
    rw [hc]
    rw [List.getElem?_modify] at g2
    by_cases hij : j = i
    · subst hij
      rw [h1] at g1; injection g1 with g1; subst g1
      rw [h2] at g2; simp at g2; subst g2
      obtain ⟨r1, r2⟩ := h.row j st l h1 h2
      refine ⟨by have := (List.getElem?_eq_some_iff.1 h3).1; simp; omega, fun i t' hi => ?_⟩
      by_cases hil : i < l.length
      · rw [List.getElem?_append_left hil] at hi
        have := r2 i t' hi; omega
      · have hlt := (List.getElem?_eq_some_iff.1 hi).1
        simp at hlt
        obtain rfl : i = l.length := by omega
        simp at hi
        subst hi
        exact ⟨h5, h6⟩
    · cases hp : S.pl[i]? with
      | none => rw [hp] at g2; simp at g2
      | some l0 =>
        rw [hp] at g2
        simp [hij] at g2
        subst g2
        obtain ⟨r1, r2⟩ := h.row i s l0 g1 hp
        exact ⟨r1, fun i t' hi => by have := r2 i t' hi; omega⟩
  · show _ ∧ _ ∧ _ ∧ _ ∧ _ ≤ bd (cnt (S.pl.modify j fun l => l ++ [t]))
    rw [hc]
    have g' : look (put S.last x.m ⟨j, l.length, t, x⟩) m = some b := g
    rw [look_put] at g'
    split at g'
    · rename_i hm
      injection g' with g'
      subst g'
      obtain ⟨m0, m1, x1, x2, c0, c1, d0, d1⟩ := (hv.steps j st h1).2 _ x h3
      have := hv.op0
      have := hv.cl
      exact ⟨⟨h5, by show t ≤ _; omega, by show 0 ≤ x.mi; omega, by show x.mi ≤ _; omega, d0, d1, m0, by show x.m < _; omega⟩, hm.symm, c0, c1, h6⟩
    · obtain ⟨r1, r2, r3, r4, r5⟩ := h.last m b g'
      exact ⟨r1, r2, r3, r4, by omega⟩
theorem VS.start (p : Shop) : VS p (ds0 p) := by
  refine ⟨by simp [ds0], fun j st l h1 h2 => ?_, fun m b h => by simp [ds0, look] at h⟩
  have hl : l = [] := by
    simp [ds0, List.getElem?_replicate] at h2
    exact h2.2
  subst hl
  exact ⟨Nat.zero_le _, fun i t h => by simp at h⟩
theorem cnt_start (p : Shop) : cnt (ds0 p).pl = 0 := by simp [cnt, ds0]
end Go.Proofs.Ytcpnfcnobnjhdaa

/- Plans that are made step by step, each as early as its job and its machine allow: they are right. The plain law. -/
namespace Go.Proofs.Ytcpnfcnobnjhdaa
open Go Go.Sort Go.RowKit StabAt
/-! the last element of a kind -/
def lastP {α : Type} (f : α → Bool) (l : List α) : Option α := (l.filter f).getLast?
theorem lastP_snoc {α : Type} (f : α → Bool) (l : List α) (a : α) : lastP f (l ++ [a]) = if f a then some a else lastP f l := by
  unfold lastP
  rw [List.filter_append]
  by_cases h : f a = true <;> simp [h]
theorem lastP_nil {α : Type} (f : α → Bool) : lastP f ([] : List α) = none := rfl
/-- the place of an element among those of its kind -/
theorem filter_place {α : Type} {f : α → Bool} : ∀ {l : List α} {i : Nat} {a : α}, l[i]? = some a → f a = true → ∃ n, (l.filter f)[n]? = some a ∧ (l.take i).filter f = (l.filter f).take n
  | [], i, a, h, _ => by simp at h
  | b :: l, 0, a, h, hf => by
    simp at h; subst h
    exact ⟨0, by simp [hf], by simp⟩
  | b :: l, i + 1, a, h, hf => by
    obtain ⟨n, h1, h2⟩ := filter_place (l := l) (i := i) (by simpa using h) hf
    by_cases hb : f b = true
    · exact ⟨n + 1, by simp [hb, h1], by simp [hb, h2]⟩
    · exact ⟨n, by simp [hb, h1], by simp [hb, h2]⟩
theorem filter_from {α : Type} {f : α → Bool} : ∀ {l : List α} {n : Nat} {a : α}, (l.filter f)[n]? = some a → ∃ i, l[i]? = some a ∧ f a = true ∧ (l.take i).filter f = (l.filter f).take n
  | [], n, a, h => by simp at h
  | b :: l, n, a, h => by
    by_cases hb : f b = true
    · rw [List.filter_cons_of_pos hb] at h
      cases n with
      | zero => simp at h; subst h; exact ⟨0, rfl, hb, by simp⟩
      | succ n =>
        obtain ⟨i, h1, h2, h3⟩ := filter_from (l := l) (n := n) (by simpa using h)
        exact ⟨i + 1, by simpa using h1, h2, by simp [hb, h3]⟩
    · rw [List.filter_cons_of_neg hb] at h
      obtain ⟨i, h1, h2, h3⟩ := filter_from (l := l) (n := n) h
      exact ⟨i + 1, by simpa using h1, h2, by simp [hb, h3]⟩
theorem getLast_take {α : Type} {l : List α} {n : Nat} {a : α} (h : l[n]? = some a) : (l.take n).getLast? = match n with | 0 => none | k + 1 => l[k]? := by
  have hn := (List.getElem?_eq_some_iff.1 h).1
  cases n with
  | zero => simp
  | succ k =>
    rw [List.getLast?_eq_getElem?, List.length_take, List.getElem?_take]
    have : min (k + 1) l.length - 1 = k := by omega
    rw [this, if_pos (by omega)]
theorem lastP_some {α : Type} {f : α → Bool} {l : List α} {b : α} (h : lastP f l = some b) : ∃ i, l[i]? = some b ∧ f b = true ∧ ∀ (i' : Nat) c, i < i' → l[i']? = some c → f c = false := by
  unfold lastP at h
  rw [List.getLast?_eq_getElem?] at h
  obtain ⟨i, h1, h2, h3⟩ := filter_from h
  refine ⟨i, h1, h2, fun i' c hi hc => ?_⟩
  rw [← Bool.not_eq_true]
  intro hf
  obtain ⟨n', g1, g2⟩ := filter_place hc hf
  have hl := (List.getElem?_eq_some_iff.1 g1).1
  have h4 : ((l.take i').filter f).length = n' := by rw [g2, List.length_take]; omega
  have h5 : ((l.take (i + 1)).filter f).length ≤ ((l.take i').filter f).length := by
    have : l.take i' = l.take (i + 1) ++ (l.drop (i + 1)).take (i' - (i + 1)) := by
      rw [← List.take_add, show i + 1 + (i' - (i + 1)) = i' by omega]
    rw [this, List.filter_append, List.length_append]; omega
  have h6 : ((l.take (i + 1)).filter f).length = (l.filter f).length := by
    rw [filter_snoc h1, if_pos h2, List.length_append, h3, List.length_take]
    have := (List.getElem?_eq_some_iff.1 h).1
    simp only [List.length_cons, List.length_nil]
    omega
  omega
theorem lastP_none {α : Type} {f : α → Bool} {l : List α} (h : lastP f l = none) : ∀ a ∈ l, f a = false := by
  unfold lastP at h
  rw [List.getLast?_eq_none_iff] at h
  intro a ha
  rw [← Bool.not_eq_true]
  intro hf
  have : a ∈ l.filter f := List.mem_filter.2 ⟨ha, hf⟩
  rw [h] at this
  cases this
def onB (m : Int) (a : At) : Bool := decide (a.x.m = m)
def ofJ (j : Nat) (a : At) : Bool := decide (a.j = j)
/-- when a job can go on behind the steps R -/
def rdyR (R : List At) (j : Nat) : Int := match lastP (ofJ j) R with
  | none => 0
  | some b => b.dry
noncomputable def fromR (p : Shop) (R : List At) (a : At) : Int := match lastP (onB a.x.m) R with
  | none => rdyR R a.j
  | some b => max (rdyR R a.j) (roomF p b a.x.c)
noncomputable def startF (p : Shop) (R : List At) (a : At) : Int := nextF p (fromR p R a) a.x.mi
/-- all steps of a shop, those of a job in their order -/
structure SeqOk (p : Shop) (l : List At) : Prop where
  ok : ∀ a ∈ l, ∃ s, p.jobs[a.j]? = some s ∧ s[a.k]? = some a.x
  asc : l.Pairwise fun a b => a.j = b.j → a.k < b.k
  all : ∀ (j k : Nat) s x, p.jobs[j]? = some s → s[k]? = some x → ∃ a ∈ l, a.j = j ∧ a.k = k
/-- each step stands where it could be put first behind those before it -/
def Placed (p : Shop) (R : List At) : Prop := ∀ (i : Nat) b, R[i]? = some b → b.t = startF p (R.take i) b ∧ 0 ≤ b.t ∧ b.t ≤ 100000000
theorem pair_get {α : Type} {r : α → α → Prop} {l : List α} (h : l.Pairwise r) {i j : Nat} {a b : α} (hij : i < j) (ha : l[i]? = some a) (hb : l[j]? = some b) : r a b := by
  obtain ⟨h1, rfl⟩ := List.getElem?_eq_some_iff.1 ha
  obtain ⟨h2, rfl⟩ := List.getElem?_eq_some_iff.1 hb
  exact List.pairwise_iff_getElem.1 h i j h1 h2 hij
theorem SeqOk.x_eq {p : Shop} {l : List At} (h : SeqOk p l) {a b : At} (ha : a ∈ l) (hb : b ∈ l) (hj : a.j = b.j) (hk : a.k = b.k) : a.x = b.x := by
  obtain ⟨s, h1, h2⟩ := h.ok a ha
  obtain ⟨s', h3, h4⟩ := h.ok b hb
  rw [hj] at h1
  rw [h1] at h3
  injection h3 with h3
  subst h3
  rw [hk, h4] at h2
  injection h2 with h2
  exact h2.symm
theorem SeqOk.inj {p : Shop} {l : List At} (h : SeqOk p l) {i i' : Nat} {a b : At} (ha : l[i]? = some a) (hb : l[i']? = some b) (hj : a.j = b.j) (hk : a.k = b.k) : i = i' ∧ a = b := by
  have hi : i = i' := by
    rcases Nat.lt_trichotomy i i' with hlt | he | hlt
    · have := pair_get h.asc hlt ha hb hj; omega
    · exact he
    · have := pair_get h.asc hlt hb ha hj.symm; omega
  subst hi
  rw [ha] at hb
  injection hb with hb
  exact ⟨rfl, hb⟩
/-- the step before one of its job -/
theorem SeqOk.prev {p : Shop} {l : List At} (h : SeqOk p l) {i : Nat} {a : At} (ha : l[i]? = some a) :
    (a.k = 0 ∧ lastP (ofJ a.j) (l.take i) = none) ∨ (∃ k, a.k = k + 1 ∧ ∃ i' b, i' < i ∧ l[i']? = some b ∧ b.j = a.j ∧ b.k = k ∧ lastP (ofJ a.j) (l.take i) = some b) := by
  cases hl : lastP (ofJ a.j) (l.take i) with
  | none =>
    left
    refine ⟨?_, rfl⟩
    rcases Nat.eq_zero_or_pos a.k with h0 | h0
    · exact h0
    · exfalso
      obtain ⟨s, h1, h2⟩ := h.ok a (List.mem_of_getElem? ha)
      have hk : a.k - 1 < s.length := by have := (List.getElem?_eq_some_iff.1 h2).1; omega
      obtain ⟨b, hb, hbj, hbk⟩ := h.all a.j (a.k - 1) s _ h1 (List.getElem?_eq_getElem hk)
      obtain ⟨i', hi'⟩ := List.getElem?_of_mem hb
      have hlt : i' < i := by
        rcases Nat.lt_trichotomy i' i with hlt | he | hlt
        · exact hlt
        · subst he; rw [ha] at hi'; injection hi' with hi'; subst hi'; omega
        · have := pair_get h.asc hlt ha hi' hbj.symm; omega
      have hm : b ∈ l.take i := List.mem_of_getElem? (i := i') (by rw [List.getElem?_take, if_pos hlt]; exact hi')
      have := lastP_none hl b hm
      simp [ofJ, hbj] at this
  | some b =>
    right
    obtain ⟨i', h1, h2, h3⟩ := lastP_some hl
    have hbj : b.j = a.j := by simpa [ofJ] using h2
    rw [List.getElem?_take] at h1
    split at h1
    · rename_i hlt
      have hlt2 := pair_get h.asc hlt h1 ha hbj
      obtain ⟨s, g1, g2⟩ := h.ok a (List.mem_of_getElem? ha)
      have hk : a.k - 1 < s.length := by have := (List.getElem?_eq_some_iff.1 g2).1; omega
      obtain ⟨c, hc, hcj, hck⟩ := h.all a.j (a.k - 1) s _ g1 (List.getElem?_eq_getElem hk)
      obtain ⟨i2, hi2⟩ := List.getElem?_of_mem hc
      have hlt3 : i2 < i := by
        rcases Nat.lt_trichotomy i2 i with hlt | he | hlt
        · exact hlt
        · subst he; rw [ha] at hi2; injection hi2 with hi2; subst hi2; omega
        · have := pair_get h.asc hlt ha hi2 hcj.symm; omega
      have hle : i2 ≤ i' := by
        rcases Nat.lt_or_ge i' i2 with hlt4 | hge
        · have := h3 i2 c hlt4 (by rw [List.getElem?_take, if_pos hlt3]; exact hi2)
          simp [ofJ, hcj] at this
        · exact hge
      have hbk : b.k = a.k - 1 := by
        rcases Nat.lt_or_ge i2 i' with hlt5 | hge
        · have := pair_get h.asc hlt5 hi2 h1 (by rw [hcj, hbj]); omega
        · obtain rfl : i2 = i' := by omega
          rw [h1] at hi2
          injection hi2 with hi2
          subst hi2; exact hck
      exact ⟨a.k - 1, by omega, i', b, hlt, h1, hbj, hbk, rfl⟩
    · cases h1
/-! the plan of the steps -/
def tOf (R : List At) (j k : Nat) : Int := match R.find? fun b => decide (b.j = j) && decide (b.k = k) with
  | some b => b.t
  | none => 0
def planR (p : Shop) (R : List At) : List (List Int) := p.jobs.zipIdx.map fun q => (List.range q.1.length).map fun k => tOf R q.2 k
theorem planR_len (p : Shop) (R : List At) : (planR p R).length = p.jobs.length := by simp [planR]
theorem planR_row {p : Shop} {R : List At} {j : Nat} {s : List Step} (h : p.jobs[j]? = some s) : (planR p R)[j]? = some ((List.range s.length).map fun k => tOf R j k) := by
  unfold planR
  rw [List.getElem?_map, List.getElem?_zipIdx, h]
  simp
theorem planR_at {p : Shop} {R : List At} {j k : Nat} {s : List Step} {x : Step} (h : p.jobs[j]? = some s) (hk : s[k]? = some x) : planAt (planR p R) j k = tOf R j k := by
  have hl := (List.getElem?_eq_some_iff.1 hk).1
  exact planAt_eq (planR_row h) (by rw [List.getElem?_map, List.getElem?_range hl]; rfl)
theorem tOf_eq {p : Shop} {R : List At} (h : SeqOk p R) {b : At} (hb : b ∈ R) : tOf R b.j b.k = b.t := by
  unfold tOf
  cases hf : R.find? fun c => decide (c.j = b.j) && decide (c.k = b.k) with
  | none =>
    have := List.find?_eq_none.1 hf b hb
    simp at this
  | some c =>
    have hc := List.find?_some hf
    simp at hc
    obtain ⟨i, hi⟩ := List.getElem?_of_mem (List.mem_of_find?_eq_some hf)
    obtain ⟨i', hi'⟩ := List.getElem?_of_mem hb
    rw [(h.inj hi hi' hc.1 hc.2).2]
theorem planR_eq {p : Shop} {R : List At} (h : SeqOk p R) {b : At} (hb : b ∈ R) : planAt (planR p R) b.j b.k = b.t := by
  obtain ⟨s, h1, h2⟩ := h.ok b hb
  rw [planR_at h1 h2]
  exact tOf_eq h hb
theorem planR_row_at {p : Shop} {R : List At} {j k : Nat} {s : List Step} {t : Int} (h : p.jobs[j]? = some s) (ht : ((List.range s.length).map fun k => tOf R j k)[k]? = some t) : t = tOf R j k ∧ k < s.length := by
  have hl := (List.getElem?_eq_some_iff.1 ht).1
  simp at hl
  rw [List.getElem?_map, List.getElem?_range hl] at ht
  injection ht with ht
  exact ⟨ht.symm, hl⟩
theorem planR_shape {p : Shop} {R : List At} (h : SeqOk p R) (hp : ∀ b ∈ R, 0 ≤ b.t ∧ b.t ≤ 100000000) : VPlan p (planR p R) := by
  refine ⟨planR_len p R, fun i l s hl hs => ?_⟩
  rw [planR_row hs] at hl
  injection hl with hl
  subst hl
  refine ⟨by simp, fun k t ht => ?_⟩
  obtain ⟨rfl, hk⟩ := planR_row_at hs ht
  obtain ⟨b, hb, rfl, rfl⟩ := h.all i k s _ hs (List.getElem?_eq_getElem hk)
  rw [tOf_eq h hb]
  exact hp b hb
/-- a step of the list, as it stands in the plan -/
theorem SeqOk.of_at {p : Shop} {R : List At} (h : SeqOk p R) {a : At} (ha : a ∈ ats p (planR p R)) : a ∈ R := by
  obtain ⟨e, he, rfl⟩ := List.mem_map.1 ha
  obtain ⟨s, h1, h2⟩ := ents_mem he
  obtain ⟨b, hb, hj, hk⟩ := h.all e.j e.k s _ h1 h2
  obtain ⟨s', g1, g2⟩ := h.ok b hb
  rw [hj, h1] at g1
  injection g1 with g1
  subst g1
  rw [hk, h2] at g2
  injection g2 with g2
  have h3 := planR_eq h hb
  rw [hj, hk] at h3
  have : mkAt (planR p R) e = b := by
    unfold mkAt
    rw [h3, g2, ← hj, ← hk]
  rw [this]; exact hb
/-! the steps of a shop are apart -/
theorem stepsFrom_asc {j : Nat} : ∀ {l : List Step} {k : Nat}, (stepsFrom j k l).Pairwise fun a b => a.j < b.j ∨ (a.j = b.j ∧ a.k < b.k)
  | [], _ => by simp [stepsFrom]
  | x :: r, k => by
    simp only [stepsFrom, List.pairwise_cons]
    refine ⟨fun e he => ?_, stepsFrom_asc⟩
    obtain ⟨h1, i, h2, _⟩ := stepsFrom_mem he
    right
    exact ⟨h1.symm, by show k < e.k; omega⟩
theorem entsFrom_asc : ∀ {js : List (List Step)} {j : Nat}, (entsFrom j js).Pairwise fun a b => a.j < b.j ∨ (a.j = b.j ∧ a.k < b.k)
  | [], _ => by simp [entsFrom]
  | l :: r, j => by
    simp only [entsFrom, List.pairwise_append]
    refine ⟨stepsFrom_asc, entsFrom_asc, fun a ha b hb => ?_⟩
    obtain ⟨h1, _⟩ := stepsFrom_mem ha
    obtain ⟨i, _, h2, _⟩ := entsFrom_mem hb
    left
    omega
theorem ats_asc (p : Shop) (pl : List (List Int)) : (ats p pl).Pairwise fun a b => a.j < b.j ∨ (a.j = b.j ∧ a.k < b.k) := by
  unfold ats
  rw [List.pairwise_map]
  exact entsFrom_asc
theorem ats_seq (p : Shop) (pl : List (List Int)) : SeqOk p (ats p pl) := by
  refine ⟨fun a ha => ?_, (ats_asc p pl).imp fun {a b} h hj => by omega, fun j k s x hs hx => ⟨_, ats_has hs hx, rfl, rfl⟩⟩
  obtain ⟨e, he, rfl⟩ := List.mem_map.1 ha
  exact ents_mem he
/-! a placed plan is right -/
theorem setupOf_ge {p : Shop} (hv : VShop p) (m : Int) : 0 ≤ setupOf p m := by
  unfold setupOf
  rw [List.getD_eq_getElem?_getD]
  cases h : p.setup[m.toNat]? with
  | none => exact Int.le_refl _
  | some y => exact (hv.setup _ _ h).1
theorem SeqOk.step {p : Shop} (hv : VShop p) {l : List At} (h : SeqOk p l) {a : At} (ha : a ∈ l) : 0 ≤ a.x.m ∧ a.x.m ≤ p.mach - 1 ∧ 1 ≤ a.x.mi ∧ a.x.mi ≤ p.cl - p.op ∧ 0 ≤ a.x.c ∧ a.x.c ≤ 9 ∧ 0 ≤ a.x.d ∧ a.x.d ≤ 10000 := by
  obtain ⟨s, h1, h2⟩ := h.ok a ha
  exact (hv.steps _ s h1).2 _ _ h2
theorem rdyR_ge {p : Shop} (hv : VShop p) {R : List At} (h : SeqOk p R) (hp : Placed p R) (i j : Nat) : 0 ≤ rdyR (R.take i) j := by
  unfold rdyR
  cases hl : lastP (ofJ j) (R.take i) with
  | none => exact Int.le_refl _
  | some b =>
    obtain ⟨i', h1, _, _⟩ := lastP_some hl
    rw [List.getElem?_take] at h1
    split at h1
    · have h2 := (hp i' b h1).2.1
      have h3 := h.step hv (List.mem_of_getElem? h1)
      show 0 ≤ b.t + b.x.mi + b.x.d
      omega
    · cases h1
theorem fromR_ge {p : Shop} (hv : VShop p) {R : List At} (h : SeqOk p R) (hp : Placed p R) (i : Nat) (a : At) : 0 ≤ fromR p (R.take i) a ∧ rdyR (R.take i) a.j ≤ fromR p (R.take i) a := by
  have h1 := rdyR_ge hv h hp i a.j
  unfold fromR
  cases lastP (onB a.x.m) (R.take i) with
  | none => exact ⟨h1, Int.le_refl _⟩
  | some b =>
    show 0 ≤ max (rdyR (R.take i) a.j) (roomF p b a.x.c) ∧ rdyR (R.take i) a.j ≤ max (rdyR (R.take i) a.j) (roomF p b a.x.c)
    omega
theorem start_ge {p : Shop} (hv : VShop p) {R : List At} (h : SeqOk p R) (hp : Placed p R) {i : Nat} {b : At} (hb : R[i]? = some b) : fromR p (R.take i) b ≤ b.t ∧ shiftB p b.t b.x.mi = true := by
  have h1 := (hp i b hb).1
  have h2 := fromR_ge hv h hp i b
  have h3 := h.step hv (List.mem_of_getElem? hb)
  have h4 := (next_is hv h2.1 h3.2.2.2.1).1
  unfold startF at h1
  rw [← h1] at h4
  exact ⟨h4.1, h4.2.1⟩
theorem room_mono {p : Shop} {a b : At} {c : Int} (h : a.t ≤ b.t) (hx : a.x = b.x) : roomF p a c ≤ roomF p b c := by
  unfold roomF At.end_
  rw [hx]
  split <;> omega
theorem room_chain {p : Shop} (hv : VShop p) {R : List At} (h : SeqOk p R) (hp : Placed p R) : ∀ (i' i : Nat) (a b : At), i < i' → R[i]? = some a → R[i']? = some b → a.x.m = b.x.m → roomF p a b.x.c ≤ b.t := by
  intro i'
  induction i' using Nat.strongRecOn with
  | _ i' ih =>
    intro i a b hlt ha hb hm
    have hs := (start_ge hv h hp hb).1
    unfold fromR at hs
    cases hl : lastP (onB b.x.m) (R.take i') with
    | none =>
      have := lastP_none hl a (List.mem_of_getElem? (i := i) (by rw [List.getElem?_take, if_pos hlt]; exact ha))
      simp [onB, hm] at this
    | some c =>
      rw [hl] at hs
      replace hs : max (rdyR (R.take i') b.j) (roomF p c b.x.c) ≤ b.t := hs
      obtain ⟨i2, h1, h2, h3⟩ := lastP_some hl
      rw [List.getElem?_take] at h1
      split at h1
      · rename_i hlt2
        have hcm : c.x.m = b.x.m := by simpa [onB] using h2
        have hle : i ≤ i2 := by
          rcases Nat.lt_or_ge i2 i with h4 | h4
          · have := h3 i a h4 (by rw [List.getElem?_take, if_pos hlt]; exact ha)
            simp [onB, hm] at this
          · exact h4
        rcases Nat.lt_or_ge i i2 with h5 | h5
        · have h6 := ih i2 hlt2 i a c h5 ha h1 (by rw [hm, hcm])
          have h7 := (h.step hv (List.mem_of_getElem? h1)).2.2.1
          have h8 := setupOf_ge hv b.x.m
          have h9 : roomF p c b.x.c ≤ b.t := by omega
          unfold roomF At.end_ at h6 h9 ⊢
          rw [hm] at h6 ⊢
          rw [hcm] at h9
          split at h6 <;> split at h9 <;> split <;> first | omega | (exfalso; omega)
        · obtain rfl : i = i2 := by omega
          rw [ha] at h1
          injection h1 with h1
          subst h1
          omega
      · cases h1
theorem shiftBad_of {p : Shop} : ∀ {l : List At}, (∀ a ∈ l, shiftB p a.t a.x.mi = true) → shiftBad p l = none
  | [], _ => rfl
  | b :: l, h => by
    unfold shiftBad
    rw [if_pos (h b (by simp))]
    exact shiftBad_of fun a ha => h a (by simp [ha])
theorem earlyBad_of : ∀ {l : List At} {dr : Int}, (∀ a, l[0]? = some a → 0 < a.k → dr ≤ a.t) → (∀ (i : Nat) a b, l[i]? = some b → l[i + 1]? = some a → 0 < a.k → b.dry ≤ a.t) → earlyBad dr l = none
  | [], _, _, _ => rfl
  | c :: l, dr, h0, h => by
    unfold earlyBad
    rw [if_neg]
    · exact earlyBad_of (fun a ha hk => h 0 a c rfl (by simpa using ha) hk) fun i a b hb ha hk => h (i + 1) a b (by simpa using hb) (by simpa using ha) hk
    · rintro ⟨h1, h2⟩
      have := h0 c rfl h1
      omega
theorem clashBad_of {p : Shop} : ∀ {l : List At}, l.Pairwise (fun a b => togB p a b = true) → clashBad p l = none
  | [], _ => rfl
  | c :: l, h => by
    obtain ⟨h1, h2⟩ := List.pairwise_cons.1 h
    unfold clashBad
    rw [if_pos (List.all_eq_true.2 h1)]
    exact clashBad_of h2
theorem shapeL_of : ∀ {pl : List (List Int)} {js : List (List Step)}, (∀ (i : Nat) l s, pl[i]? = some l → js[i]? = some s → l.length = s.length ∧ ∀ (k : Nat) t, l[k]? = some t → 0 ≤ t ∧ t ≤ 100000000) → shapeL pl js = true
  | [], _, _ => by simp [shapeL]
  | _ :: _, [], _ => by simp [shapeL]
  | l :: pl, s :: js, h => by
    obtain ⟨h1, h2⟩ := h 0 l s rfl rfl
    simp only [shapeL, Bool.and_eq_true, decide_eq_true_eq, List.all_eq_true]
    refine ⟨⟨h1, fun t ht => ?_⟩, shapeL_of fun i l' s' g1 g2 => h (i + 1) l' s' (by simpa using g1) (by simpa using g2)⟩
    obtain ⟨k, hk⟩ := List.getElem?_of_mem ht
    exact inB_iff.2 (h2 k t hk)
theorem shaped_of {p : Shop} {pl : List (List Int)} (h : VPlan p pl) : shapedB p pl = true := by
  simp only [shapedB, Bool.and_eq_true, decide_eq_true_eq]
  exact ⟨h.len, shapeL_of h.at_⟩
theorem RightP.judge {p : Shop} {pl : List (List Int)} (h : RightP p pl) : (judgeF p pl).2.2 = 0 := by
  unfold judgeF
  rw [if_pos (shaped_of h.shape)]
  unfold judgeL
  rw [shiftBad_of h.shift, earlyBad_of (l := ats p pl) (fun a ha hk => by
    obtain ⟨i', h1, _⟩ := ats_prev ha hk
    omega) h.early, clashBad_of h.clash]
theorem placed_right {p : Shop} (hv : VShop p) {R : List At} (h : SeqOk p R) (hp : Placed p R) : RightP p (planR p R) := by
  refine ⟨planR_shape h fun b hb => ?_, fun a ha => ?_, fun i a b hb ha hk => ?_, ?_⟩
  · obtain ⟨i, hi⟩ := List.getElem?_of_mem hb
    exact (hp i b hi).2
  · obtain ⟨i, hi⟩ := List.getElem?_of_mem (h.of_at ha)
    exact (start_ge hv h hp hi).2
  · obtain ⟨i', h1, b', h2, h3, h4⟩ := ats_prev ha hk
    obtain rfl : i = i' := by omega
    rw [hb] at h2
    injection h2 with h2
    subst h2
    obtain ⟨q, hq⟩ := List.getElem?_of_mem (h.of_at (List.mem_of_getElem? ha))
    obtain ⟨u, hu⟩ := List.getElem?_of_mem (h.of_at (List.mem_of_getElem? hb))
    rcases h.prev hq with ⟨h5, _⟩ | ⟨k, h5, i2, c, h6, h7, h8, h9, h10⟩
    · omega
    · obtain ⟨_, rfl⟩ := h.inj hu h7 (by rw [h3, h8]) (by omega)
      have h11 := (start_ge hv h hp hq).1
      have h12 := (fromR_ge hv h hp q a).2
      have h13 : rdyR (R.take q) a.j = b.dry := by unfold rdyR; rw [h10]
      omega
  · have hpw := ats_asc p (planR p R)
    rw [List.pairwise_iff_getElem] at hpw ⊢
    intro i j hi hj hij
    have h1 := hpw i j hi hj hij
    obtain ⟨u, hu⟩ := List.getElem?_of_mem (h.of_at (List.getElem_mem hi))
    obtain ⟨v, hv'⟩ := List.getElem?_of_mem (h.of_at (List.getElem_mem hj))
    unfold togB
    simp only [Bool.or_eq_true, Bool.not_eq_true', decide_eq_false_iff_not, decide_eq_true_eq]
    by_cases hm : (ats p (planR p R))[i].x.m = (ats p (planR p R))[j].x.m
    · rcases Nat.lt_trichotomy u v with hlt | he | hlt
      · exact .inl (.inr (room_chain hv h hp v u _ _ hlt hu hv' hm))
      · subst he
        rw [hu] at hv'
        injection hv' with hv'
        rw [hv'] at h1
        omega
      · exact .inr (room_chain hv h hp u v _ _ hlt hv' hu hm.symm)
    · exact .inl (.inl hm)
end Go.Proofs.Ytcpnfcnobnjhdaa

/- Append of a readable slice behind a full readable slice: the law of the walk; slice expressions of readable slices; a slice literal of one element. -/
namespace Go.Proofs.Ytcpnfcnobnjhdaa
open Go.RowKit
theorem flat_inv {α : Type} {f : α → List Value} {n : Nat} (h : ∀ x, (f x).length = n) : ∀ (l : List α) (q : Nat) (u : Value), (l.flatMap f)[q]? = some u → ∃ i j x, q = i * n + j ∧ l[i]? = some x ∧ (f x)[j]? = some u
  | [], q, u, hq => by simp at hq
  | y :: r, q, u, hq => by
    rw [List.flatMap_cons] at hq
    by_cases hlt : q < (f y).length
    · rw [List.getElem?_append_left hlt] at hq
      exact ⟨0, q, y, by omega, rfl, hq⟩
    · rw [List.getElem?_append_right (by omega)] at hq
      obtain ⟨i, j, x, h1, h2, h3⟩ := flat_inv h r _ u hq
      rw [h y] at h1 hlt
      exact ⟨i + 1, j, x, by rw [Nat.succ_mul]; omega, by simpa using h2, h3⟩
theorem Slc.flat {α : Type} {f : α → List Value} {sz : Nat} {w : World} {B : Nat} {A : Option Addr} {xs : List α} (h : Slc f sz w B A xs) (hf : ∀ x, (f x).length = sz) (b : Addr) (hA : A = some b) (q : Nat) (u : Value) (hq : (xs.flatMap f)[q]? = some u) : w.cell? (b.add q) = some u := by
  obtain ⟨i, j, x, rfl, h2, h3⟩ := flat_inv hf xs q u hq
  obtain ⟨b', off, h4, _, h5⟩ := h i x h2
  rw [hA] at h4
  injection h4 with h4
  subst h4
  have := h5 j u h3
  rw [Nat.add_assoc] at this
  rw [Addr.add_lit]
  exact this
theorem Slc.some_ {α : Type} {f : α → List Value} {sz : Nat} {w : World} {B : Nat} {A : Option Addr} {xs : List α} (h : Slc f sz w B A xs) (h0 : xs ≠ []) : ∃ b off, A = some ⟨b, off, none⟩ ∧ b < B := by
  cases xs with
  | nil => exact absurd rfl h0
  | cons x r =>
    obtain ⟨b, off, h1, h2, _⟩ := h 0 x rfl
    exact ⟨b, off, h1, h2⟩
theorem Own.slc {α : Type} {w : World} {base : Nat} {e : TypeId} {sz : Nat} {f : α → List Value} {A : Option Addr} {n c : Nat} {l : List α} (h : Own w base e sz f (.slice A n c) l) (hf : ∀ x, (f x).length = sz) : Slc f sz w w.heap.size A l := by
  obtain ⟨A', c', h1, h2⟩ := h.form hf
  injection h1 with h1 _ _
  subst h1; exact h2
theorem Own.ge {α : Type} {w : World} {base : Nat} {e : TypeId} {sz : Nat} {f : α → List Value} {A : Option Addr} {n c : Nat} {l : List α} (h : Own w base e sz f (.slice A n c) l) (b off : Nat) (hA : A = some ⟨b, off, none⟩) : base ≤ b := by
  subst hA
  rcases h.2 with ⟨h1, _⟩ | ⟨g, cap, cur, h1, h2, _⟩
  · cases h1
  · injection h1 with h1 _ _
    injection h1 with h1
    injection h1 with h1
    omega
/-- append of the readable slice x behind the readable slice s that has no room (or behind it nothing is laid) -/
theorem run_app_full {α : Type} {P : Program} {w : World} {e : TypeId} {sz : Nat} {f : α → List Value} {xs ys : List α} {t ty : TypeId} (he : ElemT P t e sz) {A1 A2 : Option Addr} {n m c2 B1 B2 : Nat}
    (h1 : Slc f sz w B1 A1 xs) (hn : xs.length = n) (h2 : Slc f sz w B2 A2 ys) (hm : ys.length = m) (hB1 : B1 ≤ w.heap.size)
    (hf : ∀ x, (f x).length = sz) (h1c : ∀ x, ∀ u ∈ f x, u.oneCell' = true) (hlen : n + m ≤ 1000000000) :
    ∃ A' c' w', (Builtin.append_ #[t, t] ty #[.slice A1 n n, .slice A2 m c2]).run P w = .ok (.slice A' (n + m) c') w' ∧ Below w.heap.size w w' ∧ Slc f sz w' w'.heap.size A' (xs ++ ys) ∧ n + m ≤ c' ∧ (ys ≠ [] → Own w' w.heap.size e sz f (.slice A' (n + m) c') (xs ++ ys)) := by
  obtain ⟨i, z, bytes, ht, hi, hz, hsize, hby, hzs, h0, hb⟩ := he
  have hA1 : A1 = none → n = 0 := fun hh => by
    rw [← hn]
    cases xs with
    | nil => rfl
    | cons x r => obtain ⟨b, off, h3, _⟩ := h1 0 x rfl; rw [hh] at h3; cases h3
  by_cases hy : ys = []
  · subst hy
    have hm0 : m = 0 := by rw [← hm]; rfl
    subst hm0
    refine ⟨A1, n, w, ?_, Below.refl _ _, by rw [List.append_nil]; exact h1.more hB1, by omega, fun hh => absurd rfl hh⟩
    cases A1 with
    | none =>
      obtain rfl := hA1 rfl
      cases A2 <;> simp [Builtin.append_, run_underlying ht, sizeOf, typeInfo, hi, Builtin.lenOf, Builtin.firstCells, storeCells, loadCells, loadCellsFrom]
    | some b => cases A2 <;> simp [Builtin.append_, run_underlying ht, sizeOf, typeInfo, hi, Builtin.lenOf, Builtin.firstCells, storeCells, loadCells, loadCellsFrom]
  · obtain ⟨b2, off2, hA2, _⟩ := h2.some_ hy
    have hpos : 0 < ys.length := List.length_pos_iff.2 hy
    have hfl2 : (ys.flatMap f).length = m * sz := by rw [flat_len hf, hm]
    have hc2 : ∀ (q : Nat) (u : Value), (ys.flatMap f)[q]? = some u → w.cell? ((⟨b2, off2, none⟩ : Addr).add q) = some u := fun q u hq => h2.flat hf _ hA2 q u hq
    have h1c' : ∀ u ∈ ys.flatMap f, u.oneCell' = true := fun u hu => by obtain ⟨y, _, hyu⟩ := List.mem_flatMap.1 hu; exact h1c y u hyu
    have hbytes : (n + m) * bytes ≤ 140737488355328 := by
      calc (n + m) * bytes ≤ 1000000000 * 4096 := Nat.mul_le_mul hlen hb
        _ ≤ _ := by omega
    have key : ∃ v' w', (Builtin.append_ #[t, t] ty #[.slice A1 n n, .slice A2 m c2]).run P w = .ok v' w' ∧ w'.ownsRow w.heap.size e sz v' (n + m) (xs.flatMap f ++ ys.flatMap f) ∧ w.grownBy w' none := by
      subst hA2
      cases A1 with
      | some b =>
        obtain ⟨v', w', hrun, r1, r2⟩ := run_append_arg_grows (P := P) w t ty e i z sz bytes ht hi hz hsize hby hzs h0 b n n (xs.flatMap f) (by rw [flat_len hf, hn]) (fun q u hq => h1.flat hf b rfl q u hq) ⟨b2, off2, none⟩ m c2 (ys.flatMap f) hfl2 hc2 (by omega) (by unfold maxLen; omega) hbytes
        exact ⟨v', w', hrun, r1, r2⟩
      | none =>
        obtain rfl := hA1 rfl
        have hx0 : xs = [] := List.length_eq_zero_iff.1 hn
        subst hx0
        obtain ⟨v', w', hrun, r1, r2, _⟩ := run_append_own (P := P) w w.heap.size t ty e i z sz bytes ht hi hz hsize hby hzs h0 (.slice none 0 0) 0 [] (World.ownsRow_nil w _ e sz) ⟨b2, off2, none⟩ m c2 (ys.flatMap f) hfl2 hc2 h1c' (by unfold maxLen; omega) hbytes (Nat.le_refl _)
        exact ⟨v', w', hrun, r1, r2⟩
    obtain ⟨v', w', g0, g1, g2⟩ := key
    have hO : Own w' w.heap.size e sz f v' (xs ++ ys) := by
      show w'.ownsRow _ _ _ _ _ _
      rw [List.length_append, hn, hm, List.flatMap_append]
      exact g1
    have hB : Below w.heap.size w w' := (Below.refl _ w).grown g2 (Nat.le_refl _) (fun k hk => by cases hk)
    obtain ⟨A', c', hv, hle, hS⟩ := hO.form2 hf
    rw [List.length_append, hn, hm] at hv hle
    subst hv
    exact ⟨A', c', w', g0, hB, hS, hle, fun _ => hO⟩
theorem wpList_app_full {α : Type} {P : Program} {ops : Array Oper} {rest : List Oper} {o : Oper} {a : Act} {Q : Exit → Act → World → Prop} {w : World} {e : TypeId} {sz : Nat} {f : α → List Value} {xs ys : List α} (s x : Operand) {t : TypeId} (hgd : o.guard = none)
    (ho : o.op = .call { callee := .builtin .append, args := #[s, x], argTypes := #[t, t] }) (he : ElemT P t e sz) {A1 A2 : Option Addr} {n m c2 B1 B2 : Nat} (hs : a.eval s = .slice A1 n n) (hx : a.eval x = .slice A2 m c2)
    (h1 : Slc f sz w B1 A1 xs) (hn : xs.length = n) (h2 : Slc f sz w B2 A2 ys) (hm : ys.length = m) (hB1 : B1 ≤ w.heap.size)
    (hf : ∀ x, (f x).length = sz) (h1c : ∀ x, ∀ u ∈ f x, u.oneCell' = true) (hlen : n + m ≤ 1000000000)
    (h : ∀ A' c' w', Below w.heap.size w w' → Slc f sz w' w'.heap.size A' (xs ++ ys) → n + m ≤ c' → (ys ≠ [] → Own w' w.heap.size e sz f (.slice A' (n + m) c') (xs ++ ys)) → wpList P ops Q rest (a.put o.dst (.slice A' (n + m) c')) w') : wpList P ops Q (o :: rest) a w := by
  obtain ⟨A', c', w', hrun, g1, g2, g3, g4⟩ := run_app_full (P := P) (ty := o.type) he h1 hn h2 hm hB1 hf h1c hlen (A2 := A2) (c2 := c2)
  refine wpList_plain hgd fun K hK => ?_
  unfold Oper.wp
  simp [execOp, ho, resolve, invoke, builtin, hs, hx, hrun, Result.andThen]
  exact hK _ _ (h A' c' w' g1 g2 g3 g4)
theorem step_app_full {α : Type} {P : Program} {ops : Array Oper} {o : Oper} {a : Act} {K : Act → World → Prop} {Q : Exit → Act → World → Prop} {E : Prop} {w : World} {e : TypeId} {sz : Nat} {f : α → List Value} {xs ys : List α} (s x : Operand) {t : TypeId} (hgd : o.guard = none)
    (ho : o.op = .call { callee := .builtin .append, args := #[s, x], argTypes := #[t, t] }) (he : ElemT P t e sz) {A1 A2 : Option Addr} {n m c2 B1 B2 : Nat} (hs : a.eval s = .slice A1 n n) (hx : a.eval x = .slice A2 m c2)
    (h1 : Slc f sz w B1 A1 xs) (hn : xs.length = n) (h2 : Slc f sz w B2 A2 ys) (hm : ys.length = m) (hB1 : B1 ≤ w.heap.size)
    (hf : ∀ x, (f x).length = sz) (h1c : ∀ x, ∀ u ∈ f x, u.oneCell' = true) (hlen : n + m ≤ 1000000000)
    (h : ∀ A' c' w', Below w.heap.size w w' → Slc f sz w' w'.heap.size A' (xs ++ ys) → n + m ≤ c' → (ys ≠ [] → Own w' w.heap.size e sz f (.slice A' (n + m) c') (xs ++ ys)) → K (a.put o.dst (.slice A' (n + m) c')) w') : if Region.wanted o (yielded ops a.tmps) = true then Oper.wp P o a w K Q else E := by
  have hw : Region.wanted o (yielded ops a.tmps) = true := by simp [Region.wanted, hgd]
  rw [if_pos hw]
  obtain ⟨A', c', w', hrun, g1, g2, g3, g4⟩ := run_app_full (P := P) (ty := o.type) he h1 hn h2 hm hB1 hf h1c hlen (A2 := A2) (c2 := c2)
  unfold Oper.wp
  simp [execOp, ho, resolve, invoke, builtin, hs, hx, hrun, Result.andThen]
  exact h A' c' w' g1 g2 g3 g4
/-- s[k:] -/
def dropA (A : Option Addr) (c k sz : Nat) : Option Addr := if c = k then A else A.map (·.add (k * sz))
theorem Slc.dropA_ {α : Type} {f : α → List Value} {sz : Nat} {w : World} {B : Nat} {A : Option Addr} {xs : List α} {c k : Nat} (h : Slc f sz w B A xs) (hc : xs.length ≤ c) : Slc f sz w B (dropA A c k sz) (xs.drop k) := by
  unfold dropA
  split
  · rename_i hck
    rw [List.drop_eq_nil_of_le (by omega)]
    exact Slc.nil_
  · intro i x hx
    rw [List.getElem?_drop] at hx
    obtain ⟨b, off, hA, hb, hcell⟩ := h _ x hx
    subst hA
    refine ⟨b, off + k * sz, by rw [Option.map_some, Addr.add_lit], hb, fun j v hv => ?_⟩
    have := hcell j v hv
    rw [show off + k * sz + i * sz + j = off + (k + i) * sz + j by rw [Nat.add_mul]; omega]
    exact this
theorem Slc.take_ {α : Type} {f : α → List Value} {sz : Nat} {w : World} {B : Nat} {A : Option Addr} {xs : List α} (k : Nat) (h : Slc f sz w B A xs) : Slc f sz w B A (xs.take k) := fun i x hx => by
  rw [List.getElem?_take] at hx
  split at hx
  · exact h i x hx
  · cases hx
theorem run_slice_from {P : Program} {t e : TypeId} {sz : Nat} (he : ElemT P t e sz) (A : Option Addr) (n c k : Nat) (hk : k ≤ n) (w : World) :
    (Instr.sliceAt t (.slice A n c) (some (.int .i64 k)) none none).run P w = .ok (.slice (dropA A c k sz) (n - k) (c - k)) w := by
  obtain ⟨i, z, bytes, ht, hi, hz, hsize, _⟩ := he
  have hel : P.elem t = e := by simp [Program.elem, ht]
  rw [← hel] at ht hi
  rw [run_sliceAt_slice (h := ht), run_slice_l (ht := ht) (h0 := by omega) (h1 := by omega)]
  subst hsize
  simp [sizeOf, typeInfo, hi, sliced, dropA, Result.andThen]
theorem run_slice_upto {P : Program} {t e : TypeId} {sz : Nat} (he : ElemT P t e sz) (A : Option Addr) (n c k : Nat) (hk : k ≤ c) (w : World) :
    (Instr.sliceAt t (.slice A n c) none (some (.int .i64 k)) (some (.int .i64 k))).run P w = .ok (.slice A k k) w := by
  obtain ⟨i, z, bytes, ht, hi, hz, hsize, _⟩ := he
  have hel : P.elem t = e := by simp [Program.elem, ht]
  rw [← hel] at ht hi
  rw [run_sliceAt_slice (h := ht), run_slice_hm (ht := ht) (h0 := by omega) (h2 := by omega) (h3 := by omega)]
  subst hsize
  simp [sizeOf, typeInfo, hi, sliced, Result.andThen]
  intro _
  cases A with
  | none => rfl
  | some b => simp [Addr.add]
theorem Blk.slc1 {α : Type} {f : α → List Value} {sz : Nat} {w : World} {g : Nat} {t : TypeId} {cs : Array Value} (h : Blk w g t cs) {y : α} (hcs : cs.toList = f y) : Slc f sz w w.heap.size (some ⟨g, 0, none⟩) [y] := fun i x hx => by
  cases i with
  | zero =>
    simp at hx; subst hx
    refine ⟨g, 0, rfl, h.lt, fun j v hv => ?_⟩
    rw [← hcs] at hv
    simpa using h.cell_ j (by simpa using hv)
  | succ i => simp at hx
end Go.Proofs.Ytcpnfcnobnjhdaa
