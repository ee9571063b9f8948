/- Parts of the proofs of this seat: RefOrder. Each part says what it proves; no condition beyond those stated there. -/
import Derived.Deep.DeepCutAuto
import Derived.Deep.RegionLaw
import Derived.Test.YtcpnfcnobnjhdaaB20
import Derived.Test.YtcpnfcnobnjhdaaB23

/- The reference's Order: the walk. -/
namespace Go.Proofs.Ytcpnfcnobnjhdaa
open Go.RowKit
/-- the steps of one machine -/
noncomputable def onM (L : List At) (mc : Int) : List At := L.filter fun a => decide (a.x.m = mc)
theorem onM_yes {L : List At} {mc : Int} {i : Nat} {a : At} (h : L[i]? = some a) (hm : a.x.m = mc) : sortA (onM (L.take (i + 1)) mc) = insA a (sortA (onM (L.take i) mc)) := by
  unfold onM
  rw [filter_snoc h, if_pos (decide_eq_true hm), sortA_snoc]
theorem onM_no {L : List At} {mc : Int} {i : Nat} {a : At} (h : L[i]? = some a) (hm : ¬ a.x.m = mc) : sortA (onM (L.take (i + 1)) mc) = sortA (onM (L.take i) mc) := by
  unfold onM
  rw [filter_snoc h, if_neg (by simpa using hm)]
theorem onM_mem {L : List At} {mc : Int} {i : Nat} {a : At} (h : a ∈ sortA (onM (L.take i) mc)) : a ∈ L := by
  have h1 := (sortA_perm _).mem_iff.1 h
  exact List.mem_of_mem_take (List.mem_filter.1 h1).1
theorem onM_len (L : List At) (mc : Int) (i : Nat) : (sortA (onM (L.take i) mc)).length ≤ L.length := by
  rw [(sortA_perm _).length_eq]
  refine Nat.le_trans (List.length_filter_le _ _) ?_
  rw [List.length_take]; omega
theorem ap_len (x : At) : (AP x).length = 2 := rfl
theorem ap_one (x : At) : ∀ u ∈ AP x, u.oneCell' = true := fun u hu => by
  simp only [AP, List.mem_cons, List.not_mem_nil, or_false] at hu
  rcases hu with rfl | rfl <;> rfl
/- region 10 at k = $1, where k is spelled $3, out's address $4 -/
set_option maxRecDepth 100000 in
set_option maxHeartbeats 2000000 in
theorem refOrder_new (s : Sh) (A : Option Addr) (c : Nat) (pl : List (List Int)) (mc : Int) (w : World) (hS : ShAt w w.heap.size s) (hv : VShop s.p) (hP : Plan w w.heap.size A pl) (hp : VPlan s.p pl) :
    Calls Try.prog 43 #[.agg #[.int .i64 s.p.op, .int .i64 s.p.cl, .slice s.aH s.p.hol.length s.cH, .int .i64 s.p.mach, .slice s.aS s.p.setup.length s.cS, .slice s.aJ s.p.jobs.length s.cJ], .slice A pl.length c, .int .i64 mc] w fun e w' => ∃ A' c', e = .returned (.slice A' (sortA (onM (ats s.p pl) mc)).length c') ∧ Below w.heap.size w w' ∧ Slc AP 2 w' w'.heap.size A' (sortA (onM (ats s.p pl) mc)) ∧ ∀ b off, A' = some ⟨b, off, none⟩ → w.heap.size ≤ b := by
  have hen := ents_len hv
  have v1 := hv.op0
  have v3 := hv.cl
  have hal := ats_len s.p pl
  have hal2 : (ats s.p pl).length ≤ 96 := by omega
  have HOK := hide (fun (a : At) (h : a ∈ ats s.p pl) => ats_ok hv hp h)
  have hk := Blk.new w 25 #[.int .i64 s.p.op, .int .i64 s.p.cl, .slice s.aH s.p.hol.length s.cH, .int .i64 s.p.mach, .slice s.aS s.p.setup.length s.cS, .slice s.aJ s.p.jobs.length s.cJ]
  have hB := (Below.refl w.heap.size w).alloc (Nat.le_refl _) (.cells #[.int .i64 s.p.op, .int .i64 s.p.cl, .slice s.aH s.p.hol.length s.cH, .int .i64 s.p.mach, .slice s.aS s.p.setup.length s.cS, .slice s.aJ s.p.jobs.length s.cJ] 25)
  go_enter Try.func43, Try.ntmps43
  go_wp2_with fail
  generalize w.alloc (.cells #[.int .i64 s.p.op, .int .i64 s.p.cl, .slice s.aH s.p.hol.length s.cH, .int .i64 s.p.mach, .slice s.aS s.p.setup.length s.cS, .slice s.aJ s.p.jobs.length s.cJ] 25) = W at *
  have c0 := hk.cell_ 0 rfl
  have c1 := hk.cell_ 1 rfl
  have c2 := hk.cell_ 2 rfl
  have c3 := hk.cell_ 3 rfl
  have c4 := hk.cell_ 4 rfl
  have c5 := hk.cell_ 5 rfl
  go_wp2_with fail
  refine (refList_any s _ (hS.on hB) hv).mono ?_
  rintro e W ⟨AL, cL, rfl, hb, hL0⟩
  clear c0 c1 c2 c3 c4 c5
  replace hk := hk.below hb hk.lt
  replace hB := hB.trans (hb.mono hB.size)
  clear hb
  have c0 := hk.cell_ 0 rfl
  have c1 := hk.cell_ 1 rfl
  have c2 := hk.cell_ 2 rfl
  have c3 := hk.cell_ 3 rfl
  have c4 := hk.cell_ 4 rfl
  have c5 := hk.cell_ 5 rfl
  have hL : Slc AP 2 W W.heap.size AL (ats s.p pl) := slc_map hL0
  rw [← hal]
  clear hL0 hal hen
  generalize hLd : ats s.p pl = L at *
  have HL := hide hLd
  clear hLd
  obtain ⟨base, hbase⟩ : ∃ n, n = W.heap.size := ⟨_, rfl⟩
  have hwb : w.heap.size ≤ base := by rw [hbase]; exact hB.size
  rw [← hbase] at hL
  have hO : Own W base 77 2 AP (.slice none 0 0) (sortA (onM (L.take 0) mc)) := Own.nil_
  have hz : base ≤ W.heap.size := Nat.le_of_eq hbase
  clear hbase
  clear c0 c1 c2 c3 c4 c5
  go_wp2_with fail
  go_loopw [7, 9] (fun v y W => ∃ i : Nat, y = .int .i64 i ∧ i ≤ L.length ∧ Blk W w.heap.size 25 #[.int .i64 s.p.op, .int .i64 s.p.cl, .slice s.aH s.p.hol.length s.cH, .int .i64 s.p.mach, .slice s.aS s.p.setup.length s.cS, .slice s.aJ s.p.jobs.length s.cJ] ∧ Slc AP 2 W base AL L ∧ Own W base 77 2 AP v (sortA (onM (L.take i) mc)) ∧ base ≤ W.heap.size ∧ Below w.heap.size w W) (fun v y _ => L.length - (intOf y).toNat)
  case atStart => exact ⟨0, rfl, Nat.zero_le _, hk, hL, hO, hz, hB⟩
  case round =>
    clear hk hB hL hO hz
    obtain ⟨W, rfl⟩ : ∃ W : World, W = wr := ⟨_, rfl⟩
    obtain ⟨i, rfl, hi, hk, hL, hO, hz, hB⟩ := hrel
    by_cases hlt : i < L.length
    · obtain ⟨a, ha⟩ : ∃ a, L[i]? = some a := ⟨_, List.getElem?_eq_getElem hlt⟩
      by_cases hmm : a.x.m = mc
      · have HM := hide (onM_yes ha hmm)
        have hmb : (a.x.m != mc) = false := by simpa using hmm
        clear hmm
        obtain ⟨b, off, hA, hb0, d0, d1⟩ := hL.at2 ha (v0 := .int .i64 a.j) (v1 := .int .i64 a.k) rfl
        have hok := HOK.out a (List.mem_of_getElem? ha)
        obtain ⟨st, hj, hx⟩ := hok.job
        obtain ⟨l, t, hpl, hlt0, hpt, _⟩ := hp.start hj hx
        have hlt' : l[a.k]? = some a.t := by rw [hok.start, hpt]; exact hlt0
        obtain ⟨bp, offp, Ap, cp, hAp, hbp, hcp, hSp⟩ := plan_at (hP.on hB) hpl
        obtain ⟨bt, offt, hAt, hbt, hct⟩ := int_at hSp hlt'
        have o1 := hok.t0
        have o2 := hok.t1
        have o3 := hok.mi0
        have o4 := hok.mi1
        have o5 := hok.d0
        have o6 := hok.d1
        have i1 : (i : Int) < (L.length : Int) := by omega
        have i2 : (a.j : Int) < (pl.length : Int) := by have := (List.getElem?_eq_some_iff.1 hpl).1; omega
        have i3 : (a.k : Int) < (l.length : Int) := by have := (List.getElem?_eq_some_iff.1 hlt').1; omega
        have HJX := hide (And.intro hj hx)
        have HPL := hide (And.intro hpl hlt')
        have HA := hide ha
        clear ha hok hj hx hpl hlt0 hpt hlt'
        subst hA hAp hAt
        have HSW := hS.on hB
        have fs0 := fstep0
        have c0 := hk.cell_ 0 rfl
        have c1 := hk.cell_ 1 rfl
        have c2 := hk.cell_ 2 rfl
        have c3 := hk.cell_ 3 rfl
        have c4 := hk.cell_ 4 rfl
        have c5 := hk.cell_ 5 rfl
        go_wp2_with fail
        refine wp_region_quiet (C := fun w' => ∃ u : Since W, w' = u.w) (by kernel_rfl) (by kernel_rfl) (Since.start W) ?_
        dsimp only
        have y_c0 := Since.cell c0
        have y_c1 := Since.cell c1
        have y_c2 := Since.cell c2
        have y_c3 := Since.cell c3
        have y_c4 := Since.cell c4
        have y_c5 := Since.cell c5
        have y_d0 := Since.cell d0
        have y_d1 := Since.cell d1
        clear c0 c1 c2 c3 c4 c5
        repeat (go_big_quiet_step ((go_at_call 59; exact Since.calls (at_any s a.j a.k st a.x _ (HSW.on (Since.h _)) HJX.out.1 HJX.out.2))))
        refine wpQuiet_nil ?_
        rintro W ⟨⟨_, hb⟩, rfl⟩
        try dsimp only at hb ⊢
        replace d0 : W.cell? _ = _ := y_d0 ⟨W, hb⟩
        replace d1 : W.cell? _ = _ := y_d1 ⟨W, hb⟩
        clear y_c0 y_c1 y_c2 y_c3 y_c4 y_c5 y_d0 y_d1
        replace hk := hk.below hb hk.lt
        replace hL := hL.below (hb.mono (by omega))
        replace hO := hO.below hb
        replace hz := Nat.le_trans hz hb.size
        replace hB := hB.trans (hb.mono hB.size)
        clear hb
        have c0 := hk.cell_ 0 rfl
        have c1 := hk.cell_ 1 rfl
        have c2 := hk.cell_ 2 rfl
        have c3 := hk.cell_ 3 rfl
        have c4 := hk.cell_ 4 rfl
        have c5 := hk.cell_ 5 rfl
        have hml := onM_len L mc i
        have hmem := hide (fun (b : At) (h : b ∈ sortA (onM (L.take i) mc)) => HOK.out b (onM_mem h))
        have hasc := hide (sortA_asc (onM (L.take i) mc))
        generalize sortA (onM (L.take i) mc) = M at *
        obtain ⟨AO, cO, hv', hle, hSl⟩ := hO.form2 fun _ => rfl
        subst hv'
        go_wp2_with fail
        clear c0 c1 c2 c3 c4 c5
        go_loopw [10] (fun z W => ∃ k : Nat, z = .int .i64 k ∧ k ≤ M.length ∧ Hid (∀ (q : Nat) (b : At), k ≤ q → M[q]? = some b → a.t < b.t) ∧ Blk W w.heap.size 25 #[.int .i64 s.p.op, .int .i64 s.p.cl, .slice s.aH s.p.hol.length s.cH, .int .i64 s.p.mach, .slice s.aS s.p.setup.length s.cS, .slice s.aJ s.p.jobs.length s.cJ] ∧ Slc AP 2 W base (some ⟨b, off, none⟩) L ∧ Own W base 77 2 AP (.slice AO M.length cO) M ∧ Slc AP 2 W W.heap.size AO M ∧ base ≤ W.heap.size ∧ Below w.heap.size w W) (fun z _ => (intOf z).toNat)
        case atStart => exact ⟨M.length, rfl, Nat.le_refl _, hide (fun q b hq hb => by have := (List.getElem?_eq_some_iff.1 hb).1; omega), hk, hL, hO, hSl, hz, hB⟩
        case round =>
          clear hk hB hL hO hSl hz
          obtain ⟨W, rfl⟩ : ∃ W : World, W = wr := ⟨_, rfl⟩
          obtain ⟨k, rfl, hk2, HG, hk, hL, hO, hSl, hz, hB⟩ := hrel
          obtain ⟨lp, tp, hlp⟩ : ∃ l : List Int, ∃ t : Int, pl[a.j]? = some l ∧ l[a.k]? = some t ∧ t = a.t := ⟨_, _, HPL.out.1, HPL.out.2, rfl⟩
          by_cases hk0 : 0 < k
          · obtain ⟨q, rfl⟩ : ∃ q, k = q + 1 := ⟨k - 1, by omega⟩
            obtain ⟨e, he⟩ : ∃ e, M[q]? = some e := ⟨_, List.getElem?_eq_getElem (by omega)⟩
            clear d0 d1 hcp hct hbp hbt hb0
            obtain ⟨b', off', hA', hb0, d0, d1⟩ := hL.at2 HA.out (v0 := .int .i64 a.j) (v1 := .int .i64 a.k) rfl
            obtain ⟨bp', offp', Ap', cp', hAp', hbp, hcp, hSp'⟩ := plan_at (hP.on hB) HPL.out.1
            obtain ⟨bt', offt', hAt', hbt, hct⟩ := int_at hSp' HPL.out.2
            obtain ⟨b2, off2, hA2, hb2, d2, d3⟩ := hSl.at2 he (v0 := .int .i64 e.j) (v1 := .int .i64 e.k) rfl
            have hok2 := hmem.out e (List.mem_of_getElem? he)
            obtain ⟨st2, hj2, hx2⟩ := hok2.job
            obtain ⟨l2, t2, hpl2, hlt2, hpt2, _⟩ := hp.start hj2 hx2
            have hlt2' : l2[e.k]? = some e.t := by rw [hok2.start, hpt2]; exact hlt2
            obtain ⟨bp2, offp2, Ap2, cp2, hAp2, hbp2, hcp2, hSp2⟩ := plan_at (hP.on hB) hpl2
            obtain ⟨bt2, offt2, hAt2, hbt2, hct2⟩ := int_at hSp2 hlt2'
            have q1 := hok2.t0
            have q2 := hok2.t1
            have i4 : (q : Int) < (M.length : Int) := by omega
            have i5 : (e.j : Int) < (pl.length : Int) := by have := (List.getElem?_eq_some_iff.1 hpl2).1; omega
            have i6 : (e.k : Int) < (l2.length : Int) := by have := (List.getElem?_eq_some_iff.1 hlt2').1; omega
            have HE := hide he
            clear he hok2 hj2 hx2 hpl2 hlt2 hpt2 hlt2'
            obtain ⟨rfl, rfl⟩ : b = b' ∧ off = off' := by simpa using hA'
            obtain ⟨rfl, rfl⟩ : bp = bp' ∧ offp = offp' := by simpa using hAp'
            obtain ⟨rfl, rfl⟩ : bp = bp2 ∧ offp = offp2 := by simpa using hAp2
            clear hA' hAp' hAp2
            subst hAt' hAt2 hA2
            have e1 : IntKind.i64.wrap (((q + 1 : Nat) : Int) - 1) = (q : Int) := by rw [IntWalk.i64_in _ (by omega)]; omega
            have hgt : (0 : Int) < ((q + 1 : Nat) : Int) := by omega
            have c0 := hk.cell_ 0 rfl
            have c1 := hk.cell_ 1 rfl
            have c2 := hk.cell_ 2 rfl
            have c3 := hk.cell_ 3 rfl
            have c4 := hk.cell_ 4 rfl
            have c5 := hk.cell_ 5 rfl
            by_cases hte : a.t < e.t
            · go_wp2_with fail
              refine wp_region_quiet (C := fun w' => ∃ u : Since W, w' = u.w) (by kernel_rfl) (by kernel_rfl) (Since.start W) ?_
              dsimp only
              have y_c0 := Since.cell c0
              have y_c1 := Since.cell c1
              have y_c2 := Since.cell c2
              have y_c3 := Since.cell c3
              have y_c4 := Since.cell c4
              have y_c5 := Since.cell c5
              have y_d0 := Since.cell d0
              have y_d1 := Since.cell d1
              have y_d2 := Since.cell d2
              have y_d3 := Since.cell d3
              have y_hcp := Since.cell hcp
              have y_hct := Since.cell hct
              have y_hcp2 := Since.cell hcp2
              have y_hct2 := Since.cell hct2
              clear c0 c1 c2 c3 c4 c5
              repeat (go_big_quiet_step ((fail)))
              refine wpQuiet_nil ?_
              rintro W ⟨⟨_, hb⟩, rfl⟩
              try dsimp only at hb ⊢
              replace d0 : W.cell? _ = _ := y_d0 ⟨W, hb⟩
              replace d1 : W.cell? _ = _ := y_d1 ⟨W, hb⟩
              replace d2 : W.cell? _ = _ := y_d2 ⟨W, hb⟩
              replace d3 : W.cell? _ = _ := y_d3 ⟨W, hb⟩
              replace hcp : W.cell? _ = _ := y_hcp ⟨W, hb⟩
              replace hct : W.cell? _ = _ := y_hct ⟨W, hb⟩
              replace hcp2 : W.cell? _ = _ := y_hcp2 ⟨W, hb⟩
              replace hct2 : W.cell? _ = _ := y_hct2 ⟨W, hb⟩
              clear y_c0 y_c1 y_c2 y_c3 y_c4 y_c5 y_d0 y_d1 y_d2 y_d3 y_hcp y_hct y_hcp2 y_hct2
              replace hk := hk.below hb hk.lt
              replace hL := hL.below (hb.mono (by omega))
              replace hO := hO.below hb
              replace hSl := (hSl.below hb).more hb.size
              replace hz := Nat.le_trans hz hb.size
              replace hB := hB.trans (hb.mono hB.size)
              clear hb
              have c0 := hk.cell_ 0 rfl
              have c1 := hk.cell_ 1 rfl
              have c2 := hk.cell_ 2 rfl
              have c3 := hk.cell_ 3 rfl
              have c4 := hk.cell_ 4 rfl
              have c5 := hk.cell_ 5 rfl
              have HG2 : Hid (∀ (r : Nat) (b : At), q ≤ r → M[r]? = some b → a.t < b.t) := fun r b hr hb => by
                by_cases h : r = q
                · subst h
                  have h2 := HE.out
                  rw [hb] at h2
                  cases h2
                  exact hte
                · exact HG.out r b (by omega) hb
              go_wp2_with fail
              go_roundw
              case rel => exact ⟨q, by go_num, by omega, HG2, hk, hL, hO, hSl, hz, hB⟩
              case measure => simp [intOf]
            · replace hte : e.t ≤ a.t := by omega
              go_wp2_with fail
              refine wp_region_quiet (C := fun w' => ∃ u : Since W, w' = u.w) (by kernel_rfl) (by kernel_rfl) (Since.start W) ?_
              dsimp only
              have y_c0 := Since.cell c0
              have y_c1 := Since.cell c1
              have y_c2 := Since.cell c2
              have y_c3 := Since.cell c3
              have y_c4 := Since.cell c4
              have y_c5 := Since.cell c5
              have y_d0 := Since.cell d0
              have y_d1 := Since.cell d1
              have y_d2 := Since.cell d2
              have y_d3 := Since.cell d3
              have y_hcp := Since.cell hcp
              have y_hct := Since.cell hct
              have y_hcp2 := Since.cell hcp2
              have y_hct2 := Since.cell hct2
              clear c0 c1 c2 c3 c4 c5
              repeat (go_big_quiet_step ((fail)))
              refine wpQuiet_nil ?_
              rintro W ⟨⟨_, hb⟩, rfl⟩
              try dsimp only at hb ⊢
              replace d0 : W.cell? _ = _ := y_d0 ⟨W, hb⟩
              replace d1 : W.cell? _ = _ := y_d1 ⟨W, hb⟩
              replace d2 : W.cell? _ = _ := y_d2 ⟨W, hb⟩
              replace d3 : W.cell? _ = _ := y_d3 ⟨W, hb⟩
              replace hcp : W.cell? _ = _ := y_hcp ⟨W, hb⟩
              replace hct : W.cell? _ = _ := y_hct ⟨W, hb⟩
              replace hcp2 : W.cell? _ = _ := y_hcp2 ⟨W, hb⟩
              replace hct2 : W.cell? _ = _ := y_hct2 ⟨W, hb⟩
              clear y_c0 y_c1 y_c2 y_c3 y_c4 y_c5 y_d0 y_d1 y_d2 y_d3 y_hcp y_hct y_hcp2 y_hct2
              replace hk := hk.below hb hk.lt
              replace hL := hL.below (hb.mono (by omega))
              replace hO := hO.below hb
              replace hSl := (hSl.below hb).more hb.size
              replace hz := Nat.le_trans hz hb.size
              replace hB := hB.trans (hb.mono hB.size)
              clear hb
              have c0 := hk.cell_ 0 rfl
              have c1 := hk.cell_ 1 rfl
              have c2 := hk.cell_ 2 rfl
              have c3 := hk.cell_ 3 rfl
              have c4 := hk.cell_ 4 rfl
              have c5 := hk.cell_ 5 rfl
              go_wp2_with fail
              have HI : Hid (insA a M = M.take (q + 1) ++ a :: M.drop (q + 1)) := insA_at hasc.out (by omega) HG.out (fun r b hr hb => by obtain rfl : r = q := (by omega); have h2 := HE.out; rw [hb] at h2; injection h2 with h2; rw [h2]; exact hte)
              clear d0 d1 hb0
              obtain ⟨b', off', hA', hb0, d0, d1⟩ := hL.at2 HA.out (v0 := .int .i64 a.j) (v1 := .int .i64 a.k) rfl
              obtain ⟨rfl, rfl⟩ : b = b' ∧ off = off' := by simpa using hA'
              clear hA'
              have hsl1 : ∀ w, (Instr.sliceAt 54 (.slice (some ⟨b2, off2, none⟩) M.length cO) none (some (.int .i64 ((q : Int) + 1))) (some (.int .i64 ((q : Int) + 1)))).run Try.prog w = .ok (.slice (some ⟨b2, off2, none⟩) (q + 1) (q + 1)) w := by
                have h := run_slice_upto et_pair (some ⟨b2, off2, none⟩) M.length cO (q + 1) (by omega)
                simpa using h
              have hsl2 : ∀ w, (Instr.sliceAt 54 (.slice (some ⟨b2, off2, none⟩) M.length cO) (some (.int .i64 ((q : Int) + 1))) none none).run Try.prog w = .ok (.slice (dropA (some ⟨b2, off2, none⟩) cO (q + 1) 2) (M.length - (q + 1)) (cO - (q + 1))) w := by
                have h := run_slice_from et_pair (some ⟨b2, off2, none⟩) M.length cO (q + 1) (by omega)
                simpa using h
              have hb1 : Below W.heap.size W (W.alloc (.cells #[.int .i64 a.j, .int .i64 a.k] 77)).drew := ((Below.refl _ W).alloc (Nat.le_refl _) _).drew
              have HS1 : Hid (Slc AP 2 (W.alloc (.cells #[.int .i64 a.j, .int .i64 a.k] 77)).drew (W.alloc (.cells #[.int .i64 a.j, .int .i64 a.k] 77)).drew.heap.size (some ⟨W.heap.size, 0, none⟩) [a]) := Blk.slc1 (Blk.new W 77 #[.int .i64 a.j, .int .i64 a.k]).drew rfl
              have HS2 : Hid (Slc AP 2 (W.alloc (.cells #[.int .i64 a.j, .int .i64 a.k] 77)).drew W.heap.size (dropA (some ⟨b2, off2, none⟩) cO (q + 1) 2) (M.drop (q + 1))) := (hSl.dropA_ hle).below hb1
              have HS3 : Hid (Slc AP 2 (W.alloc (.cells #[.int .i64 a.j, .int .i64 a.k] 77)).drew W.heap.size (some ⟨b2, off2, none⟩) (M.take (q + 1))) := (hSl.take_ (q + 1)).below hb1
              have hkl : q + 1 ≤ M.length := by omega
              have hml9 : M.length ≤ 96 := by omega
              have c0 := hk.cell_ 0 rfl
              have c1 := hk.cell_ 1 rfl
              have c2 := hk.cell_ 2 rfl
              have c3 := hk.cell_ 3 rfl
              have c4 := hk.cell_ 4 rfl
              have c5 := hk.cell_ 5 rfl
              go_region_law (first | (refine step_app_full _ _ rfl rfl et_pair (xs := [a]) (ys := M.drop (q + 1)) rfl rfl HS1.out rfl HS2.out (by simp) (Nat.le_refl _) ap_len ap_one (by omega) ?_; intro A1 cA w1 hb2 hS4 hcA hO4) | (refine step_app_full _ _ rfl rfl et_pair (xs := M.take (q + 1)) (ys := [a] ++ M.drop (q + 1)) rfl rfl (HS3.out.below (hb2.mono hb1.size)) (by simp <;> omega) hS4 (by simp <;> omega) (Nat.le_trans hb1.size hb2.size) ap_len ap_one (by omega) ?_; intro A2 cB w2 hb3 hS5 hcB hO5; have hbW : Below W.heap.size W w2 := (hb1.trans (hb2.mono hb1.size)).trans (hb3.mono (Nat.le_trans hb1.size hb2.size)); clear d0 d1 c0 c1 c2 c3 c4 c5))
              replace hk := hk.below hbW hk.lt
              replace hL := hL.below (hbW.mono hz)
              have hO2 := (hO5 (by simp)).mono_base (b' := base) (Nat.le_trans hz (Nat.le_trans hb1.size hb2.size))
              have HX : Hid (M.take (q + 1) ++ ([a] ++ M.drop (q + 1)) = sortA (onM (L.take (i + 1)) mc)) := by show _ = _; rw [HM.out, HI.out]; rfl
              rw [HX.out] at hO2
              try simp only [Nat.zero_add] at hO2
              replace hz := Nat.le_trans hz hbW.size
              replace hB := hB.trans (hbW.mono hB.size)
              go_wp2_with fail
              go_roundw
              case rel => exact ⟨i + 1, by go_num, by omega, hk, hL, hO2, hz, hB⟩
              case measure => simp [intOf]; omega
          · obtain rfl : k = 0 := by omega
            have c0 := hk.cell_ 0 rfl
            have c1 := hk.cell_ 1 rfl
            have c2 := hk.cell_ 2 rfl
            have c3 := hk.cell_ 3 rfl
            have c4 := hk.cell_ 4 rfl
            have c5 := hk.cell_ 5 rfl
            go_wp2_with fail
            refine wp_region_quiet (C := fun w' => ∃ u : Since W, w' = u.w) (by kernel_rfl) (by kernel_rfl) (Since.start W) ?_
            dsimp only
            have y_c0 := Since.cell c0
            have y_c1 := Since.cell c1
            have y_c2 := Since.cell c2
            have y_c3 := Since.cell c3
            have y_c4 := Since.cell c4
            have y_c5 := Since.cell c5
            clear c0 c1 c2 c3 c4 c5
            repeat (go_big_quiet_step ((fail)))
            refine wpQuiet_nil ?_
            rintro W ⟨⟨_, hb⟩, rfl⟩
            try dsimp only at hb ⊢
            clear y_c0 y_c1 y_c2 y_c3 y_c4 y_c5
            replace hk := hk.below hb hk.lt
            replace hL := hL.below (hb.mono (by omega))
            replace hO := hO.below hb
            replace hSl := (hSl.below hb).more hb.size
            replace hz := Nat.le_trans hz hb.size
            replace hB := hB.trans (hb.mono hB.size)
            clear hb
            have c0 := hk.cell_ 0 rfl
            have c1 := hk.cell_ 1 rfl
            have c2 := hk.cell_ 2 rfl
            have c3 := hk.cell_ 3 rfl
            have c4 := hk.cell_ 4 rfl
            have c5 := hk.cell_ 5 rfl
            go_wp2_with fail
            have HI : Hid (insA a M = M.take (0) ++ a :: M.drop (0)) := insA_at hasc.out (by omega) HG.out (fun r b hr hb => by omega)
            clear d0 d1 hb0
            obtain ⟨b', off', hA', hb0, d0, d1⟩ := hL.at2 HA.out (v0 := .int .i64 a.j) (v1 := .int .i64 a.k) rfl
            obtain ⟨rfl, rfl⟩ : b = b' ∧ off = off' := by simpa using hA'
            clear hA'
            have hsl1 : ∀ w, (Instr.sliceAt 54 (.slice AO M.length cO) none (some (.int .i64 0)) (some (.int .i64 0))).run Try.prog w = .ok (.slice AO (0) (0)) w := by
              have h := run_slice_upto et_pair AO M.length cO (0) (by omega)
              simpa using h
            have hsl2 : ∀ w, (Instr.sliceAt 54 (.slice AO M.length cO) (some (.int .i64 0)) none none).run Try.prog w = .ok (.slice (dropA AO cO (0) 2) (M.length - (0)) (cO - (0))) w := by
              have h := run_slice_from et_pair AO M.length cO (0) (by omega)
              simpa using h
            have hb1 : Below W.heap.size W (W.alloc (.cells #[.int .i64 a.j, .int .i64 a.k] 77)).drew := ((Below.refl _ W).alloc (Nat.le_refl _) _).drew
            have HS1 : Hid (Slc AP 2 (W.alloc (.cells #[.int .i64 a.j, .int .i64 a.k] 77)).drew (W.alloc (.cells #[.int .i64 a.j, .int .i64 a.k] 77)).drew.heap.size (some ⟨W.heap.size, 0, none⟩) [a]) := Blk.slc1 (Blk.new W 77 #[.int .i64 a.j, .int .i64 a.k]).drew rfl
            have HS2 : Hid (Slc AP 2 (W.alloc (.cells #[.int .i64 a.j, .int .i64 a.k] 77)).drew W.heap.size (dropA AO cO (0) 2) (M.drop (0))) := (hSl.dropA_ hle).below hb1
            have HS3 : Hid (Slc AP 2 (W.alloc (.cells #[.int .i64 a.j, .int .i64 a.k] 77)).drew W.heap.size AO (M.take (0))) := (hSl.take_ (0)).below hb1
            have hkl : 0 ≤ M.length := by omega
            have hml9 : M.length ≤ 96 := by omega
            have c0 := hk.cell_ 0 rfl
            have c1 := hk.cell_ 1 rfl
            have c2 := hk.cell_ 2 rfl
            have c3 := hk.cell_ 3 rfl
            have c4 := hk.cell_ 4 rfl
            have c5 := hk.cell_ 5 rfl
            go_region_law (first | (refine step_app_full _ _ rfl rfl et_pair (xs := [a]) (ys := M.drop (0)) rfl rfl HS1.out rfl HS2.out (by simp) (Nat.le_refl _) ap_len ap_one (by omega) ?_; intro A1 cA w1 hb2 hS4 hcA hO4) | (refine step_app_full _ _ rfl rfl et_pair (xs := M.take (0)) (ys := [a] ++ M.drop (0)) rfl rfl (HS3.out.below (hb2.mono hb1.size)) (by simp <;> omega) hS4 (by simp <;> omega) (Nat.le_trans hb1.size hb2.size) ap_len ap_one (by omega) ?_; intro A2 cB w2 hb3 hS5 hcB hO5; have hbW : Below W.heap.size W w2 := (hb1.trans (hb2.mono hb1.size)).trans (hb3.mono (Nat.le_trans hb1.size hb2.size)); clear d0 d1 c0 c1 c2 c3 c4 c5))
            replace hk := hk.below hbW hk.lt
            replace hL := hL.below (hbW.mono hz)
            have hO2 := (hO5 (by simp)).mono_base (b' := base) (Nat.le_trans hz (Nat.le_trans hb1.size hb2.size))
            have HX : Hid (M.take (0) ++ ([a] ++ M.drop (0)) = sortA (onM (L.take (i + 1)) mc)) := by show _ = _; rw [HM.out, HI.out]; rfl
            rw [HX.out] at hO2
            try simp only [Nat.zero_add] at hO2
            replace hz := Nat.le_trans hz hbW.size
            replace hB := hB.trans (hbW.mono hB.size)
            go_wp2_with fail
            go_roundw
            case rel => exact ⟨i + 1, by go_num, by omega, hk, hL, hO2, hz, hB⟩
            case measure => simp [intOf]; omega
      · have HM := hide (onM_no ha hmm)
        have hmb : (a.x.m != mc) = true := by simpa using hmm
        clear hmm
        obtain ⟨b, off, hA, hb0, d0, d1⟩ := hL.at2 ha (v0 := .int .i64 a.j) (v1 := .int .i64 a.k) rfl
        have hok := HOK.out a (List.mem_of_getElem? ha)
        obtain ⟨st, hj, hx⟩ := hok.job
        obtain ⟨l, t, hpl, hlt0, hpt, _⟩ := hp.start hj hx
        have hlt' : l[a.k]? = some a.t := by rw [hok.start, hpt]; exact hlt0
        obtain ⟨bp, offp, Ap, cp, hAp, hbp, hcp, hSp⟩ := plan_at (hP.on hB) hpl
        obtain ⟨bt, offt, hAt, hbt, hct⟩ := int_at hSp hlt'
        have o1 := hok.t0
        have o2 := hok.t1
        have o3 := hok.mi0
        have o4 := hok.mi1
        have o5 := hok.d0
        have o6 := hok.d1
        have i1 : (i : Int) < (L.length : Int) := by omega
        have i2 : (a.j : Int) < (pl.length : Int) := by have := (List.getElem?_eq_some_iff.1 hpl).1; omega
        have i3 : (a.k : Int) < (l.length : Int) := by have := (List.getElem?_eq_some_iff.1 hlt').1; omega
        have HJX := hide (And.intro hj hx)
        have HPL := hide (And.intro hpl hlt')
        have HA := hide ha
        clear ha hok hj hx hpl hlt0 hpt hlt'
        subst hA hAp hAt
        have HSW := hS.on hB
        have fs0 := fstep0
        have c0 := hk.cell_ 0 rfl
        have c1 := hk.cell_ 1 rfl
        have c2 := hk.cell_ 2 rfl
        have c3 := hk.cell_ 3 rfl
        have c4 := hk.cell_ 4 rfl
        have c5 := hk.cell_ 5 rfl
        go_wp2_with fail
        refine wp_region_quiet (C := fun w' => ∃ u : Since W, w' = u.w) (by kernel_rfl) (by kernel_rfl) (Since.start W) ?_
        dsimp only
        have y_c0 := Since.cell c0
        have y_c1 := Since.cell c1
        have y_c2 := Since.cell c2
        have y_c3 := Since.cell c3
        have y_c4 := Since.cell c4
        have y_c5 := Since.cell c5
        have y_d0 := Since.cell d0
        have y_d1 := Since.cell d1
        clear c0 c1 c2 c3 c4 c5
        repeat (go_big_quiet_step ((go_at_call 59; exact Since.calls (at_any s a.j a.k st a.x _ (HSW.on (Since.h _)) HJX.out.1 HJX.out.2))))
        refine wpQuiet_nil ?_
        rintro W ⟨⟨_, hb⟩, rfl⟩
        try dsimp only at hb ⊢
        replace d0 : W.cell? _ = _ := y_d0 ⟨W, hb⟩
        replace d1 : W.cell? _ = _ := y_d1 ⟨W, hb⟩
        clear y_c0 y_c1 y_c2 y_c3 y_c4 y_c5 y_d0 y_d1
        replace hk := hk.below hb hk.lt
        replace hL := hL.below (hb.mono (by omega))
        replace hO := hO.below hb
        replace hz := Nat.le_trans hz hb.size
        replace hB := hB.trans (hb.mono hB.size)
        clear hb
        have c0 := hk.cell_ 0 rfl
        have c1 := hk.cell_ 1 rfl
        have c2 := hk.cell_ 2 rfl
        have c3 := hk.cell_ 3 rfl
        have c4 := hk.cell_ 4 rfl
        have c5 := hk.cell_ 5 rfl
        rw [← HM.out] at hO
        go_wp2_with fail
        go_roundw
        case rel => exact ⟨i + 1, by go_num, by omega, hk, hL, hO, hz, hB⟩
        case measure => simp [intOf]; omega
    · obtain rfl : i = L.length := by omega
      rw [List.take_length] at hO
      obtain ⟨A', c', hv', hSl⟩ := hO.form fun _ => rfl
      subst hv'
      have HGE := hide (fun b off (h : A' = some ⟨b, off, none⟩) => Nat.le_trans hwb (hO.ge b off h))
      have c0 := hk.cell_ 0 rfl
      have c1 := hk.cell_ 1 rfl
      have c2 := hk.cell_ 2 rfl
      have c3 := hk.cell_ 3 rfl
      have c4 := hk.cell_ 4 rfl
      have c5 := hk.cell_ 5 rfl
      go_wp2_with fail
      go_ret
      exact ⟨A', c', by rw [HL.out]; rfl, hB, by rw [HL.out]; exact hSl, HGE.out⟩
theorem refOrder_any (s : Sh) (A : Option Addr) (c : Nat) (pl : List (List Int)) (mc : Int) (w : World) (hS : ShAt w w.heap.size s) (hv : VShop s.p) (hP : Plan w w.heap.size A pl) (hp : VPlan s.p pl) :
    Calls Try.prog 43 #[.agg #[.int .i64 s.p.op, .int .i64 s.p.cl, .slice s.aH s.p.hol.length s.cH, .int .i64 s.p.mach, .slice s.aS s.p.setup.length s.cS, .slice s.aJ s.p.jobs.length s.cJ], .slice A pl.length c, .int .i64 mc] w fun e w' => ∃ A' c', e = .returned (.slice A' (sortA (onM (ats s.p pl) mc)).length c') ∧ Below w.heap.size w w' ∧ Slc AP 2 w' w'.heap.size A' (sortA (onM (ats s.p pl) mc)) :=
  (refOrder_new s A c pl mc w hS hv hP hp).mono fun _ _ ⟨A', c', h1, h2, h3, _⟩ => ⟨A', c', h1, h2, h3⟩
end Go.Proofs.Ytcpnfcnobnjhdaa
