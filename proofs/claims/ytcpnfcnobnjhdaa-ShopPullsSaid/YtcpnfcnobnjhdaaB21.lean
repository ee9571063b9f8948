/- Parts of the proofs of this seat: RefOrder, PullP, ShopOrders. Each part says what it proves; no condition beyond those stated there. -/
import Derived.Deep.DeepCutAuto
import Derived.Deep.RegionLaw
import Derived.Test.YtcpnfcnobnjhdaaB5
import Derived.Test.YtcpnfcnobnjhdaaB16
import Derived.Test.YtcpnfcnobnjhdaaB19
import Derived.Test.YtcpnfcnobnjhdaaB20

/- The reference's Order: the walk. -/
namespace Go.Proofs.Ytcpnfcnobnjhdaa
open Go.RowKit
/-- the steps of one machine -/
noncomputable def onM (L : List At) (mc : Int) : List At := L.filter fun a => decide (a.x.m = mc)
theorem onM_yes {L : List At} {mc : Int} {i : Nat} {a : At} (h : L[i]? = some a) (hm : a.x.m = mc) : sortA (onM (L.take (i + 1)) mc) = insA a (sortA (onM (L.take i) mc)) := by
  unfold onM
  rw [filter_snoc h, if_pos (decide_eq_true hm), sortA_snoc]
theorem onM_no {L : List At} {mc : Int} {i : Nat} {a : At} (h : L[i]? = some a) (hm : ¬ a.x.m = mc) : sortA (onM (L.take (i + 1)) mc) = sortA (onM (L.take i) mc) := by
  unfold onM
  rw [filter_snoc h, if_neg (by simpa using hm)]
theorem onM_mem {L : List At} {mc : Int} {i : Nat} {a : At} (h : a ∈ sortA (onM (L.take i) mc)) : a ∈ L := by
  have h1 := (sortA_perm _).mem_iff.1 h
  exact List.mem_of_mem_take (List.mem_filter.1 h1).1
theorem onM_len (L : List At) (mc : Int) (i : Nat) : (sortA (onM (L.take i) mc)).length ≤ L.length := by
  rw [(sortA_perm _).length_eq]
  refine Nat.le_trans (List.length_filter_le _ _) ?_
  rw [List.length_take]; omega
theorem ap_len (x : At) : (AP x).length = 2 := rfl
theorem ap_one (x : At) : ∀ u ∈ AP x, u.oneCell' = true := fun u hu => by
  simp only [AP, List.mem_cons, List.not_mem_nil, or_false] at hu
  rcases hu with rfl | rfl <;> rfl
/- region 10 at k = $1, where k is spelled $3, out's address $4 -/
set_option maxRecDepth 100000 in
set_option maxHeartbeats 2000000 in
theorem refOrder_new (s : Sh) (A : Option Addr) (c : Nat) (pl : List (List Int)) (mc : Int) (w : World) (hS : ShAt w w.heap.size s) (hv : VShop s.p) (hP : Plan w w.heap.size A pl) (hp : VPlan s.p pl) :
    Calls Try.prog 43 #[.agg #[.int .i64 s.p.op, .int .i64 s.p.cl, .slice s.aH s.p.hol.length s.cH, .int .i64 s.p.mach, .slice s.aS s.p.setup.length s.cS, .slice s.aJ s.p.jobs.length s.cJ], .slice A pl.length c, .int .i64 mc] w fun e w' => ∃ A' c', e = .returned (.slice A' (sortA (onM (ats s.p pl) mc)).length c') ∧ Below w.heap.size w w' ∧ Slc AP 2 w' w'.heap.size A' (sortA (onM (ats s.p pl) mc)) ∧ ∀ b off, A' = some ⟨b, off, none⟩ → w.heap.size ≤ b := by
  have hen := ents_len hv
  have v1 := hv.op0
  have v3 := hv.cl
  have hal := ats_len s.p pl
  have hal2 : (ats s.p pl).length ≤ 96 := by omega
  have HOK := hide (fun (a : At) (h : a ∈ ats s.p pl) => ats_ok hv hp h)
  have hk := Blk.new w 25 #[.int .i64 s.p.op, .int .i64 s.p.cl, .slice s.aH s.p.hol.length s.cH, .int .i64 s.p.mach, .slice s.aS s.p.setup.length s.cS, .slice s.aJ s.p.jobs.length s.cJ]
  have hB := (Below.refl w.heap.size w).alloc (Nat.le_refl _) (.cells #[.int .i64 s.p.op, .int .i64 s.p.cl, .slice s.aH s.p.hol.length s.cH, .int .i64 s.p.mach, .slice s.aS s.p.setup.length s.cS, .slice s.aJ s.p.jobs.length s.cJ] 25)
  go_enter Try.func43, Try.ntmps43
  go_wp2_with fail
  generalize w.alloc (.cells #[.int .i64 s.p.op, .int .i64 s.p.cl, .slice s.aH s.p.hol.length s.cH, .int .i64 s.p.mach, .slice s.aS s.p.setup.length s.cS, .slice s.aJ s.p.jobs.length s.cJ] 25) = W at *
  have c0 := hk.cell_ 0 rfl
  have c1 := hk.cell_ 1 rfl
  have c2 := hk.cell_ 2 rfl
  have c3 := hk.cell_ 3 rfl
  have c4 := hk.cell_ 4 rfl
  have c5 := hk.cell_ 5 rfl
  go_wp2_with fail
  refine (refList_any s _ (hS.on hB) hv).mono ?_
  rintro e W ⟨AL, cL, rfl, hb, hL0⟩
  clear c0 c1 c2 c3 c4 c5
  replace hk := hk.below hb hk.lt
  replace hB := hB.trans (hb.mono hB.size)
  clear hb
  have c0 := hk.cell_ 0 rfl
  have c1 := hk.cell_ 1 rfl
  have c2 := hk.cell_ 2 rfl
  have c3 := hk.cell_ 3 rfl
  have c4 := hk.cell_ 4 rfl
  have c5 := hk.cell_ 5 rfl
  have hL : Slc AP 2 W W.heap.size AL (ats s.p pl) := slc_map hL0
  rw [← hal]
  clear hL0 hal hen
  generalize hLd : ats s.p pl = L at *
  have HL := hide hLd
  clear hLd
  obtain ⟨base, hbase⟩ : ∃ n, n = W.heap.size := ⟨_, rfl⟩
  have hwb : w.heap.size ≤ base := by rw [hbase]; exact hB.size
  rw [← hbase] at hL
  have hO : Own W base 77 2 AP (.slice none 0 0) (sortA (onM (L.take 0) mc)) := Own.nil_
  have hz : base ≤ W.heap.size := Nat.le_of_eq hbase
  clear hbase
  clear c0 c1 c2 c3 c4 c5
  go_wp2_with fail
  go_loopw [7, 9] (fun v y W => ∃ i : Nat, y = .int .i64 i ∧ i ≤ L.length ∧ Blk W w.heap.size 25 #[.int .i64 s.p.op, .int .i64 s.p.cl, .slice s.aH s.p.hol.length s.cH, .int .i64 s.p.mach, .slice s.aS s.p.setup.length s.cS, .slice s.aJ s.p.jobs.length s.cJ] ∧ Slc AP 2 W base AL L ∧ Own W base 77 2 AP v (sortA (onM (L.take i) mc)) ∧ base ≤ W.heap.size ∧ Below w.heap.size w W) (fun v y _ => L.length - (intOf y).toNat)
  case atStart => exact ⟨0, rfl, Nat.zero_le _, hk, hL, hO, hz, hB⟩
  case round =>
    clear hk hB hL hO hz
    obtain ⟨W, rfl⟩ : ∃ W : World, W = wr := ⟨_, rfl⟩
    obtain ⟨i, rfl, hi, hk, hL, hO, hz, hB⟩ := hrel
    by_cases hlt : i < L.length
    · obtain ⟨a, ha⟩ : ∃ a, L[i]? = some a := ⟨_, List.getElem?_eq_getElem hlt⟩
      by_cases hmm : a.x.m = mc
      · have HM := hide (onM_yes ha hmm)
        have hmb : (a.x.m != mc) = false := by simpa using hmm
        clear hmm
        obtain ⟨b, off, hA, hb0, d0, d1⟩ := hL.at2 ha (v0 := .int .i64 a.j) (v1 := .int .i64 a.k) rfl
        have hok := HOK.out a (List.mem_of_getElem? ha)
        obtain ⟨st, hj, hx⟩ := hok.job
        obtain ⟨l, t, hpl, hlt0, hpt, _⟩ := hp.start hj hx
        have hlt' : l[a.k]? = some a.t := by rw [hok.start, hpt]; exact hlt0
        obtain ⟨bp, offp, Ap, cp, hAp, hbp, hcp, hSp⟩ := plan_at (hP.on hB) hpl
        obtain ⟨bt, offt, hAt, hbt, hct⟩ := int_at hSp hlt'
        have o1 := hok.t0
        have o2 := hok.t1
        have o3 := hok.mi0
        have o4 := hok.mi1
        have o5 := hok.d0
        have o6 := hok.d1
        have i1 : (i : Int) < (L.length : Int) := by omega
        have i2 : (a.j : Int) < (pl.length : Int) := by have := (List.getElem?_eq_some_iff.1 hpl).1; omega
        have i3 : (a.k : Int) < (l.length : Int) := by have := (List.getElem?_eq_some_iff.1 hlt').1; omega
        have HJX := hide (And.intro hj hx)
        have HPL := hide (And.intro hpl hlt')
        have HA := hide ha
        clear ha hok hj hx hpl hlt0 hpt hlt'
        subst hA hAp hAt
        have HSW := hS.on hB
        have fs0 := fstep0
        have c0 := hk.cell_ 0 rfl
        have c1 := hk.cell_ 1 rfl
        have c2 := hk.cell_ 2 rfl
        have c3 := hk.cell_ 3 rfl
        have c4 := hk.cell_ 4 rfl
        have c5 := hk.cell_ 5 rfl
        go_wp2_with fail
        refine wp_region_quiet (C := fun w' => ∃ u : Since W, w' = u.w) (by kernel_rfl) (by kernel_rfl) (Since.start W) ?_
        dsimp only
        have y_c0 := Since.cell c0
        have y_c1 := Since.cell c1
        have y_c2 := Since.cell c2
        have y_c3 := Since.cell c3
        have y_c4 := Since.cell c4
        have y_c5 := Since.cell c5
        have y_d0 := Since.cell d0
        have y_d1 := Since.cell d1
        clear c0 c1 c2 c3 c4 c5
        repeat (go_big_quiet_step ((go_at_call 59; exact Since.calls (at_any s a.j a.k st a.x _ (HSW.on (Since.h _)) HJX.out.1 HJX.out.2))))
        refine wpQuiet_nil ?_
        rintro W ⟨⟨_, hb⟩, rfl⟩
        try dsimp only at hb ⊢
        replace d0 : W.cell? _ = _ := y_d0 ⟨W, hb⟩
        replace d1 : W.cell? _ = _ := y_d1 ⟨W, hb⟩
        clear y_c0 y_c1 y_c2 y_c3 y_c4 y_c5 y_d0 y_d1
        replace hk := hk.below hb hk.lt
        replace hL := hL.below (hb.mono (by omega))
        replace hO := hO.below hb
        replace hz := Nat.le_trans hz hb.size
        replace hB := hB.trans (hb.mono hB.size)
        clear hb
        have c0 := hk.cell_ 0 rfl
        have c1 := hk.cell_ 1 rfl
        have c2 := hk.cell_ 2 rfl
        have c3 := hk.cell_ 3 rfl
        have c4 := hk.cell_ 4 rfl
        have c5 := hk.cell_ 5 rfl
        have hml := onM_len L mc i
        have hmem := hide (fun (b : At) (h : b ∈ sortA (onM (L.take i) mc)) => HOK.out b (onM_mem h))
        have hasc := hide (sortA_asc (onM (L.take i) mc))
        generalize sortA (onM (L.take i) mc) = M at *
        obtain ⟨AO, cO, hv', hle, hSl⟩ := hO.form2 fun _ => rfl
        subst hv'
        go_wp2_with fail
        clear c0 c1 c2 c3 c4 c5
        go_loopw [10] (fun z W => ∃ k : Nat, z = .int .i64 k ∧ k ≤ M.length ∧ Hid (∀ (q : Nat) (b : At), k ≤ q → M[q]? = some b → a.t < b.t) ∧ Blk W w.heap.size 25 #[.int .i64 s.p.op, .int .i64 s.p.cl, .slice s.aH s.p.hol.length s.cH, .int .i64 s.p.mach, .slice s.aS s.p.setup.length s.cS, .slice s.aJ s.p.jobs.length s.cJ] ∧ Slc AP 2 W base (some ⟨b, off, none⟩) L ∧ Own W base 77 2 AP (.slice AO M.length cO) M ∧ Slc AP 2 W W.heap.size AO M ∧ base ≤ W.heap.size ∧ Below w.heap.size w W) (fun z _ => (intOf z).toNat)
        case atStart => exact ⟨M.length, rfl, Nat.le_refl _, hide (fun q b hq hb => by have := (List.getElem?_eq_some_iff.1 hb).1; omega), hk, hL, hO, hSl, hz, hB⟩
        case round =>
          clear hk hB hL hO hSl hz
          obtain ⟨W, rfl⟩ : ∃ W : World, W = wr := ⟨_, rfl⟩
          obtain ⟨k, rfl, hk2, HG, hk, hL, hO, hSl, hz, hB⟩ := hrel
          obtain ⟨lp, tp, hlp⟩ : ∃ l : List Int, ∃ t : Int, pl[a.j]? = some l ∧ l[a.k]? = some t ∧ t = a.t := ⟨_, _, HPL.out.1, HPL.out.2, rfl⟩
          by_cases hk0 : 0 < k
          · obtain ⟨q, rfl⟩ : ∃ q, k = q + 1 := ⟨k - 1, by omega⟩
            obtain ⟨e, he⟩ : ∃ e, M[q]? = some e := ⟨_, List.getElem?_eq_getElem (by omega)⟩
            clear d0 d1 hcp hct hbp hbt hb0
            obtain ⟨b', off', hA', hb0, d0, d1⟩ := hL.at2 HA.out (v0 := .int .i64 a.j) (v1 := .int .i64 a.k) rfl
            obtain ⟨bp', offp', Ap', cp', hAp', hbp, hcp, hSp'⟩ := plan_at (hP.on hB) HPL.out.1
            obtain ⟨bt', offt', hAt', hbt, hct⟩ := int_at hSp' HPL.out.2
            obtain ⟨b2, off2, hA2, hb2, d2, d3⟩ := hSl.at2 he (v0 := .int .i64 e.j) (v1 := .int .i64 e.k) rfl
            have hok2 := hmem.out e (List.mem_of_getElem? he)
            obtain ⟨st2, hj2, hx2⟩ := hok2.job
            obtain ⟨l2, t2, hpl2, hlt2, hpt2, _⟩ := hp.start hj2 hx2
            have hlt2' : l2[e.k]? = some e.t := by rw [hok2.start, hpt2]; exact hlt2
            obtain ⟨bp2, offp2, Ap2, cp2, hAp2, hbp2, hcp2, hSp2⟩ := plan_at (hP.on hB) hpl2
            obtain ⟨bt2, offt2, hAt2, hbt2, hct2⟩ := int_at hSp2 hlt2'
            have q1 := hok2.t0
            have q2 := hok2.t1
            have i4 : (q : Int) < (M.length : Int) := by omega
            have i5 : (e.j : Int) < (pl.length : Int) := by have := (List.getElem?_eq_some_iff.1 hpl2).1; omega
            have i6 : (e.k : Int) < (l2.length : Int) := by have := (List.getElem?_eq_some_iff.1 hlt2').1; omega
            have HE := hide he
            clear he hok2 hj2 hx2 hpl2 hlt2 hpt2 hlt2'
            obtain ⟨rfl, rfl⟩ : b = b' ∧ off = off' := by simpa using hA'
            obtain ⟨rfl, rfl⟩ : bp = bp' ∧ offp = offp' := by simpa using hAp'
            obtain ⟨rfl, rfl⟩ : bp = bp2 ∧ offp = offp2 := by simpa using hAp2
            clear hA' hAp' hAp2
            subst hAt' hAt2 hA2
            have e1 : IntKind.i64.wrap (((q + 1 : Nat) : Int) - 1) = (q : Int) := by rw [IntWalk.i64_in _ (by omega)]; omega
            have hgt : (0 : Int) < ((q + 1 : Nat) : Int) := by omega
            have c0 := hk.cell_ 0 rfl
            have c1 := hk.cell_ 1 rfl
            have c2 := hk.cell_ 2 rfl
            have c3 := hk.cell_ 3 rfl
            have c4 := hk.cell_ 4 rfl
            have c5 := hk.cell_ 5 rfl
            by_cases hte : a.t < e.t
            · go_wp2_with fail
              refine wp_region_quiet (C := fun w' => ∃ u : Since W, w' = u.w) (by kernel_rfl) (by kernel_rfl) (Since.start W) ?_
              dsimp only
              have y_c0 := Since.cell c0
              have y_c1 := Since.cell c1
              have y_c2 := Since.cell c2
              have y_c3 := Since.cell c3
              have y_c4 := Since.cell c4
              have y_c5 := Since.cell c5
              have y_d0 := Since.cell d0
              have y_d1 := Since.cell d1
              have y_d2 := Since.cell d2
              have y_d3 := Since.cell d3
              have y_hcp := Since.cell hcp
              have y_hct := Since.cell hct
              have y_hcp2 := Since.cell hcp2
              have y_hct2 := Since.cell hct2
              clear c0 c1 c2 c3 c4 c5
              repeat (go_big_quiet_step ((fail)))
              refine wpQuiet_nil ?_
              rintro W ⟨⟨_, hb⟩, rfl⟩
              try dsimp only at hb ⊢
              replace d0 : W.cell? _ = _ := y_d0 ⟨W, hb⟩
              replace d1 : W.cell? _ = _ := y_d1 ⟨W, hb⟩
              replace d2 : W.cell? _ = _ := y_d2 ⟨W, hb⟩
              replace d3 : W.cell? _ = _ := y_d3 ⟨W, hb⟩
              replace hcp : W.cell? _ = _ := y_hcp ⟨W, hb⟩
              replace hct : W.cell? _ = _ := y_hct ⟨W, hb⟩
              replace hcp2 : W.cell? _ = _ := y_hcp2 ⟨W, hb⟩
              replace hct2 : W.cell? _ = _ := y_hct2 ⟨W, hb⟩
              clear y_c0 y_c1 y_c2 y_c3 y_c4 y_c5 y_d0 y_d1 y_d2 y_d3 y_hcp y_hct y_hcp2 y_hct2
              replace hk := hk.below hb hk.lt
              replace hL := hL.below (hb.mono (by omega))
              replace hO := hO.below hb
              replace hSl := (hSl.below hb).more hb.size
              replace hz := Nat.le_trans hz hb.size
              replace hB := hB.trans (hb.mono hB.size)
              clear hb
              have c0 := hk.cell_ 0 rfl
              have c1 := hk.cell_ 1 rfl
              have c2 := hk.cell_ 2 rfl
              have c3 := hk.cell_ 3 rfl
              have c4 := hk.cell_ 4 rfl
              have c5 := hk.cell_ 5 rfl
              have HG2 : Hid (∀ (r : Nat) (b : At), q ≤ r → M[r]? = some b → a.t < b.t) := fun r b hr hb => by
                by_cases h : r = q
                · subst h
                  have h2 := HE.out
                  rw [hb] at h2
                  cases h2
                  exact hte
                · exact HG.out r b (by omega) hb
              go_wp2_with fail
              go_roundw
              case rel => exact ⟨q, by go_num, by omega, HG2, hk, hL, hO, hSl, hz, hB⟩
              case measure => simp [intOf]
            · replace hte : e.t ≤ a.t := by omega
              go_wp2_with fail
              refine wp_region_quiet (C := fun w' => ∃ u : Since W, w' = u.w) (by kernel_rfl) (by kernel_rfl) (Since.start W) ?_
              dsimp only
              have y_c0 := Since.cell c0
              have y_c1 := Since.cell c1
              have y_c2 := Since.cell c2
              have y_c3 := Since.cell c3
              have y_c4 := Since.cell c4
              have y_c5 := Since.cell c5
              have y_d0 := Since.cell d0
              have y_d1 := Since.cell d1
              have y_d2 := Since.cell d2
              have y_d3 := Since.cell d3
              have y_hcp := Since.cell hcp
              have y_hct := Since.cell hct
              have y_hcp2 := Since.cell hcp2
              have y_hct2 := Since.cell hct2
              clear c0 c1 c2 c3 c4 c5
              repeat (go_big_quiet_step ((fail)))
              refine wpQuiet_nil ?_
              rintro W ⟨⟨_, hb⟩, rfl⟩
              try dsimp only at hb ⊢
              replace d0 : W.cell? _ = _ := y_d0 ⟨W, hb⟩
              replace d1 : W.cell? _ = _ := y_d1 ⟨W, hb⟩
              replace d2 : W.cell? _ = _ := y_d2 ⟨W, hb⟩
              replace d3 : W.cell? _ = _ := y_d3 ⟨W, hb⟩
              replace hcp : W.cell? _ = _ := y_hcp ⟨W, hb⟩
              replace hct : W.cell? _ = _ := y_hct ⟨W, hb⟩
              replace hcp2 : W.cell? _ = _ := y_hcp2 ⟨W, hb⟩
              replace hct2 : W.cell? _ = _ := y_hct2 ⟨W, hb⟩
              clear y_c0 y_c1 y_c2 y_c3 y_c4 y_c5 y_d0 y_d1 y_d2 y_d3 y_hcp y_hct y_hcp2 y_hct2
              replace hk := hk.below hb hk.lt
              replace hL := hL.below (hb.mono (by omega))
              replace hO := hO.below hb
              replace hSl := (hSl.below hb).more hb.size
              replace hz := Nat.le_trans hz hb.size
              replace hB := hB.trans (hb.mono hB.size)
              clear hb
              have c0 := hk.cell_ 0 rfl
              have c1 := hk.cell_ 1 rfl
              have c2 := hk.cell_ 2 rfl
              have c3 := hk.cell_ 3 rfl
              have c4 := hk.cell_ 4 rfl
              have c5 := hk.cell_ 5 rfl
              go_wp2_with fail
              have HI : Hid (insA a M = M.take (q + 1) ++ a :: M.drop (q + 1)) := insA_at hasc.out (by omega) HG.out (fun r b hr hb => by obtain rfl : r = q := (by omega); have h2 := HE.out; rw [hb] at h2; injection h2 with h2; rw [h2]; exact hte)
              clear d0 d1 hb0
              obtain ⟨b', off', hA', hb0, d0, d1⟩ := hL.at2 HA.out (v0 := .int .i64 a.j) (v1 := .int .i64 a.k) rfl
              obtain ⟨rfl, rfl⟩ : b = b' ∧ off = off' := by simpa using hA'
              clear hA'
              have hsl1 : ∀ w, (Instr.sliceAt 54 (.slice (some ⟨b2, off2, none⟩) M.length cO) none (some (.int .i64 ((q : Int) + 1))) (some (.int .i64 ((q : Int) + 1)))).run Try.prog w = .ok (.slice (some ⟨b2, off2, none⟩) (q + 1) (q + 1)) w := by
                have h := run_slice_upto et_pair (some ⟨b2, off2, none⟩) M.length cO (q + 1) (by omega)
                simpa using h
              have hsl2 : ∀ w, (Instr.sliceAt 54 (.slice (some ⟨b2, off2, none⟩) M.length cO) (some (.int .i64 ((q : Int) + 1))) none none).run Try.prog w = .ok (.slice (dropA (some ⟨b2, off2, none⟩) cO (q + 1) 2) (M.length - (q + 1)) (cO - (q + 1))) w := by
                have h := run_slice_from et_pair (some ⟨b2, off2, none⟩) M.length cO (q + 1) (by omega)
                simpa using h
              have hb1 : Below W.heap.size W (W.alloc (.cells #[.int .i64 a.j, .int .i64 a.k] 77)).drew := ((Below.refl _ W).alloc (Nat.le_refl _) _).drew
              have HS1 : Hid (Slc AP 2 (W.alloc (.cells #[.int .i64 a.j, .int .i64 a.k] 77)).drew (W.alloc (.cells #[.int .i64 a.j, .int .i64 a.k] 77)).drew.heap.size (some ⟨W.heap.size, 0, none⟩) [a]) := Blk.slc1 (Blk.new W 77 #[.int .i64 a.j, .int .i64 a.k]).drew rfl
              have HS2 : Hid (Slc AP 2 (W.alloc (.cells #[.int .i64 a.j, .int .i64 a.k] 77)).drew W.heap.size (dropA (some ⟨b2, off2, none⟩) cO (q + 1) 2) (M.drop (q + 1))) := (hSl.dropA_ hle).below hb1
              have HS3 : Hid (Slc AP 2 (W.alloc (.cells #[.int .i64 a.j, .int .i64 a.k] 77)).drew W.heap.size (some ⟨b2, off2, none⟩) (M.take (q + 1))) := (hSl.take_ (q + 1)).below hb1
              have hkl : q + 1 ≤ M.length := by omega
              have hml9 : M.length ≤ 96 := by omega
              have c0 := hk.cell_ 0 rfl
              have c1 := hk.cell_ 1 rfl
              have c2 := hk.cell_ 2 rfl
              have c3 := hk.cell_ 3 rfl
              have c4 := hk.cell_ 4 rfl
              have c5 := hk.cell_ 5 rfl
              go_region_law (first | (refine step_app_full _ _ rfl rfl et_pair (xs := [a]) (ys := M.drop (q + 1)) rfl rfl HS1.out rfl HS2.out (by simp) (Nat.le_refl _) ap_len ap_one (by omega) ?_; intro A1 cA w1 hb2 hS4 hcA hO4) | (refine step_app_full _ _ rfl rfl et_pair (xs := M.take (q + 1)) (ys := [a] ++ M.drop (q + 1)) rfl rfl (HS3.out.below (hb2.mono hb1.size)) (by simp <;> omega) hS4 (by simp <;> omega) (Nat.le_trans hb1.size hb2.size) ap_len ap_one (by omega) ?_; intro A2 cB w2 hb3 hS5 hcB hO5; have hbW : Below W.heap.size W w2 := (hb1.trans (hb2.mono hb1.size)).trans (hb3.mono (Nat.le_trans hb1.size hb2.size)); clear d0 d1 c0 c1 c2 c3 c4 c5))
              replace hk := hk.below hbW hk.lt
              replace hL := hL.below (hbW.mono hz)
              have hO2 := (hO5 (by simp)).mono_base (b' := base) (Nat.le_trans hz (Nat.le_trans hb1.size hb2.size))
              have HX : Hid (M.take (q + 1) ++ ([a] ++ M.drop (q + 1)) = sortA (onM (L.take (i + 1)) mc)) := by show _ = _; rw [HM.out, HI.out]; rfl
              rw [HX.out] at hO2
              try simp only [Nat.zero_add] at hO2
              replace hz := Nat.le_trans hz hbW.size
              replace hB := hB.trans (hbW.mono hB.size)
              go_wp2_with fail
              go_roundw
              case rel => exact ⟨i + 1, by go_num, by omega, hk, hL, hO2, hz, hB⟩
              case measure => simp [intOf]; omega
          · obtain rfl : k = 0 := by omega
            have c0 := hk.cell_ 0 rfl
            have c1 := hk.cell_ 1 rfl
            have c2 := hk.cell_ 2 rfl
            have c3 := hk.cell_ 3 rfl
            have c4 := hk.cell_ 4 rfl
            have c5 := hk.cell_ 5 rfl
            go_wp2_with fail
            refine wp_region_quiet (C := fun w' => ∃ u : Since W, w' = u.w) (by kernel_rfl) (by kernel_rfl) (Since.start W) ?_
            dsimp only
            have y_c0 := Since.cell c0
            have y_c1 := Since.cell c1
            have y_c2 := Since.cell c2
            have y_c3 := Since.cell c3
            have y_c4 := Since.cell c4
            have y_c5 := Since.cell c5
            clear c0 c1 c2 c3 c4 c5
            repeat (go_big_quiet_step ((fail)))
            refine wpQuiet_nil ?_
            rintro W ⟨⟨_, hb⟩, rfl⟩
            try dsimp only at hb ⊢
            clear y_c0 y_c1 y_c2 y_c3 y_c4 y_c5
            replace hk := hk.below hb hk.lt
            replace hL := hL.below (hb.mono (by omega))
            replace hO := hO.below hb
            replace hSl := (hSl.below hb).more hb.size
            replace hz := Nat.le_trans hz hb.size
            replace hB := hB.trans (hb.mono hB.size)
            clear hb
            have c0 := hk.cell_ 0 rfl
            have c1 := hk.cell_ 1 rfl
            have c2 := hk.cell_ 2 rfl
            have c3 := hk.cell_ 3 rfl
            have c4 := hk.cell_ 4 rfl
            have c5 := hk.cell_ 5 rfl
            go_wp2_with fail
            have HI : Hid (insA a M = M.take (0) ++ a :: M.drop (0)) := insA_at hasc.out (by omega) HG.out (fun r b hr hb => by omega)
            clear d0 d1 hb0
            obtain ⟨b', off', hA', hb0, d0, d1⟩ := hL.at2 HA.out (v0 := .int .i64 a.j) (v1 := .int .i64 a.k) rfl
            obtain ⟨rfl, rfl⟩ : b = b' ∧ off = off' := by simpa using hA'
            clear hA'
            have hsl1 : ∀ w, (Instr.sliceAt 54 (.slice AO M.length cO) none (some (.int .i64 0)) (some (.int .i64 0))).run Try.prog w = .ok (.slice AO (0) (0)) w := by
              have h := run_slice_upto et_pair AO M.length cO (0) (by omega)
              simpa using h
            have hsl2 : ∀ w, (Instr.sliceAt 54 (.slice AO M.length cO) (some (.int .i64 0)) none none).run Try.prog w = .ok (.slice (dropA AO cO (0) 2) (M.length - (0)) (cO - (0))) w := by
              have h := run_slice_from et_pair AO M.length cO (0) (by omega)
              simpa using h
            have hb1 : Below W.heap.size W (W.alloc (.cells #[.int .i64 a.j, .int .i64 a.k] 77)).drew := ((Below.refl _ W).alloc (Nat.le_refl _) _).drew
            have HS1 : Hid (Slc AP 2 (W.alloc (.cells #[.int .i64 a.j, .int .i64 a.k] 77)).drew (W.alloc (.cells #[.int .i64 a.j, .int .i64 a.k] 77)).drew.heap.size (some ⟨W.heap.size, 0, none⟩) [a]) := Blk.slc1 (Blk.new W 77 #[.int .i64 a.j, .int .i64 a.k]).drew rfl
            have HS2 : Hid (Slc AP 2 (W.alloc (.cells #[.int .i64 a.j, .int .i64 a.k] 77)).drew W.heap.size (dropA AO cO (0) 2) (M.drop (0))) := (hSl.dropA_ hle).below hb1
            have HS3 : Hid (Slc AP 2 (W.alloc (.cells #[.int .i64 a.j, .int .i64 a.k] 77)).drew W.heap.size AO (M.take (0))) := (hSl.take_ (0)).below hb1
            have hkl : 0 ≤ M.length := by omega
            have hml9 : M.length ≤ 96 := by omega
            have c0 := hk.cell_ 0 rfl
            have c1 := hk.cell_ 1 rfl
            have c2 := hk.cell_ 2 rfl
            have c3 := hk.cell_ 3 rfl
            have c4 := hk.cell_ 4 rfl
            have c5 := hk.cell_ 5 rfl
            go_region_law (first | (refine step_app_full _ _ rfl rfl et_pair (xs := [a]) (ys := M.drop (0)) rfl rfl HS1.out rfl HS2.out (by simp) (Nat.le_refl _) ap_len ap_one (by omega) ?_; intro A1 cA w1 hb2 hS4 hcA hO4) | (refine step_app_full _ _ rfl rfl et_pair (xs := M.take (0)) (ys := [a] ++ M.drop (0)) rfl rfl (HS3.out.below (hb2.mono hb1.size)) (by simp <;> omega) hS4 (by simp <;> omega) (Nat.le_trans hb1.size hb2.size) ap_len ap_one (by omega) ?_; intro A2 cB w2 hb3 hS5 hcB hO5; have hbW : Below W.heap.size W w2 := (hb1.trans (hb2.mono hb1.size)).trans (hb3.mono (Nat.le_trans hb1.size hb2.size)); clear d0 d1 c0 c1 c2 c3 c4 c5))
            replace hk := hk.below hbW hk.lt
            replace hL := hL.below (hbW.mono hz)
            have hO2 := (hO5 (by simp)).mono_base (b' := base) (Nat.le_trans hz (Nat.le_trans hb1.size hb2.size))
            have HX : Hid (M.take (0) ++ ([a] ++ M.drop (0)) = sortA (onM (L.take (i + 1)) mc)) := by show _ = _; rw [HM.out, HI.out]; rfl
            rw [HX.out] at hO2
            try simp only [Nat.zero_add] at hO2
            replace hz := Nat.le_trans hz hbW.size
            replace hB := hB.trans (hbW.mono hB.size)
            go_wp2_with fail
            go_roundw
            case rel => exact ⟨i + 1, by go_num, by omega, hk, hL, hO2, hz, hB⟩
            case measure => simp [intOf]; omega
      · have HM := hide (onM_no ha hmm)
        have hmb : (a.x.m != mc) = true := by simpa using hmm
        clear hmm
        obtain ⟨b, off, hA, hb0, d0, d1⟩ := hL.at2 ha (v0 := .int .i64 a.j) (v1 := .int .i64 a.k) rfl
        have hok := HOK.out a (List.mem_of_getElem? ha)
        obtain ⟨st, hj, hx⟩ := hok.job
        obtain ⟨l, t, hpl, hlt0, hpt, _⟩ := hp.start hj hx
        have hlt' : l[a.k]? = some a.t := by rw [hok.start, hpt]; exact hlt0
        obtain ⟨bp, offp, Ap, cp, hAp, hbp, hcp, hSp⟩ := plan_at (hP.on hB) hpl
        obtain ⟨bt, offt, hAt, hbt, hct⟩ := int_at hSp hlt'
        have o1 := hok.t0
        have o2 := hok.t1
        have o3 := hok.mi0
        have o4 := hok.mi1
        have o5 := hok.d0
        have o6 := hok.d1
        have i1 : (i : Int) < (L.length : Int) := by omega
        have i2 : (a.j : Int) < (pl.length : Int) := by have := (List.getElem?_eq_some_iff.1 hpl).1; omega
        have i3 : (a.k : Int) < (l.length : Int) := by have := (List.getElem?_eq_some_iff.1 hlt').1; omega
        have HJX := hide (And.intro hj hx)
        have HPL := hide (And.intro hpl hlt')
        have HA := hide ha
        clear ha hok hj hx hpl hlt0 hpt hlt'
        subst hA hAp hAt
        have HSW := hS.on hB
        have fs0 := fstep0
        have c0 := hk.cell_ 0 rfl
        have c1 := hk.cell_ 1 rfl
        have c2 := hk.cell_ 2 rfl
        have c3 := hk.cell_ 3 rfl
        have c4 := hk.cell_ 4 rfl
        have c5 := hk.cell_ 5 rfl
        go_wp2_with fail
        refine wp_region_quiet (C := fun w' => ∃ u : Since W, w' = u.w) (by kernel_rfl) (by kernel_rfl) (Since.start W) ?_
        dsimp only
        have y_c0 := Since.cell c0
        have y_c1 := Since.cell c1
        have y_c2 := Since.cell c2
        have y_c3 := Since.cell c3
        have y_c4 := Since.cell c4
        have y_c5 := Since.cell c5
        have y_d0 := Since.cell d0
        have y_d1 := Since.cell d1
        clear c0 c1 c2 c3 c4 c5
        repeat (go_big_quiet_step ((go_at_call 59; exact Since.calls (at_any s a.j a.k st a.x _ (HSW.on (Since.h _)) HJX.out.1 HJX.out.2))))
        refine wpQuiet_nil ?_
        rintro W ⟨⟨_, hb⟩, rfl⟩
        try dsimp only at hb ⊢
        replace d0 : W.cell? _ = _ := y_d0 ⟨W, hb⟩
        replace d1 : W.cell? _ = _ := y_d1 ⟨W, hb⟩
        clear y_c0 y_c1 y_c2 y_c3 y_c4 y_c5 y_d0 y_d1
        replace hk := hk.below hb hk.lt
        replace hL := hL.below (hb.mono (by omega))
        replace hO := hO.below hb
        replace hz := Nat.le_trans hz hb.size
        replace hB := hB.trans (hb.mono hB.size)
        clear hb
        have c0 := hk.cell_ 0 rfl
        have c1 := hk.cell_ 1 rfl
        have c2 := hk.cell_ 2 rfl
        have c3 := hk.cell_ 3 rfl
        have c4 := hk.cell_ 4 rfl
        have c5 := hk.cell_ 5 rfl
        rw [← HM.out] at hO
        go_wp2_with fail
        go_roundw
        case rel => exact ⟨i + 1, by go_num, by omega, hk, hL, hO, hz, hB⟩
        case measure => simp [intOf]; omega
    · obtain rfl : i = L.length := by omega
      rw [List.take_length] at hO
      obtain ⟨A', c', hv', hSl⟩ := hO.form fun _ => rfl
      subst hv'
      have HGE := hide (fun b off (h : A' = some ⟨b, off, none⟩) => Nat.le_trans hwb (hO.ge b off h))
      have c0 := hk.cell_ 0 rfl
      have c1 := hk.cell_ 1 rfl
      have c2 := hk.cell_ 2 rfl
      have c3 := hk.cell_ 3 rfl
      have c4 := hk.cell_ 4 rfl
      have c5 := hk.cell_ 5 rfl
      go_wp2_with fail
      go_ret
      exact ⟨A', c', by rw [HL.out]; rfl, hB, by rw [HL.out]; exact hSl, HGE.out⟩
theorem refOrder_any (s : Sh) (A : Option Addr) (c : Nat) (pl : List (List Int)) (mc : Int) (w : World) (hS : ShAt w w.heap.size s) (hv : VShop s.p) (hP : Plan w w.heap.size A pl) (hp : VPlan s.p pl) :
    Calls Try.prog 43 #[.agg #[.int .i64 s.p.op, .int .i64 s.p.cl, .slice s.aH s.p.hol.length s.cH, .int .i64 s.p.mach, .slice s.aS s.p.setup.length s.cS, .slice s.aJ s.p.jobs.length s.cJ], .slice A pl.length c, .int .i64 mc] w fun e w' => ∃ A' c', e = .returned (.slice A' (sortA (onM (ats s.p pl) mc)).length c') ∧ Below w.heap.size w w' ∧ Slc AP 2 w' w'.heap.size A' (sortA (onM (ats s.p pl) mc)) :=
  (refOrder_new s A c pl mc w hS hv hP hp).mono fun _ _ ⟨A', c', h1, h2, h3, _⟩ => ⟨A', c', h1, h2, h3⟩
end Go.Proofs.Ytcpnfcnobnjhdaa

/- Pull: the plain law. -/
namespace Go.Proofs.Ytcpnfcnobnjhdaa
open Go Go.Sort Go.RowKit StabAt
/-- the steps l, each put as early as can be behind R -/
noncomputable def pullL (p : Shop) : List At → List At → List At
  | _, [] => []
  | R, a :: l => ⟨a.j, a.k, startF p R a, a.x⟩ :: pullL p (R ++ [⟨a.j, a.k, startF p R a, a.x⟩]) l
theorem pullL_len {p : Shop} : ∀ (l R : List At), (pullL p R l).length = l.length
  | [], _ => rfl
  | a :: l, R => by simp [pullL, pullL_len l]
theorem pullL_get {p : Shop} : ∀ (l R : List At) (i : Nat) (a : At), l[i]? = some a → (pullL p R l)[i]? = some ⟨a.j, a.k, startF p (R ++ (pullL p R l).take i) a, a.x⟩
  | [], _, i, a, h => by simp at h
  | b :: l, R, 0, a, h => by
    simp at h; subst h
    simp [pullL]
  | b :: l, R, i + 1, a, h => by
    have := pullL_get (p := p) l (R ++ [⟨b.j, b.k, startF p R b, b.x⟩]) i a (by simpa using h)
    simp only [pullL, List.getElem?_cons_succ, List.take_succ_cons]
    rw [this, List.append_assoc]
    rfl
/-- the order in which a right plan is made earlier -/
structure Line (p : Shop) (l : List At) : Prop where
  seq : SeqOk p l
  asc : AscT l
  tog : l.Pairwise fun a b => togB p a b = true
  shift : ∀ a ∈ l, shiftB p a.t a.x.mi = true
  early : ∀ a ∈ l, ∀ b ∈ l, a.j = b.j → b.k = a.k + 1 → a.dry ≤ b.t
  t0 : ∀ a ∈ l, 0 ≤ a.t ∧ a.t ≤ 100000000
theorem RightP.steps {p : Shop} (hv : VShop p) {pl : List (List Int)} (h : RightP p pl) {j : Nat} {s : List Step} (hs : p.jobs[j]? = some s) : ∀ (n k : Nat), k + n + 1 < s.length → planAt pl j k < planAt pl j (k + n + 1)
  | 0, k, hk => by
    have h1 : s[k]? = some (s[k]'(by omega)) := List.getElem?_eq_getElem _
    have h2 : s[k + 1]? = some (s[k + 1]'(by omega)) := List.getElem?_eq_getElem _
    have h3 := h.next hs h1 h2
    have h4 := (hv.steps j s hs).2 k _ h1
    show planAt pl j k < planAt pl j (k + 1)
    omega
  | n + 1, k, hk => by
    have ih := RightP.steps hv h hs n k (by omega)
    have h1 : s[k + n + 1]? = some (s[k + n + 1]'(by omega)) := List.getElem?_eq_getElem _
    have h2 : s[k + n + 1 + 1]? = some (s[k + n + 1 + 1]'(by omega)) := List.getElem?_eq_getElem _
    have h3 := h.next hs h1 h2
    have h4 := (hv.steps j s hs).2 _ _ h1
    show planAt pl j k < planAt pl j (k + n + 1 + 1)
    omega
theorem line_of {p : Shop} (hv : VShop p) {pl : List (List Int)} (h : RightP p pl) : Line p (sortA (ats p pl)) := by
  have hpm := sortA_perm (ats p pl)
  have hsq := ats_seq p pl
  have hasc := sortA_asc (ats p pl)
  have hd : (sortA (ats p pl)).Pairwise fun a b => a.j ≠ b.j ∨ a.k ≠ b.k :=
    ((ats_asc p pl).imp (S := fun a b => a.j ≠ b.j ∨ a.k ≠ b.k) fun {a b} h => by omega).perm hpm.symm fun {x y} h => by rcases h with h | h <;> simp [Ne.symm h]
  refine ⟨⟨fun a ha => hsq.ok a (hpm.mem_iff.1 ha), ?_, fun j k s x h1 h2 => ?_⟩, hasc, h.clash.perm hpm.symm fun {x y} h => togB_symm h, fun a ha => h.shift a (hpm.mem_iff.1 ha), fun a ha b hb hj hk => ?_, fun a ha => ?_⟩
  · rw [List.pairwise_iff_getElem]
    intro i i' hi hi' hlt hj
    have h1 := pair_get hasc hlt (List.getElem?_eq_getElem hi) (List.getElem?_eq_getElem hi')
    have h2 := pair_get hd hlt (List.getElem?_eq_getElem hi) (List.getElem?_eq_getElem hi')
    have ma := hpm.mem_iff.1 (List.getElem_mem hi)
    have mb := hpm.mem_iff.1 (List.getElem_mem hi')
    generalize (sortA (ats p pl))[i] = a at *
    generalize (sortA (ats p pl))[i'] = b at *
    rcases Nat.lt_trichotomy a.k b.k with h3 | h3 | h3
    · exact h3
    · rcases h2 with h2 | h2
      · exact absurd hj h2
      · exact absurd h3 h2
    · exfalso
      have ha := (AtOk.start (ats_ok hv h.shape ma))
      have hb := (AtOk.start (ats_ok hv h.shape mb))
      obtain ⟨s, g1, g2⟩ := hsq.ok a ma
      have h4 := RightP.steps hv h g1 (a.k - b.k - 1) b.k (by have := (List.getElem?_eq_some_iff.1 g2).1; omega)
      rw [show b.k + (a.k - b.k - 1) + 1 = a.k by omega] at h4
      rw [hj] at ha h4
      omega
  · obtain ⟨a, ha, hj, hk⟩ := hsq.all j k s x h1 h2
    exact ⟨a, hpm.mem_iff.2 ha, hj, hk⟩
  · have ma := hpm.mem_iff.1 ha
    have mb := hpm.mem_iff.1 hb
    obtain ⟨s, g1, g2⟩ := hsq.ok a ma
    obtain ⟨s', g3, g4⟩ := hsq.ok b mb
    rw [← hj, g1] at g3
    injection g3 with g3
    subst g3
    rw [hk] at g4
    have h1 := h.next g1 g2 g4
    have e1 := AtOk.start (ats_ok hv h.shape ma)
    have e2 := AtOk.start (ats_ok hv h.shape mb)
    rw [← hj, hk] at e2
    show a.t + a.x.mi + a.x.d ≤ b.t
    omega
  · have h1 := ats_ok hv h.shape (hpm.mem_iff.1 ha)
    exact ⟨h1.t0, h1.t1⟩
/-- the same steps, the starts moved -/
def Alike (l R : List At) : Prop := R.length = l.length ∧ ∀ (i : Nat) a b, l[i]? = some a → R[i]? = some b → b.j = a.j ∧ b.k = a.k ∧ b.x = a.x
theorem pull_alike (p : Shop) (l : List At) : Alike l (pullL p [] l) := ⟨pullL_len l [], fun i a b ha hb => by
  rw [pullL_get l [] i a ha] at hb
  injection hb with hb
  subst hb
  exact ⟨rfl, rfl, rfl⟩⟩
theorem Alike.get {l R : List At} (h : Alike l R) {i : Nat} {b : At} (hb : R[i]? = some b) : ∃ a, l[i]? = some a ∧ b.j = a.j ∧ b.k = a.k ∧ b.x = a.x := by
  have hi : i < l.length := by rw [← h.1]; exact (List.getElem?_eq_some_iff.1 hb).1
  exact ⟨l[i], List.getElem?_eq_getElem hi, h.2 i _ b (List.getElem?_eq_getElem hi) hb⟩
theorem Alike.got {l R : List At} (h : Alike l R) {i : Nat} {a : At} (ha : l[i]? = some a) : ∃ b, R[i]? = some b ∧ b.j = a.j ∧ b.k = a.k ∧ b.x = a.x := by
  have hi : i < R.length := by rw [h.1]; exact (List.getElem?_eq_some_iff.1 ha).1
  exact ⟨R[i], List.getElem?_eq_getElem hi, h.2 i a _ ha (List.getElem?_eq_getElem hi)⟩
theorem Alike.seq {p : Shop} {l R : List At} (h : Alike l R) (hl : SeqOk p l) : SeqOk p R := by
  refine ⟨fun b hb => ?_, ?_, fun j k s x h1 h2 => ?_⟩
  · obtain ⟨i, hi⟩ := List.getElem?_of_mem hb
    obtain ⟨a, ha, e1, e2, e3⟩ := h.get hi
    rw [e1, e2, e3]
    exact hl.ok a (List.mem_of_getElem? ha)
  · rw [List.pairwise_iff_getElem]
    intro i i' hi hi' hlt hj
    obtain ⟨a, ha, e1, e2, _⟩ := h.get (List.getElem?_eq_getElem hi)
    obtain ⟨c, hc, g1, g2, _⟩ := h.get (List.getElem?_eq_getElem hi')
    rw [e2, g2]
    exact pair_get hl.asc hlt ha hc (by rw [← e1, ← g1]; exact hj)
  · obtain ⟨a, ha, hj, hk⟩ := hl.all j k s x h1 h2
    obtain ⟨i, hi⟩ := List.getElem?_of_mem ha
    obtain ⟨b, hb, e1, e2, _⟩ := h.got hi
    exact ⟨b, List.mem_of_getElem? hb, by rw [e1, hj], by rw [e2, hk]⟩
theorem take_get {α : Type} {l : List α} {i i' : Nat} {a : α} (h : (l.take i)[i']? = some a) : i' < i ∧ l[i']? = some a := by
  rw [List.getElem?_take] at h
  split at h
  · exact ⟨by assumption, h⟩
  · cases h
/-- no step becomes later -/
theorem pull_le {p : Shop} (hv : VShop p) {l : List At} (h : Line p l) : ∀ (i : Nat) (a b : At), l[i]? = some a → (pullL p [] l)[i]? = some b → 0 ≤ b.t ∧ b.t ≤ a.t := by
  have hal := pull_alike p l
  have hR := hal.seq h.seq
  intro i
  induction i using Nat.strongRecOn with
  | _ i ih =>
    intro a b ha hb
    have hb2 := pullL_get (p := p) l [] i a ha
    rw [hb, List.nil_append] at hb2
    injection hb2 with hb2
    have hst := h.seq.step hv (List.mem_of_getElem? ha)
    have hrd : 0 ≤ rdyR ((pullL p [] l).take i) a.j ∧ rdyR ((pullL p [] l).take i) a.j ≤ a.t := by
      unfold rdyR
      cases hl : lastP (ofJ a.j) ((pullL p [] l).take i) with
      | none => exact ⟨Int.le_refl _, (h.t0 a (List.mem_of_getElem? ha)).1⟩
      | some c =>
        show 0 ≤ c.t + c.x.mi + c.x.d ∧ c.t + c.x.mi + c.x.d ≤ a.t
        have hbj : b.j = a.j := by rw [hb2]
        have hbk : b.k = a.k := by rw [hb2]
        rcases hR.prev hb with ⟨_, h2⟩ | ⟨k, h2, i', c', h3, h4, h5, h6, h7⟩
        · rw [hbj, hl] at h2; cases h2
        · rw [hbj, hl] at h7
          injection h7 with h7
          subst h7
          obtain ⟨d, hd, e1, e2, e3⟩ := hal.get h4
          have h8 := ih i' h3 d c hd h4
          have h9 := h.early d (List.mem_of_getElem? hd) a (List.mem_of_getElem? ha) (by rw [← e1, h5, hbj]) (by omega)
          have h10 := h.seq.step hv (List.mem_of_getElem? hd)
          unfold At.dry at h9
          rw [e3]
          omega
    have hfr : 0 ≤ fromR p ((pullL p [] l).take i) a ∧ fromR p ((pullL p [] l).take i) a ≤ a.t := by
      unfold fromR
      cases hl : lastP (onB a.x.m) ((pullL p [] l).take i) with
      | none => exact hrd
      | some c =>
        show 0 ≤ max (rdyR ((pullL p [] l).take i) a.j) (roomF p c a.x.c) ∧ max (rdyR ((pullL p [] l).take i) a.j) (roomF p c a.x.c) ≤ a.t
        obtain ⟨i', h1, h2, _⟩ := lastP_some hl
        obtain ⟨h3, h4⟩ := take_get h1
        obtain ⟨d, hd, e1, e2, e3⟩ := hal.get h4
        have h5 := ih i' h3 d c hd h4
        have h6 := room_mono (p := p) (a := c) (b := d) (c := a.x.c) h5.2 e3
        have h7 := pair_get h.tog h3 hd ha
        have h8 := pair_get h.asc h3 hd ha
        have hm : d.x.m = a.x.m := by rw [← e3]; simpa [onB] using h2
        have h9 : roomF p d a.x.c ≤ a.t := by
          unfold togB at h7
          simp only [Bool.or_eq_true, Bool.not_eq_true', decide_eq_false_iff_not, decide_eq_true_eq] at h7
          rcases h7 with (h7 | h7) | h7
          · exact absurd hm h7
          · exact h7
          · exfalso
            have h10 := setupOf_ge hv a.x.m
            unfold roomF At.end_ at h7
            split at h7 <;> omega
        omega
    have hn := (next_is hv hfr.1 hst.2.2.2.1).1
    have hbt : b.t = nextF p (fromR p ((pullL p [] l).take i) a) a.x.mi := by rw [hb2]; rfl
    rw [← hbt] at hn
    refine ⟨by have := hn.1; omega, ?_⟩
    rcases Int.lt_or_le a.t b.t with hlt | hle
    · have h1 := hn.2.2 a.t hfr.2 hlt
      rw [h.shift a (List.mem_of_getElem? ha)] at h1
      cases h1
    · exact hle
theorem pull_placed {p : Shop} (hv : VShop p) {l : List At} (h : Line p l) : Placed p (pullL p [] l) := by
  intro i b hb
  obtain ⟨a, ha, e1, e2, e3⟩ := (pull_alike p l).get hb
  have h1 := pull_le hv h i a b ha hb
  have h2 := h.t0 a (List.mem_of_getElem? ha)
  have h3 := pullL_get (p := p) l [] i a ha
  rw [hb, List.nil_append] at h3
  injection h3 with h3
  refine ⟨?_, h1.1, by omega⟩
  have h4 : b.t = startF p ((pullL p [] l).take i) a := by rw [h3]
  rw [h4]
  unfold startF fromR
  rw [e3, e1]
noncomputable def pullF (p : Shop) (pl : List (List Int)) : List (List Int) := planR p (pullL p [] (sortA (ats p pl)))
theorem pull_right {p : Shop} (hv : VShop p) {pl : List (List Int)} (hz : (judgeF p pl).2.2 = 0) : RightP p (pullF p pl) :=
  have h := line_of hv (right_of hz)
  placed_right hv ((pull_alike p _).seq h.seq) (pull_placed hv h)
theorem pull_judge {p : Shop} (hv : VShop p) {pl : List (List Int)} (hz : (judgeF p pl).2.2 = 0) : (judgeF p (pullF p pl)).2.2 = 0 := (pull_right hv hz).judge
theorem fits_of {p : Shop} (hv : VShop p) {pl : List (List Int)} (h : VPlan p pl) : PFits pl := by
  have hjn := hv.jobn
  refine ⟨by rw [h.len]; omega, fun l hl => ?_⟩
  obtain ⟨i, hi⟩ := List.getElem?_of_mem hl
  have hil : i < p.jobs.length := by rw [← h.len]; exact (List.getElem?_eq_some_iff.1 hi).1
  have hj : p.jobs[i]? = some p.jobs[i] := List.getElem?_eq_getElem hil
  have h1 := (h.at_ i l _ hi hj).1
  have h2 := (hv.steps i _ hj).1
  omega
/-- the starts of the steps, in the plan and before -/
theorem pull_at {p : Shop} (hv : VShop p) {pl : List (List Int)} (hz : (judgeF p pl).2.2 = 0) {j k : Nat} {s : List Step} {x : Step} (hs : p.jobs[j]? = some s) (hx : s[k]? = some x) : planAt (pullF p pl) j k ≤ planAt pl j k := by
  have hr := right_of hz
  have h := line_of hv hr
  have hm := (sortA_perm _).mem_iff.2 (ats_has (pl := pl) hs hx)
  obtain ⟨i, hi⟩ := List.getElem?_of_mem hm
  obtain ⟨b, hb, e1, e2, e3⟩ := (pull_alike p _).got hi
  have h1 := (pull_le hv h i _ b hi hb).2
  have h2 := planR_eq ((pull_alike p _).seq h.seq) (List.mem_of_getElem? hb)
  rw [e1, e2] at h2
  show planAt (planR p _) j k ≤ _
  rw [h2]
  exact h1
end Go.Proofs.Ytcpnfcnobnjhdaa

/- The law ShopOrders: the walk. -/
namespace Go.Proofs.Ytcpnfcnobnjhdaa
open Go.RowKit
theorem ordL_in {p : Shop} {pl : List (List Int)} {m : Int} (h0 : 0 ≤ m) (h1 : m < p.mach) : ordL p pl m = (rightL p pl).filter (fun a => decide (a.x.m = m)) ∧ ordE p pl m = (judgeF p pl).2.2 := by
  have h : inB 0 m (p.mach - 1) = true := inB_iff.2 ⟨h0, by omega⟩
  unfold ordL ordE
  rw [h]
  exact ⟨rfl, rfl⟩
theorem ordL_out {p : Shop} {pl : List (List Int)} {m : Int} (h : m < 0 ∨ p.mach ≤ m) : ordL p pl m = [] ∧ ordE p pl m = 2 := by
  have h : inB 0 m (p.mach - 1) = false := inB_false.2 (by omega)
  unfold ordL ordE
  rw [h]
  exact ⟨rfl, rfl⟩
theorem rightL_yes {p : Shop} {pl : List (List Int)} (h : (judgeF p pl).2.2 = 0) : rightL p pl = sortA (ats p pl) := by unfold rightL; rw [if_pos h]
theorem rightL_no {p : Shop} {pl : List (List Int)} (h : (judgeF p pl).2.2 ≠ 0) : rightL p pl = [] := by unfold rightL; rw [if_neg h]
theorem endV_no {p : Shop} {pl : List (List Int)} (h : (judgeF p pl).2.2 ≠ 0) : endV p pl = 0 := by unfold endV; rw [rightL_no h]; rfl
theorem ordL_yes {p : Shop} {pl : List (List Int)} {m : Int} (h0 : 0 ≤ m) (h1 : m < p.mach) (h : (judgeF p pl).2.2 = 0) : ordL p pl m = sortA (onM (ats p pl) m) ∧ ordE p pl m = 0 := by
  obtain ⟨h2, h3⟩ := ordL_in (pl := pl) h0 h1
  rw [h2, h3, rightL_yes h, sortA_filter]
  exact ⟨rfl, h⟩
theorem ordL_bad {p : Shop} {pl : List (List Int)} {m : Int} (h0 : 0 ≤ m) (h1 : m < p.mach) (h : (judgeF p pl).2.2 ≠ 0) : ordL p pl m = [] ∧ ordE p pl m = (judgeF p pl).2.2 := by
  obtain ⟨h2, h3⟩ := ordL_in (pl := pl) h0 h1
  rw [h2, h3, rightL_no h]
  exact ⟨rfl, rfl⟩
set_option maxRecDepth 200000 in
set_option maxHeartbeats 4000000 in
theorem orders_walk (s : Sh) (A : Option Addr) (c : Nat) (pl : List (List Int)) (mc : Int) (w : World) (hS : ShAt w w.heap.size s) (hf : Fits s.p) (hP : Plan w w.heap.size A pl) (hpf : PFits pl) :
    Calls Try.prog 11 #[.agg #[.int .i64 s.p.op, .int .i64 s.p.cl, .slice s.aH s.p.hol.length s.cH, .int .i64 s.p.mach, .slice s.aS s.p.setup.length s.cS, .slice s.aJ s.p.jobs.length s.cJ], .slice A pl.length c, .int .i64 mc] w fun e w' => e = .returned (.bool true) ∧ Below w.heap.size w w' := by
  have hk := Blk.new w 25 #[.int .i64 s.p.op, .int .i64 s.p.cl, .slice s.aH s.p.hol.length s.cH, .int .i64 s.p.mach, .slice s.aS s.p.setup.length s.cS, .slice s.aJ s.p.jobs.length s.cJ]
  have hB := (Below.refl w.heap.size w).alloc (Nat.le_refl _) (.cells #[.int .i64 s.p.op, .int .i64 s.p.cl, .slice s.aH s.p.hol.length s.cH, .int .i64 s.p.mach, .slice s.aS s.p.setup.length s.cS, .slice s.aJ s.p.jobs.length s.cJ] 25)
  go_enter Try.func11, Try.ntmps11
  go_wp2_with fail
  generalize w.alloc (.cells #[.int .i64 s.p.op, .int .i64 s.p.cl, .slice s.aH s.p.hol.length s.cH, .int .i64 s.p.mach, .slice s.aS s.p.setup.length s.cS, .slice s.aJ s.p.jobs.length s.cJ] 25) = W at *
  have c0 := hk.cell_ 0 rfl
  have c1 := hk.cell_ 1 rfl
  have c2 := hk.cell_ 2 rfl
  have c3 := hk.cell_ 3 rfl
  have c4 := hk.cell_ 4 rfl
  have c5 := hk.cell_ 5 rfl
  go_wp2_with fail
  refine (long_any s _ (hS.on hB) hf.h1 hf.h2 hf.h3 hf.h4).mono ?_
  rintro e W ⟨rfl, hb⟩
  clear c0 c1 c2 c3 c4 c5
  replace hk := hk.below hb hk.lt
  replace hB := hB.trans (hb.mono hB.size)
  clear hb
  have c0 := hk.cell_ 0 rfl
  have c1 := hk.cell_ 1 rfl
  have c2 := hk.cell_ 2 rfl
  have c3 := hk.cell_ 3 rfl
  have c4 := hk.cell_ 4 rfl
  have c5 := hk.cell_ 5 rfl
  cases hl : longB s.p
  case true =>
    go_wp2_with fail
    refine (first_any _).mono ?_
    rintro e W ⟨rfl, hb⟩
    clear c0 c1 c2 c3 c4 c5
    replace hk := hk.below hb hk.lt
    replace hB := hB.trans (hb.mono hB.size)
    clear hb
    have c0 := hk.cell_ 0 rfl
    have c1 := hk.cell_ 1 rfl
    have c2 := hk.cell_ 2 rfl
    have c3 := hk.cell_ 3 rfl
    have c4 := hk.cell_ 4 rfl
    have c5 := hk.cell_ 5 rfl
    go_wp2_with fail
    go_ret
    exact ⟨rfl, hB⟩
  go_wp2_with fail
  refine (wide_any A c pl _ (hP.on hB) hpf).mono ?_
  rintro e W ⟨rfl, hb⟩
  clear c0 c1 c2 c3 c4 c5
  replace hk := hk.below hb hk.lt
  replace hB := hB.trans (hb.mono hB.size)
  clear hb
  have c0 := hk.cell_ 0 rfl
  have c1 := hk.cell_ 1 rfl
  have c2 := hk.cell_ 2 rfl
  have c3 := hk.cell_ 3 rfl
  have c4 := hk.cell_ 4 rfl
  have c5 := hk.cell_ 5 rfl
  cases hw : wideB pl
  case true =>
    go_wp2_with fail
    refine (first_any _).mono ?_
    rintro e W ⟨rfl, hb⟩
    clear c0 c1 c2 c3 c4 c5
    replace hk := hk.below hb hk.lt
    replace hB := hB.trans (hb.mono hB.size)
    clear hb
    have c0 := hk.cell_ 0 rfl
    have c1 := hk.cell_ 1 rfl
    have c2 := hk.cell_ 2 rfl
    have c3 := hk.cell_ 3 rfl
    have c4 := hk.cell_ 4 rfl
    have c5 := hk.cell_ 5 rfl
    go_wp2_with fail
    go_ret
    exact ⟨rfl, hB⟩
  go_wp2_with fail
  refine (refValid_any s _ (hS.on hB) hf.h1 hf.h2 hf.h3 hf.h4).mono ?_
  rintro e W ⟨rfl, hb⟩
  clear c0 c1 c2 c3 c4 c5
  replace hk := hk.below hb hk.lt
  replace hB := hB.trans (hb.mono hB.size)
  clear hb
  have c0 := hk.cell_ 0 rfl
  have c1 := hk.cell_ 1 rfl
  have c2 := hk.cell_ 2 rfl
  have c3 := hk.cell_ 3 rfl
  have c4 := hk.cell_ 4 rfl
  have c5 := hk.cell_ 5 rfl
  cases hvB : validShop s.p
  case false =>
    go_wp2_with fail
    refine (first_any _).mono ?_
    rintro e W ⟨rfl, hb⟩
    clear c0 c1 c2 c3 c4 c5
    replace hk := hk.below hb hk.lt
    replace hB := hB.trans (hb.mono hB.size)
    clear hb
    have c0 := hk.cell_ 0 rfl
    have c1 := hk.cell_ 1 rfl
    have c2 := hk.cell_ 2 rfl
    have c3 := hk.cell_ 3 rfl
    have c4 := hk.cell_ 4 rfl
    have c5 := hk.cell_ 5 rfl
    go_wp2_with fail
    go_ret
    exact ⟨rfl, hB⟩
  have hv := valid_facts hvB
  have hjn := hv.jobn
  have hm1 := hv.mach1
  have hm6 := hv.mach6
  have HV3 : Hid (V3 (judgeF s.p pl) = .tuple #[.int .i64 (judgeF s.p pl).1, .int .i64 (judgeF s.p pl).2.1, .int .i64 (judgeF s.p pl).2.2]) := rfl
  by_cases hz : (judgeF s.p pl).2.2 = 0
  · have HP := hide (shaped_facts (judge_shaped hz))
    have HEV := hide (endA_eq hz)
    rcases (show (mc < 0 ∨ s.p.mach ≤ mc) ∨ (0 ≤ mc ∧ mc < s.p.mach) by omega) with ho | ⟨h0, h1⟩
    · obtain ⟨q1, q2⟩ := ordL_out (pl := pl) ho
      have HOL := hide q1
      have HOE := hide q2
      have HZ := hide hz
      clear q1 q2 hz
      go_wp2_with fail
      refine (apiEnd_any s A c pl _ (hS.on hB) hvB (hP.on hB) hpf).mono ?_
      rintro e W ⟨rfl, hb⟩
      clear c0 c1 c2 c3 c4 c5
      replace hk := hk.below hb hk.lt
      replace hB := hB.trans (hb.mono hB.size)
      clear hb
      have c0 := hk.cell_ 0 rfl
      have c1 := hk.cell_ 1 rfl
      have c2 := hk.cell_ 2 rfl
      have c3 := hk.cell_ 3 rfl
      have c4 := hk.cell_ 4 rfl
      have c5 := hk.cell_ 5 rfl
      go_wp2_with fail
      refine (apiOrder_any s A c pl mc _ (hS.on hB) hvB (hP.on hB) hpf).mono ?_
      rintro e W9 ⟨AO, cO, rfl, hb, hO⟩
      rw [HOL.out, HOE.out]
      rw [HOL.out] at hO
      obtain ⟨W, rfl⟩ : ∃ W : World, W = W9 := ⟨_, rfl⟩
      clear c0 c1 c2 c3 c4 c5
      replace hk := hk.below hb hk.lt
      replace hB := hB.trans (hb.mono hB.size)
      clear hb
      have c0 := hk.cell_ 0 rfl
      have c1 := hk.cell_ 1 rfl
      have c2 := hk.cell_ 2 rfl
      have c3 := hk.cell_ 3 rfl
      have c4 := hk.cell_ 4 rfl
      have c5 := hk.cell_ 5 rfl
      rw [HZ.out]
      go_wp2_with fail
      refine (refJudge_any s A c pl _ (hS.on hB) hv (hP.on hB) hpf).mono ?_
      rintro e W ⟨rfl, hb⟩
      clear c0 c1 c2 c3 c4 c5
      replace hk := hk.below hb hk.lt
      replace hO := hO.on hb
      replace hB := hB.trans (hb.mono hB.size)
      clear hb
      have c0 := hk.cell_ 0 rfl
      have c1 := hk.cell_ 1 rfl
      have c2 := hk.cell_ 2 rfl
      have c3 := hk.cell_ 3 rfl
      have c4 := hk.cell_ 4 rfl
      have c5 := hk.cell_ 5 rfl
      rw [HV3.out, HZ.out, ← HEV.out]
      by_cases hm0 : mc < 0
      · go_wp2_with fail
        refine (refEnd_any s A c pl _ (hS.on hB) hv (hP.on hB) HP.out).mono ?_
        rintro e W ⟨rfl, hb⟩
        clear c0 c1 c2 c3 c4 c5
        replace hk := hk.below hb hk.lt
        replace hO := hO.on hb
        replace hB := hB.trans (hb.mono hB.size)
        clear hb
        have c0 := hk.cell_ 0 rfl
        have c1 := hk.cell_ 1 rfl
        have c2 := hk.cell_ 2 rfl
        have c3 := hk.cell_ 3 rfl
        have c4 := hk.cell_ 4 rfl
        have c5 := hk.cell_ 5 rfl
        go_wp2_with fail
        refine (first_any _).mono ?_
        rintro e W ⟨rfl, hb⟩
        clear c0 c1 c2 c3 c4 c5
        replace hk := hk.below hb hk.lt
        replace hO := hO.on hb
        replace hB := hB.trans (hb.mono hB.size)
        clear hb
        have c0 := hk.cell_ 0 rfl
        have c1 := hk.cell_ 1 rfl
        have c2 := hk.cell_ 2 rfl
        have c3 := hk.cell_ 3 rfl
        have c4 := hk.cell_ 4 rfl
        have c5 := hk.cell_ 5 rfl
        go_wp2_with fail
        go_ret
        exact ⟨rfl, hB⟩
      · have hge : s.p.mach ≤ mc := by omega
        go_wp2_with fail
        refine (refEnd_any s A c pl _ (hS.on hB) hv (hP.on hB) HP.out).mono ?_
        rintro e W ⟨rfl, hb⟩
        clear c0 c1 c2 c3 c4 c5
        replace hk := hk.below hb hk.lt
        replace hO := hO.on hb
        replace hB := hB.trans (hb.mono hB.size)
        clear hb
        have c0 := hk.cell_ 0 rfl
        have c1 := hk.cell_ 1 rfl
        have c2 := hk.cell_ 2 rfl
        have c3 := hk.cell_ 3 rfl
        have c4 := hk.cell_ 4 rfl
        have c5 := hk.cell_ 5 rfl
        go_wp2_with fail
        refine (first_any _).mono ?_
        rintro e W ⟨rfl, hb⟩
        clear c0 c1 c2 c3 c4 c5
        replace hk := hk.below hb hk.lt
        replace hO := hO.on hb
        replace hB := hB.trans (hb.mono hB.size)
        clear hb
        have c0 := hk.cell_ 0 rfl
        have c1 := hk.cell_ 1 rfl
        have c2 := hk.cell_ 2 rfl
        have c3 := hk.cell_ 3 rfl
        have c4 := hk.cell_ 4 rfl
        have c5 := hk.cell_ 5 rfl
        go_wp2_with fail
        go_ret
        exact ⟨rfl, hB⟩
    · obtain ⟨q1, q2⟩ := ordL_yes (pl := pl) h0 h1 hz
      have HOL := hide q1
      have HOE := hide q2
      have HZ := hide hz
      have hlen : (sortA (onM (ats s.p pl) mc)).length ≤ 9223372036854775807 := by
        have := (sortA_perm (onM (ats s.p pl) mc)).length_eq
        have h2 : (onM (ats s.p pl) mc).length ≤ (ats s.p pl).length := List.length_filter_le _ _
        have h3 := ats_len s.p pl
        have h4 := ents_len hv
        omega
      clear q1 q2 hz
      go_wp2_with fail
      refine (apiEnd_any s A c pl _ (hS.on hB) hvB (hP.on hB) hpf).mono ?_
      rintro e W ⟨rfl, hb⟩
      clear c0 c1 c2 c3 c4 c5
      replace hk := hk.below hb hk.lt
      replace hB := hB.trans (hb.mono hB.size)
      clear hb
      have c0 := hk.cell_ 0 rfl
      have c1 := hk.cell_ 1 rfl
      have c2 := hk.cell_ 2 rfl
      have c3 := hk.cell_ 3 rfl
      have c4 := hk.cell_ 4 rfl
      have c5 := hk.cell_ 5 rfl
      go_wp2_with fail
      refine (apiOrder_any s A c pl mc _ (hS.on hB) hvB (hP.on hB) hpf).mono ?_
      rintro e W9 ⟨AO, cO, rfl, hb, hO⟩
      rw [HOL.out, HOE.out]
      rw [HOL.out] at hO
      obtain ⟨W, rfl⟩ : ∃ W : World, W = W9 := ⟨_, rfl⟩
      clear c0 c1 c2 c3 c4 c5
      replace hk := hk.below hb hk.lt
      replace hB := hB.trans (hb.mono hB.size)
      clear hb
      have c0 := hk.cell_ 0 rfl
      have c1 := hk.cell_ 1 rfl
      have c2 := hk.cell_ 2 rfl
      have c3 := hk.cell_ 3 rfl
      have c4 := hk.cell_ 4 rfl
      have c5 := hk.cell_ 5 rfl
      rw [HZ.out]
      go_wp2_with fail
      refine (refJudge_any s A c pl _ (hS.on hB) hv (hP.on hB) hpf).mono ?_
      rintro e W ⟨rfl, hb⟩
      clear c0 c1 c2 c3 c4 c5
      replace hk := hk.below hb hk.lt
      replace hO := hO.on hb
      replace hB := hB.trans (hb.mono hB.size)
      clear hb
      have c0 := hk.cell_ 0 rfl
      have c1 := hk.cell_ 1 rfl
      have c2 := hk.cell_ 2 rfl
      have c3 := hk.cell_ 3 rfl
      have c4 := hk.cell_ 4 rfl
      have c5 := hk.cell_ 5 rfl
      rw [HV3.out, HZ.out, ← HEV.out]
      go_wp2_with fail
      refine (refEnd_any s A c pl _ (hS.on hB) hv (hP.on hB) HP.out).mono ?_
      rintro e W ⟨rfl, hb⟩
      clear c0 c1 c2 c3 c4 c5
      replace hk := hk.below hb hk.lt
      replace hO := hO.on hb
      replace hB := hB.trans (hb.mono hB.size)
      clear hb
      have c0 := hk.cell_ 0 rfl
      have c1 := hk.cell_ 1 rfl
      have c2 := hk.cell_ 2 rfl
      have c3 := hk.cell_ 3 rfl
      have c4 := hk.cell_ 4 rfl
      have c5 := hk.cell_ 5 rfl
      go_wp2_with fail
      refine (refOrder_any s A c pl mc _ (hS.on hB) hv (hP.on hB) HP.out).mono ?_
      rintro e W ⟨A8, k8, rfl, hb, hO2⟩
      clear c0 c1 c2 c3 c4 c5
      replace hk := hk.below hb hk.lt
      replace hO := hO.on hb
      replace hB := hB.trans (hb.mono hB.size)
      clear hb
      have c0 := hk.cell_ 0 rfl
      have c1 := hk.cell_ 1 rfl
      have c2 := hk.cell_ 2 rfl
      have c3 := hk.cell_ 3 rfl
      have c4 := hk.cell_ 4 rfl
      have c5 := hk.cell_ 5 rfl
      go_wp2_with fail
      refine (samePairs_any AO A8 cO k8 _ _ hlen hO hO2).mono ?_
      rintro e W ⟨rfl, hb⟩
      clear c0 c1 c2 c3 c4 c5
      replace hk := hk.below hb hk.lt
      replace hO := hO.on hb
      replace hO2 := hO2.on hb
      replace hB := hB.trans (hb.mono hB.size)
      clear hb
      have c0 := hk.cell_ 0 rfl
      have c1 := hk.cell_ 1 rfl
      have c2 := hk.cell_ 2 rfl
      have c3 := hk.cell_ 3 rfl
      have c4 := hk.cell_ 4 rfl
      have c5 := hk.cell_ 5 rfl
      go_wp2_with fail
      refine (first_any _).mono ?_
      rintro e W ⟨rfl, hb⟩
      clear c0 c1 c2 c3 c4 c5
      replace hk := hk.below hb hk.lt
      replace hO := hO.on hb
      replace hO2 := hO2.on hb
      replace hB := hB.trans (hb.mono hB.size)
      clear hb
      have c0 := hk.cell_ 0 rfl
      have c1 := hk.cell_ 1 rfl
      have c2 := hk.cell_ 2 rfl
      have c3 := hk.cell_ 3 rfl
      have c4 := hk.cell_ 4 rfl
      have c5 := hk.cell_ 5 rfl
      go_wp2_with fail
      go_ret
      exact ⟨rfl, hB⟩
  · have HEV := hide (endV_no hz)
    have hzb : ((judgeF s.p pl).2.2 != 0) = true := by simpa using hz
    rcases (show (mc < 0 ∨ s.p.mach ≤ mc) ∨ (0 ≤ mc ∧ mc < s.p.mach) by omega) with ho | ⟨h0, h1⟩
    · obtain ⟨q1, q2⟩ := ordL_out (pl := pl) ho
      have HOL := hide q1
      have HOE := hide q2
      have HZ := hide hz
      clear q1 q2 hz
      go_wp2_with fail
      refine (apiEnd_any s A c pl _ (hS.on hB) hvB (hP.on hB) hpf).mono ?_
      rintro e W ⟨rfl, hb⟩
      clear c0 c1 c2 c3 c4 c5
      replace hk := hk.below hb hk.lt
      replace hB := hB.trans (hb.mono hB.size)
      clear hb
      have c0 := hk.cell_ 0 rfl
      have c1 := hk.cell_ 1 rfl
      have c2 := hk.cell_ 2 rfl
      have c3 := hk.cell_ 3 rfl
      have c4 := hk.cell_ 4 rfl
      have c5 := hk.cell_ 5 rfl
      go_wp2_with fail
      refine (apiOrder_any s A c pl mc _ (hS.on hB) hvB (hP.on hB) hpf).mono ?_
      rintro e W9 ⟨AO, cO, rfl, hb, hO⟩
      rw [HOL.out, HOE.out]
      rw [HOL.out] at hO
      obtain ⟨W, rfl⟩ : ∃ W : World, W = W9 := ⟨_, rfl⟩
      clear c0 c1 c2 c3 c4 c5
      replace hk := hk.below hb hk.lt
      replace hB := hB.trans (hb.mono hB.size)
      clear hb
      have c0 := hk.cell_ 0 rfl
      have c1 := hk.cell_ 1 rfl
      have c2 := hk.cell_ 2 rfl
      have c3 := hk.cell_ 3 rfl
      have c4 := hk.cell_ 4 rfl
      have c5 := hk.cell_ 5 rfl
      rw [HEV.out]
      go_wp2_with fail
      refine (refJudge_any s A c pl _ (hS.on hB) hv (hP.on hB) hpf).mono ?_
      rintro e W ⟨rfl, hb⟩
      clear c0 c1 c2 c3 c4 c5
      replace hk := hk.below hb hk.lt
      replace hO := hO.on hb
      replace hB := hB.trans (hb.mono hB.size)
      clear hb
      have c0 := hk.cell_ 0 rfl
      have c1 := hk.cell_ 1 rfl
      have c2 := hk.cell_ 2 rfl
      have c3 := hk.cell_ 3 rfl
      have c4 := hk.cell_ 4 rfl
      have c5 := hk.cell_ 5 rfl
      rw [HV3.out]
      by_cases hm0 : mc < 0
      · go_wp2_with fail
        refine (first_any _).mono ?_
        rintro e W ⟨rfl, hb⟩
        clear c0 c1 c2 c3 c4 c5
        replace hk := hk.below hb hk.lt
        replace hO := hO.on hb
        replace hB := hB.trans (hb.mono hB.size)
        clear hb
        have c0 := hk.cell_ 0 rfl
        have c1 := hk.cell_ 1 rfl
        have c2 := hk.cell_ 2 rfl
        have c3 := hk.cell_ 3 rfl
        have c4 := hk.cell_ 4 rfl
        have c5 := hk.cell_ 5 rfl
        go_wp2_with fail
        go_ret
        exact ⟨rfl, hB⟩
      · have hge : s.p.mach ≤ mc := by omega
        go_wp2_with fail
        refine (first_any _).mono ?_
        rintro e W ⟨rfl, hb⟩
        clear c0 c1 c2 c3 c4 c5
        replace hk := hk.below hb hk.lt
        replace hO := hO.on hb
        replace hB := hB.trans (hb.mono hB.size)
        clear hb
        have c0 := hk.cell_ 0 rfl
        have c1 := hk.cell_ 1 rfl
        have c2 := hk.cell_ 2 rfl
        have c3 := hk.cell_ 3 rfl
        have c4 := hk.cell_ 4 rfl
        have c5 := hk.cell_ 5 rfl
        go_wp2_with fail
        go_ret
        exact ⟨rfl, hB⟩
    · obtain ⟨q1, q2⟩ := ordL_bad (pl := pl) h0 h1 hz
      have HOL := hide q1
      have HOE := hide q2
      have HZ := hide hz
      clear q1 q2 hz
      go_wp2_with fail
      refine (apiEnd_any s A c pl _ (hS.on hB) hvB (hP.on hB) hpf).mono ?_
      rintro e W ⟨rfl, hb⟩
      clear c0 c1 c2 c3 c4 c5
      replace hk := hk.below hb hk.lt
      replace hB := hB.trans (hb.mono hB.size)
      clear hb
      have c0 := hk.cell_ 0 rfl
      have c1 := hk.cell_ 1 rfl
      have c2 := hk.cell_ 2 rfl
      have c3 := hk.cell_ 3 rfl
      have c4 := hk.cell_ 4 rfl
      have c5 := hk.cell_ 5 rfl
      go_wp2_with fail
      refine (apiOrder_any s A c pl mc _ (hS.on hB) hvB (hP.on hB) hpf).mono ?_
      rintro e W9 ⟨AO, cO, rfl, hb, hO⟩
      rw [HOL.out, HOE.out]
      rw [HOL.out] at hO
      obtain ⟨W, rfl⟩ : ∃ W : World, W = W9 := ⟨_, rfl⟩
      clear c0 c1 c2 c3 c4 c5
      replace hk := hk.below hb hk.lt
      replace hB := hB.trans (hb.mono hB.size)
      clear hb
      have c0 := hk.cell_ 0 rfl
      have c1 := hk.cell_ 1 rfl
      have c2 := hk.cell_ 2 rfl
      have c3 := hk.cell_ 3 rfl
      have c4 := hk.cell_ 4 rfl
      have c5 := hk.cell_ 5 rfl
      rw [HEV.out]
      go_wp2_with fail
      refine (refJudge_any s A c pl _ (hS.on hB) hv (hP.on hB) hpf).mono ?_
      rintro e W ⟨rfl, hb⟩
      clear c0 c1 c2 c3 c4 c5
      replace hk := hk.below hb hk.lt
      replace hO := hO.on hb
      replace hB := hB.trans (hb.mono hB.size)
      clear hb
      have c0 := hk.cell_ 0 rfl
      have c1 := hk.cell_ 1 rfl
      have c2 := hk.cell_ 2 rfl
      have c3 := hk.cell_ 3 rfl
      have c4 := hk.cell_ 4 rfl
      have c5 := hk.cell_ 5 rfl
      rw [HV3.out]
      go_wp2_with fail
      refine (first_any _).mono ?_
      rintro e W ⟨rfl, hb⟩
      clear c0 c1 c2 c3 c4 c5
      replace hk := hk.below hb hk.lt
      replace hO := hO.on hb
      replace hB := hB.trans (hb.mono hB.size)
      clear hb
      have c0 := hk.cell_ 0 rfl
      have c1 := hk.cell_ 1 rfl
      have c2 := hk.cell_ 2 rfl
      have c3 := hk.cell_ 3 rfl
      have c4 := hk.cell_ 4 rfl
      have c5 := hk.cell_ 5 rfl
      go_wp2_with fail
      go_ret
      exact ⟨rfl, hB⟩
end Go.Proofs.Ytcpnfcnobnjhdaa
