/- Parts of the proofs of this seat: RefJ1. Each part says what it proves; no condition beyond those stated there. -/
import Derived.Test.YtcpnfcnobnjhdaaB8
import Derived.Test.YtcpnfcnobnjhdaaB13

/- The judge of the specification: its small functions. -/
namespace Go.Proofs.Ytcpnfcnobnjhdaa
open Go.RowKit
set_option maxRecDepth 100000 in
theorem refShaped_any (s : Sh) (A : Option Addr) (c : Nat) (pl : List (List Int)) (w : World) (hS : ShAt w w.heap.size s) (hv : VShop s.p) (hP : Plan w w.heap.size A pl) (hf : PFits pl) :
    Calls Try.prog 65 #[.agg #[.int .i64 s.p.op, .int .i64 s.p.cl, .slice s.aH s.p.hol.length s.cH, .int .i64 s.p.mach, .slice s.aS s.p.setup.length s.cS, .slice s.aJ s.p.jobs.length s.cJ], .slice A pl.length c] w fun e w' => e = .returned (.bool (shapedB s.p pl)) ∧ Below w.heap.size w w' := by
  have hjn := hv.jobn
  have hf1 := hf.h1
  have HE : Hid (shapedB s.p pl = (decide (pl.length = s.p.jobs.length) && shapeL (pl.drop 0) (s.p.jobs.drop 0))) := rfl
  obtain ⟨p, aH, cH, aS, cS, aJ, cJ⟩ := s
  dsimp only at *
  have hk := Blk.new w 25 #[.int .i64 p.op, .int .i64 p.cl, .slice aH p.hol.length cH, .int .i64 p.mach, .slice aS p.setup.length cS, .slice aJ p.jobs.length cJ]
  have hB := (Below.refl w.heap.size w).alloc (Nat.le_refl _) (.cells #[.int .i64 p.op, .int .i64 p.cl, .slice aH p.hol.length cH, .int .i64 p.mach, .slice aS p.setup.length cS, .slice aJ p.jobs.length cJ] 25)
  by_cases hne : pl.length = p.jobs.length
  · have hneb : ((pl.length : Int) == (p.jobs.length : Int)) = true := by simp; omega
    have hneb2 : ((pl.length : Int) != (p.jobs.length : Int)) = false := by simp; omega
    have hne' : pl.length ≤ p.jobs.length ∧ p.jobs.length ≤ pl.length := by omega
    have HNE := hide hne
    clear hne
    go_enter Try.func65, Try.ntmps65
    go_wp2_with fail
    generalize w.alloc (.cells #[.int .i64 p.op, .int .i64 p.cl, .slice aH p.hol.length cH, .int .i64 p.mach, .slice aS p.setup.length cS, .slice aJ p.jobs.length cJ] 25) = W at *
    go_loopw [5] (fun x W => ∃ i : Nat, x = .int .i64 i ∧ i ≤ pl.length ∧ Hid (shapedB p pl = shapeL (pl.drop i) (p.jobs.drop i)) ∧ Blk W w.heap.size 25 #[.int .i64 p.op, .int .i64 p.cl, .slice aH p.hol.length cH, .int .i64 p.mach, .slice aS p.setup.length cS, .slice aJ p.jobs.length cJ] ∧ Below w.heap.size w W) (fun x _ => pl.length - (intOf x).toNat)
    case atStart => exact ⟨0, rfl, Nat.zero_le _, (by show _ = _; rw [HE.out, HNE.out]; simp), hk, hB⟩
    case round =>
      clear hk hB
      obtain ⟨W, rfl⟩ : ∃ W : World, W = wr := ⟨_, rfl⟩
      obtain ⟨i, rfl, hi, HS, hk, hB⟩ := hrel
      by_cases hlt : i < pl.length
      · obtain ⟨l, hl⟩ : ∃ l, pl[i]? = some l := ⟨_, List.getElem?_eq_getElem hlt⟩
        obtain ⟨st, hst⟩ : ∃ st, p.jobs[i]? = some st := ⟨_, List.getElem?_eq_getElem (by omega)⟩
        have hll := hf.h2 l (List.mem_of_getElem? hl)
        have hsl := (hv.steps i st hst).1
        obtain ⟨bp, offp, A', c', rfl, hb0, hc, hSl⟩ := plan_at (hP.on hB) hl
        obtain ⟨b, off, A2, c2, hA2, hb2, hc2, _⟩ := job_at (hS.on hB).jobs hst
        dsimp only at hA2
        subst hA2
        have HST := hide (shapeL_step hl hst)
        have HLL := hide hl
        clear hl hst
        by_cases hlen : l.length = st.length
        · have hlb : ((l.length : Int) == (st.length : Int)) = true := by simp; omega
          have hlb2 : ((l.length : Int) != (st.length : Int)) = false := by simp; omega
          have HLEN := hide hlen
          clear hlen
          have c0 := hk.cell_ 0 rfl
          have c1 := hk.cell_ 1 rfl
          have c2 := hk.cell_ 2 rfl
          have c3 := hk.cell_ 3 rfl
          have c4 := hk.cell_ 4 rfl
          have c5 := hk.cell_ 5 rfl
          go_wp2_with fail
          refine wp_region_quiet (C := fun w' => ∃ u : Since W, w' = u.w) (by kernel_rfl) (by kernel_rfl) (Since.start W) ?_
          dsimp only
          have y_c0 := Since.cell c0
          have y_c1 := Since.cell c1
          have y_c2 := Since.cell c2
          have y_c3 := Since.cell c3
          have y_c4 := Since.cell c4
          have y_c5 := Since.cell c5
          have y_hc := Since.cell hc
          have y_hc2 := Since.cell hc2
          clear c0 c1 c2 c3 c4 c5
          repeat (go_big_quiet_step ((fail)))
          refine wpQuiet_nil ?_
          rintro W ⟨⟨_, hb⟩, rfl⟩
          try dsimp only at hb ⊢
          replace hc : W.cell? _ = _ := y_hc ⟨W, hb⟩
          replace hc2 : W.cell? _ = _ := y_hc2 ⟨W, hb⟩
          clear y_c0 y_c1 y_c2 y_c3 y_c4 y_c5 y_hc y_hc2
          replace hk := hk.below hb hk.lt
          replace hB := hB.trans (hb.mono hB.size)
          clear hb
          have c0 := hk.cell_ 0 rfl
          have c1 := hk.cell_ 1 rfl
          have c2 := hk.cell_ 2 rfl
          have c3 := hk.cell_ 3 rfl
          have c4 := hk.cell_ 4 rfl
          have c5 := hk.cell_ 5 rfl
          go_wp2_with fail
          clear c0 c1 c2 c3 c4 c5
          clear hc hc2 hSl
          go_loopw [6] (fun y W => ∃ k : Nat, y = .int .i64 k ∧ k ≤ l.length ∧ Hid (l.all (fun t => inB 0 t 100000000) = (l.drop k).all (fun t => inB 0 t 100000000)) ∧ Blk W w.heap.size 25 #[.int .i64 p.op, .int .i64 p.cl, .slice aH p.hol.length cH, .int .i64 p.mach, .slice aS p.setup.length cS, .slice (some ⟨b, off, none⟩) p.jobs.length cJ] ∧ Below w.heap.size w W) (fun y _ => l.length - (intOf y).toNat)
          case atStart => exact ⟨0, rfl, Nat.zero_le _, hide rfl, hk, hB⟩
          case round =>
            clear hk hB
            obtain ⟨W, rfl⟩ : ∃ W : World, W = wr := ⟨_, rfl⟩
            obtain ⟨k, rfl, hk2, HS2, hk, hB⟩ := hrel
            obtain ⟨b3, off3, A3, c3, hA3, hb3, hc, hSl⟩ := plan_at (hP.on hB) HLL.out
            injection hA3 with hA3
            injection hA3 with h7 h8
            subst h7 h8
            by_cases hlk : k < l.length
            · obtain ⟨t, ht⟩ : ∃ t, l[k]? = some t := ⟨_, List.getElem?_eq_getElem hlk⟩
              obtain ⟨b4, off4, rfl, hb4, hct⟩ := int_at hSl ht
              have HT := hide (all_drop (f := fun t => inB 0 t 100000000) ht)
              clear ht
              have c0 := hk.cell_ 0 rfl
              have c1 := hk.cell_ 1 rfl
              have c2 := hk.cell_ 2 rfl
              have c3 := hk.cell_ 3 rfl
              have c4 := hk.cell_ 4 rfl
              have c5 := hk.cell_ 5 rfl
              cases hok : inB 0 t 100000000
              all_goals
                go_wp2_with fail
                refine (refWithin_any _ _ _ _).mono ?_
                rintro e w' ⟨rfl, rfl⟩
                rw [hok]
                go_wp2_with fail
              · go_ret
                exact ⟨ret_bool (by rw [HS.out, HST.out, HLEN.out, HS2.out, HT.out, hok]; simp), hB⟩
              · go_roundw
                case rel => exact ⟨k + 1, by go_num, by omega, (by show _ = _; rw [HS2.out, HT.out, hok]; rfl), hk, hB⟩
                case measure => simp [intOf]; omega
            · obtain rfl : k = l.length := by omega
              have HS3 : Hid (l.all (fun t => inB 0 t 100000000) = true) := by show _ = _; rw [HS2.out, nomore]; rfl
              have c0 := hk.cell_ 0 rfl
              have c1 := hk.cell_ 1 rfl
              have c2 := hk.cell_ 2 rfl
              have c3 := hk.cell_ 3 rfl
              have c4 := hk.cell_ 4 rfl
              have c5 := hk.cell_ 5 rfl
              go_wp2_with fail
              go_roundw
              case rel => exact ⟨i + 1, by go_num, by omega, (by show _ = _; rw [HS.out, HST.out, HS3.out, HLEN.out]; simp), hk, hB⟩
              case measure => simp [intOf]; omega
        · have hlb : ((l.length : Int) == (st.length : Int)) = false := by simp; omega
          have hlb2 : ((l.length : Int) != (st.length : Int)) = true := by simp; omega
          have HLEN := hide hlen
          clear hlen
          have c0 := hk.cell_ 0 rfl
          have c1 := hk.cell_ 1 rfl
          have c2 := hk.cell_ 2 rfl
          have c3 := hk.cell_ 3 rfl
          have c4 := hk.cell_ 4 rfl
          have c5 := hk.cell_ 5 rfl
          go_wp2_with fail
          refine wp_region_quiet (C := fun w' => ∃ u : Since W, w' = u.w) (by kernel_rfl) (by kernel_rfl) (Since.start W) ?_
          dsimp only
          have y_c0 := Since.cell c0
          have y_c1 := Since.cell c1
          have y_c2 := Since.cell c2
          have y_c3 := Since.cell c3
          have y_c4 := Since.cell c4
          have y_c5 := Since.cell c5
          have y_hc := Since.cell hc
          have y_hc2 := Since.cell hc2
          clear c0 c1 c2 c3 c4 c5
          repeat (go_big_quiet_step ((fail)))
          refine wpQuiet_nil ?_
          rintro W ⟨⟨_, hb⟩, rfl⟩
          try dsimp only at hb ⊢
          replace hc : W.cell? _ = _ := y_hc ⟨W, hb⟩
          replace hc2 : W.cell? _ = _ := y_hc2 ⟨W, hb⟩
          clear y_c0 y_c1 y_c2 y_c3 y_c4 y_c5 y_hc y_hc2
          replace hk := hk.below hb hk.lt
          replace hB := hB.trans (hb.mono hB.size)
          clear hb
          have c0 := hk.cell_ 0 rfl
          have c1 := hk.cell_ 1 rfl
          have c2 := hk.cell_ 2 rfl
          have c3 := hk.cell_ 3 rfl
          have c4 := hk.cell_ 4 rfl
          have c5 := hk.cell_ 5 rfl
          go_wp2_with fail
          go_ret
          exact ⟨ret_bool (by rw [HS.out, HST.out, decide_eq_false HLEN.out]; rfl), hB⟩
      · obtain rfl : i = pl.length := by omega
        go_wp2_with fail
        go_ret
        exact ⟨ret_bool (by rw [HS.out, nomore]; simp [shapeL]), hB⟩
  · have hneb : ((pl.length : Int) == (p.jobs.length : Int)) = false := by simp; omega
    have hneb2 : ((pl.length : Int) != (p.jobs.length : Int)) = true := by simp; omega
    have HNE := hide hne
    clear hne
    go_enter Try.func65, Try.ntmps65
    go_wp2_with fail
    go_ret
    exact ⟨ret_bool (by rw [HE.out, decide_eq_false HNE.out]; rfl), hB⟩

noncomputable def apartB (p : Shop) (a b : At) : Bool := decide (roomF p a b.x.c ≤ b.t) || decide (roomF p b a.x.c ≤ a.t)
theorem togB_same {p : Shop} {a b : At} (h : a.x.m = b.x.m) : togB p a b = apartB p a b := by unfold togB apartB; rw [decide_eq_true h]; simp
theorem togB_other {p : Shop} {a b : At} (h : ¬ a.x.m = b.x.m) : togB p a b = true := by unfold togB; rw [decide_eq_false h]; simp
set_option maxRecDepth 100000 in
theorem apart_any (s : Sh) (a b : At) (w : World) (hS : ShAt w w.heap.size s) (hv : VShop s.p) (hfa : AtFit s.p a) (hfb : AtFit s.p b) (hm : a.x.m = b.x.m) :
    Calls Try.prog 66 #[.agg #[.int .i64 s.p.op, .int .i64 s.p.cl, .slice s.aH s.p.hol.length s.cH, .int .i64 s.p.mach, .slice s.aS s.p.setup.length s.cS, .slice s.aJ s.p.jobs.length s.cJ], .agg #[.int .i64 a.x.m, .int .i64 a.x.mi, .int .i64 a.x.c, .int .i64 a.x.d], .int .i64 a.t, .agg #[.int .i64 b.x.m, .int .i64 b.x.mi, .int .i64 b.x.c, .int .i64 b.x.d], .int .i64 b.t] w fun e w' => e = .returned (.bool (apartB s.p a b)) ∧ Below w.heap.size w w' := by
  have HR : Hid (apartB s.p a b = (decide (roomF s.p a b.x.c ≤ b.t) || decide (roomF s.p b a.x.c ≤ a.t))) := rfl
  have HRA : Hid (roomF s.p a b.x.c = if a.x.c = b.x.c then a.t + a.x.mi else a.t + a.x.mi + setupOf s.p a.x.m) := rfl
  have HRB : Hid (roomF s.p b a.x.c = if b.x.c = a.x.c then b.t + b.x.mi else b.t + b.x.mi + setupOf s.p a.x.m) := by rw [hm]; rfl
  obtain ⟨t0, t1, mi0, mi1, d0, d1, m0, m1⟩ := hfa
  obtain ⟨t0', t1', mi0', mi1', _, _, _, _⟩ := hfb
  obtain ⟨hsu, hs0, hs1⟩ := setup_get hv m0 m1
  obtain ⟨bs, offs, hA, hbs, hcs⟩ := int_at hS.setup hsu
  have hln : a.x.m.toNat < s.p.setup.length := (List.getElem?_eq_some_iff.1 hsu).1
  clear hm
  obtain ⟨p, aH, cH, aS, cS, aJ, cJ⟩ := s
  dsimp only at *
  subst hA
  generalize setupOf p a.x.m = S at *
  generalize roomF p a b.x.c = RA at *
  generalize roomF p b a.x.c = RB at *
  have hln2 : a.x.m < (p.setup.length : Int) := by omega
  clear hsu
  have hB := (((Below.refl w.heap.size w).alloc (Nat.le_refl _) (.cells #[.int .i64 p.op, .int .i64 p.cl, .slice aH p.hol.length cH, .int .i64 p.mach, .slice (some ⟨bs, offs, none⟩) p.setup.length cS, .slice aJ p.jobs.length cJ] 25)).alloc (by simp) (.cells #[.int .i64 a.x.m, .int .i64 a.x.mi, .int .i64 a.x.c, .int .i64 a.x.d] 69)).alloc (by simp; omega) (.cells #[.int .i64 b.x.m, .int .i64 b.x.mi, .int .i64 b.x.c, .int .i64 b.x.d] 69)
  replace hcs := (hB.cell (p := ⟨bs, offs + a.x.m.toNat, none⟩) hbs).trans hcs
  have z4 := (((Blk.new w 25 #[.int .i64 p.op, .int .i64 p.cl, .slice aH p.hol.length cH, .int .i64 p.mach, .slice (some ⟨bs, offs, none⟩) p.setup.length cS, .slice aJ p.jobs.length cJ]).alloc (.cells #[.int .i64 a.x.m, .int .i64 a.x.mi, .int .i64 a.x.c, .int .i64 a.x.d] 69)).alloc (.cells #[.int .i64 b.x.m, .int .i64 b.x.mi, .int .i64 b.x.c, .int .i64 b.x.d] 69)).cell_ 4 rfl
  have hcc : (a.x.c = b.x.c ∧ a.t + a.x.mi ≤ b.t) ∨ (a.x.c = b.x.c ∧ ¬ a.t + a.x.mi ≤ b.t) ∨ (¬ a.x.c = b.x.c ∧ a.t + a.x.mi + S ≤ b.t) ∨ (¬ a.x.c = b.x.c ∧ ¬ a.t + a.x.mi + S ≤ b.t) := by omega
  rcases hcc with ⟨hcc, h1⟩ | ⟨hcc, h1⟩ | ⟨hcc, h1⟩ | ⟨hcc, h1⟩
  all_goals
    first | have hcb : (a.x.c != b.x.c) = false := by simpa using hcc | have hcb : (a.x.c != b.x.c) = true := by simpa using hcc
    have HCC := hide hcc
    clear hcc
    go_enter Try.func66, Try.ntmps66
    go_wp2_with fail
    go_ret
  · exact ⟨ret_bool (by rw [HR.out, HRA.out, if_pos HCC.out, decide_eq_true h1]; rfl), hB⟩
  · exact ⟨ret_bool (by rw [HR.out, HRA.out, HRB.out, if_pos HCC.out, if_pos HCC.out.symm, decide_eq_false (show ¬ a.t + a.x.mi ≤ b.t by omega)]; rfl), hB⟩
  · exact ⟨ret_bool (by rw [HR.out, HRA.out, if_neg HCC.out, decide_eq_true h1]; rfl), hB⟩
  · exact ⟨ret_bool (by rw [HR.out, HRA.out, HRB.out, if_neg HCC.out, if_neg (fun h => HCC.out h.symm), decide_eq_false (show ¬ a.t + a.x.mi + S ≤ b.t by omega)]; rfl), hB⟩

theorem apart_is (s : Sh) (a b : At) (v : Bool) (w : World) (hS : ShAt w w.heap.size s) (hv : VShop s.p) (hfa : AtFit s.p a) (hfb : AtFit s.p b) (hm : a.x.m = b.x.m) (h : apartB s.p a b = v) :
    Calls Try.prog 66 #[.agg #[.int .i64 s.p.op, .int .i64 s.p.cl, .slice s.aH s.p.hol.length s.cH, .int .i64 s.p.mach, .slice s.aS s.p.setup.length s.cS, .slice s.aJ s.p.jobs.length s.cJ], .agg #[.int .i64 a.x.m, .int .i64 a.x.mi, .int .i64 a.x.c, .int .i64 a.x.d], .int .i64 a.t, .agg #[.int .i64 b.x.m, .int .i64 b.x.mi, .int .i64 b.x.c, .int .i64 b.x.d], .int .i64 b.t] w fun e w' => e = .returned (.bool v) ∧ Below w.heap.size w w' := by
  rw [← h]; exact apart_any s a b w hS hv hfa hfb hm
theorem ready0_any (s : Sh) (A : Option Addr) (c : Nat) (n : Nat) (j : Nat) (w : World) :
    Calls Try.prog 63 #[.agg #[.int .i64 s.p.op, .int .i64 s.p.cl, .slice s.aH s.p.hol.length s.cH, .int .i64 s.p.mach, .slice s.aS s.p.setup.length s.cS, .slice s.aJ s.p.jobs.length s.cJ], .slice A n c, .agg #[.int .i64 j, .int .i64 0]] w fun e w' => e = .returned (.int .i64 0) ∧ Below w.heap.size w w' := by
  have hB := ((Below.refl w.heap.size w).alloc (Nat.le_refl _) (.cells #[.int .i64 s.p.op, .int .i64 s.p.cl, .slice s.aH s.p.hol.length s.cH, .int .i64 s.p.mach, .slice s.aS s.p.setup.length s.cS, .slice s.aJ s.p.jobs.length s.cJ] 25)).alloc (by simp) (.cells #[.int .i64 j, .int .i64 0] 77)
  go_enter Try.func63, Try.ntmps63
  go_wp2_with fail
  go_ret
  exact ⟨rfl, hB⟩
set_option maxRecDepth 100000 in
theorem ready1_any (s : Sh) (A : Option Addr) (c : Nat) (pl : List (List Int)) (j k : Nat) (st : List Step) (x : Step) (l : List Int) (t : Int) (w : World) (hS : ShAt w w.heap.size s) (hP : Plan w w.heap.size A pl)
    (hj : s.p.jobs[j]? = some st) (hx : st[k]? = some x) (hl : pl[j]? = some l) (ht : l[k]? = some t) (hn : k ≤ 1000) (b1 : -1000000000000 ≤ t ∧ t ≤ 1000000000000) (b2 : 0 ≤ x.mi ∧ x.mi ≤ 1000000) (b3 : 0 ≤ x.d ∧ x.d ≤ 1000000) :
    Calls Try.prog 63 #[.agg #[.int .i64 s.p.op, .int .i64 s.p.cl, .slice s.aH s.p.hol.length s.cH, .int .i64 s.p.mach, .slice s.aS s.p.setup.length s.cS, .slice s.aJ s.p.jobs.length s.cJ], .slice A pl.length c, .agg #[.int .i64 j, .int .i64 ((k : Int) + 1)]] w fun e w' => e = .returned (.int .i64 (t + x.mi + x.d)) ∧ Below w.heap.size w w' := by
  obtain ⟨b, off, A', c', hA, hb0, hc, hSl⟩ := job_at hS.jobs hj
  obtain ⟨bx, offx, hAx, hbx, d0, d1, d2, d3⟩ := step_at hSl hx
  obtain ⟨bp, offp, Ap, cp, rfl, hbp, hcp, hSp⟩ := plan_at hP hl
  obtain ⟨bt, offt, rfl, hbt, hct⟩ := int_at hSp ht
  have hjl : j < s.p.jobs.length := (List.getElem?_eq_some_iff.1 hj).1
  have hkl : k < st.length := (List.getElem?_eq_some_iff.1 hx).1
  have hpl : j < pl.length := (List.getElem?_eq_some_iff.1 hl).1
  have htl : k < l.length := (List.getElem?_eq_some_iff.1 ht).1
  clear hj hx hl ht hS hP hSl hSp
  obtain ⟨p, aH, cH, aS, cS, aJ, cJ⟩ := s
  dsimp only at *
  subst hA hAx
  have hk := Blk.new w 25 #[.int .i64 p.op, .int .i64 p.cl, .slice aH p.hol.length cH, .int .i64 p.mach, .slice aS p.setup.length cS, .slice (some ⟨b, off, none⟩) p.jobs.length cJ]
  have hB := (Below.refl w.heap.size w).alloc (Nat.le_refl _) (.cells #[.int .i64 p.op, .int .i64 p.cl, .slice aH p.hol.length cH, .int .i64 p.mach, .slice aS p.setup.length cS, .slice (some ⟨b, off, none⟩) p.jobs.length cJ] 25)
  have hsz_w : (w.alloc (.cells #[.int .i64 p.op, .int .i64 p.cl, .slice aH p.hol.length cH, .int .i64 p.mach, .slice aS p.setup.length cS, .slice (some ⟨b, off, none⟩) p.jobs.length cJ] 25)).heap.size = w.heap.size + 1 := by simp
  have hk1 : (((k : Int) + 1) == 0) = false := by simp; omega
  have x1 : IntKind.i64.wrap (k : Int) = (k : Int) := IntWalk.i64_in _ (by omega)
  have x2 : (k : Int) < (st.length : Int) := by omega
  have x3 : (k : Int) < (l.length : Int) := by omega
  have x4 : IntKind.i64.wrap ((k : Int) + 1 - 1) = (k : Int) := by rw [IntWalk.i64_in _ (by omega)]; omega
  go_enter Try.func63, Try.ntmps63
  go_wp2_with fail
  generalize w.alloc (.cells #[.int .i64 p.op, .int .i64 p.cl, .slice aH p.hol.length cH, .int .i64 p.mach, .slice aS p.setup.length cS, .slice (some ⟨b, off, none⟩) p.jobs.length cJ] 25) = W at *
  go_wp2_with fail
  have ha := Blk.new W 77 #[.int .i64 j, .int .i64 ((k : Int) + 1)]
  replace hk := hk.alloc (.cells #[.int .i64 j, .int .i64 ((k : Int) + 1)] 77)
  rw [hsz_w] at ha
  replace hB := hB.alloc hB.size (.cells #[.int .i64 j, .int .i64 ((k : Int) + 1)] 77)
  generalize W.alloc (.cells #[.int .i64 j, .int .i64 ((k : Int) + 1)] 77) = W at *
  have c0 := hk.cell_ 0 rfl
  have c1 := hk.cell_ 1 rfl
  have c2 := hk.cell_ 2 rfl
  have c3 := hk.cell_ 3 rfl
  have c4 := hk.cell_ 4 rfl
  have c5 := hk.cell_ 5 rfl
  have a0 := ha.cell_ 0 rfl
  have a1 := ha.cell_ 1 rfl
  clear hsz_w
  have hc0 := hc
  replace hc := (hB.cell (p := ⟨b, off + j, none⟩) hb0).trans hc
  have d00 := d0
  replace d0 := (hB.cell (p := ⟨bx, offx + k * 4, none⟩) hbx).trans d0
  have d10 := d1
  replace d1 := (hB.cell (p := ⟨bx, offx + k * 4 + 1, none⟩) hbx).trans d1
  have d20 := d2
  replace d2 := (hB.cell (p := ⟨bx, offx + k * 4 + 2, none⟩) hbx).trans d2
  have d30 := d3
  replace d3 := (hB.cell (p := ⟨bx, offx + k * 4 + 3, none⟩) hbx).trans d3
  have hcp0 := hcp
  replace hcp := (hB.cell (p := ⟨bp, offp + j, none⟩) hbp).trans hcp
  have hct0 := hct
  replace hct := (hB.cell (p := ⟨bt, offt + k, none⟩) hbt).trans hct
  go_wp2_with fail
  have hB2 := hB.alloc hB.size (.cells #[.int .i64 0, .int .i64 0, .int .i64 0, .int .i64 0] 69)
  have n5 := (hk.alloc (.cells #[.int .i64 0, .int .i64 0, .int .i64 0, .int .i64 0] 69)).cell_ 5 rfl
  have na0 := (ha.alloc (.cells #[.int .i64 0, .int .i64 0, .int .i64 0, .int .i64 0] 69)).cell_ 0 rfl
  have na1 := (ha.alloc (.cells #[.int .i64 0, .int .i64 0, .int .i64 0, .int .i64 0] 69)).cell_ 1 rfl
  have nhc := (hB2.cell (p := ⟨b, off + j, none⟩) hb0).trans hc0
  have nd0 := (hB2.cell (p := ⟨bx, offx + k * 4, none⟩) hbx).trans d00
  have nd1 := (hB2.cell (p := ⟨bx, offx + k * 4 + 1, none⟩) hbx).trans d10
  have nd2 := (hB2.cell (p := ⟨bx, offx + k * 4 + 2, none⟩) hbx).trans d20
  have nd3 := (hB2.cell (p := ⟨bx, offx + k * 4 + 3, none⟩) hbx).trans d30
  go_region
  clear n5 na0 na1 nhc nd0 nd1 nd2 nd3 hc d0 d1 d2 d3 hc0 d00 d10 d20 d30 hB2
  clear c0 c1 c2 c3 c4 c5 a0 a1
  have hr := (Blk.new W 69 #[.int .i64 x.m, .int .i64 x.mi, .int .i64 x.c, .int .i64 x.d]).drew
  replace hk := (hk.alloc (.cells #[.int .i64 x.m, .int .i64 x.mi, .int .i64 x.c, .int .i64 x.d] 69)).drew
  replace ha := (ha.alloc (.cells #[.int .i64 x.m, .int .i64 x.mi, .int .i64 x.c, .int .i64 x.d] 69)).drew
  replace hcp := ((hB.alloc hB.size (.cells #[.int .i64 x.m, .int .i64 x.mi, .int .i64 x.c, .int .i64 x.d] 69)).drew.cell (p := ⟨bp, offp + j, none⟩) hbp).trans hcp0
  replace hct := ((hB.alloc hB.size (.cells #[.int .i64 x.m, .int .i64 x.mi, .int .i64 x.c, .int .i64 x.d] 69)).drew.cell (p := ⟨bt, offt + k, none⟩) hbt).trans hct0
  replace hB := (hB.alloc hB.size (.cells #[.int .i64 x.m, .int .i64 x.mi, .int .i64 x.c, .int .i64 x.d] 69)).drew
  go_wp2_with fail
  generalize (W.alloc (.cells #[.int .i64 x.m, .int .i64 x.mi, .int .i64 x.c, .int .i64 x.d] 69)).drew = W at *
  have e1 : IntKind.i64.wrap (t + x.mi) = t + x.mi := IntWalk.i64_in _ (by omega)
  have e2 : IntKind.i64.wrap (t + x.mi + x.d) = t + x.mi + x.d := IntWalk.i64_in _ (by omega)
  have c0 := hk.cell_ 0 rfl
  have c1 := hk.cell_ 1 rfl
  have c2 := hk.cell_ 2 rfl
  have c3 := hk.cell_ 3 rfl
  have c4 := hk.cell_ 4 rfl
  have c5 := hk.cell_ 5 rfl
  have a0 := ha.cell_ 0 rfl
  have a1 := ha.cell_ 1 rfl
  have r0 := hr.cell_ 0 rfl
  have r1 := hr.cell_ 1 rfl
  have r2 := hr.cell_ 2 rfl
  have r3 := hr.cell_ 3 rfl
  go_wp2_with fail
  refine wp_region_quiet (C := fun w' => ∃ u : Since W, w' = u.w) (by kernel_rfl) (by kernel_rfl) (Since.start W) ?_
  dsimp only
  have y_c0 := Since.cell c0
  have y_c1 := Since.cell c1
  have y_c2 := Since.cell c2
  have y_c3 := Since.cell c3
  have y_c4 := Since.cell c4
  have y_c5 := Since.cell c5
  have y_a0 := Since.cell a0
  have y_a1 := Since.cell a1
  have y_r0 := Since.cell r0
  have y_r1 := Since.cell r1
  have y_r2 := Since.cell r2
  have y_r3 := Since.cell r3
  have y_hcp := Since.cell hcp
  have y_hct := Since.cell hct
  clear c0 c1 c2 c3 c4 c5 a0 a1 r0 r1 r2 r3
  repeat (go_big_quiet_step ((fail)))
  refine wpQuiet_nil ?_
  rintro W ⟨⟨_, hb⟩, rfl⟩
  try dsimp only at hb ⊢
  replace hcp : W.cell? _ = _ := y_hcp ⟨W, hb⟩
  replace hct : W.cell? _ = _ := y_hct ⟨W, hb⟩
  clear y_c0 y_c1 y_c2 y_c3 y_c4 y_c5 y_a0 y_a1 y_r0 y_r1 y_r2 y_r3 y_hcp y_hct
  replace hk := hk.below hb hk.lt
  replace ha := ha.below hb ha.lt
  replace hr := hr.below hb hr.lt
  replace hB := hB.trans (hb.mono hB.size)
  clear hb
  have c0 := hk.cell_ 0 rfl
  have c1 := hk.cell_ 1 rfl
  have c2 := hk.cell_ 2 rfl
  have c3 := hk.cell_ 3 rfl
  have c4 := hk.cell_ 4 rfl
  have c5 := hk.cell_ 5 rfl
  have a0 := ha.cell_ 0 rfl
  have a1 := ha.cell_ 1 rfl
  have r0 := hr.cell_ 0 rfl
  have r1 := hr.cell_ 1 rfl
  have r2 := hr.cell_ 2 rfl
  have r3 := hr.cell_ 3 rfl
  go_wp2_with fail
  go_ret
  exact ⟨rfl, hB⟩
theorem ready1k_any (s : Sh) (A : Option Addr) (c : Nat) (pl : List (List Int)) (j k : Nat) (st : List Step) (x : Step) (l : List Int) (t : Int) (K : Int) (hK : (k : Int) + 1 = K) (w : World) (hS : ShAt w w.heap.size s) (hP : Plan w w.heap.size A pl)
    (hj : s.p.jobs[j]? = some st) (hx : st[k]? = some x) (hl : pl[j]? = some l) (ht : l[k]? = some t) (hn : k ≤ 1000) (b1 : -1000000000000 ≤ t ∧ t ≤ 1000000000000) (b2 : 0 ≤ x.mi ∧ x.mi ≤ 1000000) (b3 : 0 ≤ x.d ∧ x.d ≤ 1000000) :
    Calls Try.prog 63 #[.agg #[.int .i64 s.p.op, .int .i64 s.p.cl, .slice s.aH s.p.hol.length s.cH, .int .i64 s.p.mach, .slice s.aS s.p.setup.length s.cS, .slice s.aJ s.p.jobs.length s.cJ], .slice A pl.length c, .agg #[.int .i64 j, .int .i64 K]] w fun e w' => e = .returned (.int .i64 (t + x.mi + x.d)) ∧ Below w.heap.size w w' := by
  subst hK
  exact ready1_any s A c pl j k st x l t w hS hP hj hx hl ht hn b1 b2 b3
end Go.Proofs.Ytcpnfcnobnjhdaa
