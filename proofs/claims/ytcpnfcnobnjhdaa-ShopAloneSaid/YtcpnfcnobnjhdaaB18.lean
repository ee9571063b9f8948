/- Parts of the proofs of this seat: RefJudge. Each part says what it proves; no condition beyond those stated there. -/
import Derived.Test.YtcpnfcnobnjhdaaB17

/- The judge of the specification: the walk. -/
namespace Go.Proofs.Ytcpnfcnobnjhdaa
open Go.RowKit
def AP (a : At) : List Value := [.int .i64 a.j, .int .i64 a.k]
theorem slc_map {α β : Type} {f : β → List Value} {g : α → β} {sz : Nat} {w : World} {B : Nat} {A : Option Addr} {xs : List α} (h : Slc (fun x => f (g x)) sz w B A xs) : Slc f sz w B A (xs.map g) := fun i y hy => by
  rw [List.getElem?_map] at hy
  cases hx : xs[i]? with
  | none => rw [hx] at hy; cases hy
  | some x => rw [hx] at hy; injection hy with hy; subst hy; exact h i x hx
-- the i-th step: its pair, its row of the plan, its start
set_option maxRecDepth 100000 in
set_option maxHeartbeats 4000000 in
theorem refJudge_any (s : Sh) (A : Option Addr) (c : Nat) (pl : List (List Int)) (w : World) (hS : ShAt w w.heap.size s) (hv : VShop s.p) (hP : Plan w w.heap.size A pl) (hf : PFits pl) :
    Calls Try.prog 38 #[.agg #[.int .i64 s.p.op, .int .i64 s.p.cl, .slice s.aH s.p.hol.length s.cH, .int .i64 s.p.mach, .slice s.aS s.p.setup.length s.cS, .slice s.aJ s.p.jobs.length s.cJ], .slice A pl.length c] w (JPost s.p pl w) := by
  have hen := ents_len hv
  have v1 := hv.op0
  have v3 := hv.cl
  have HJ : Hid (judgeF s.p pl = if shapedB s.p pl then judgeL s.p (ats s.p pl) else (0, 0, 2)) := rfl
  have hk := Blk.new w 25 #[.int .i64 s.p.op, .int .i64 s.p.cl, .slice s.aH s.p.hol.length s.cH, .int .i64 s.p.mach, .slice s.aS s.p.setup.length s.cS, .slice s.aJ s.p.jobs.length s.cJ]
  have hB := (Below.refl w.heap.size w).alloc (Nat.le_refl _) (.cells #[.int .i64 s.p.op, .int .i64 s.p.cl, .slice s.aH s.p.hol.length s.cH, .int .i64 s.p.mach, .slice s.aS s.p.setup.length s.cS, .slice s.aJ s.p.jobs.length s.cJ] 25)
  go_enter Try.func38, Try.ntmps38
  go_wp2_with fail
  generalize w.alloc (.cells #[.int .i64 s.p.op, .int .i64 s.p.cl, .slice s.aH s.p.hol.length s.cH, .int .i64 s.p.mach, .slice s.aS s.p.setup.length s.cS, .slice s.aJ s.p.jobs.length s.cJ] 25) = W at *
  have c0 := hk.cell_ 0 rfl
  have c1 := hk.cell_ 1 rfl
  have c2 := hk.cell_ 2 rfl
  have c3 := hk.cell_ 3 rfl
  have c4 := hk.cell_ 4 rfl
  have c5 := hk.cell_ 5 rfl
  go_wp2_with fail
  refine (refShaped_any s A c pl _ (hS.on hB) hv (hP.on hB) hf).mono ?_
  rintro e W ⟨rfl, hb⟩
  clear c0 c1 c2 c3 c4 c5
  replace hk := hk.below hb hk.lt
  replace hB := hB.trans (hb.mono hB.size)
  clear hb
  have c0 := hk.cell_ 0 rfl
  have c1 := hk.cell_ 1 rfl
  have c2 := hk.cell_ 2 rfl
  have c3 := hk.cell_ 3 rfl
  have c4 := hk.cell_ 4 rfl
  have c5 := hk.cell_ 5 rfl
  cases hsh : shapedB s.p pl
  · go_wp2_with fail
    go_ret3
    exact ⟨ret_eq (by rw [HJ.out, hsh]; rfl), hB⟩
  have hp := shaped_facts hsh
  have HJ2 := hide (show judgeF s.p pl = judgeL s.p (ats s.p pl) by rw [HJ.out, if_pos hsh])
  have hal := ats_len s.p pl
  have hal2 : (ats s.p pl).length ≤ 96 := by omega
  have HOK := hide (fun (a : At) (h : a ∈ ats s.p pl) => ats_ok hv hp h)
  have HPV := hide (fun (i : Nat) (a : At) (h : (ats s.p pl)[i]? = some a) (hk : 0 < a.k) => ats_prev h hk)
  clear HJ hsh
  go_wp2_with fail
  refine (refList_any s _ (hS.on hB) hv).mono ?_
  rintro e W ⟨AL, cL, rfl, hb, hL0⟩
  clear c0 c1 c2 c3 c4 c5
  replace hk := hk.below hb hk.lt
  replace hB := hB.trans (hb.mono hB.size)
  clear hb
  have c0 := hk.cell_ 0 rfl
  have c1 := hk.cell_ 1 rfl
  have c2 := hk.cell_ 2 rfl
  have c3 := hk.cell_ 3 rfl
  have c4 := hk.cell_ 4 rfl
  have c5 := hk.cell_ 5 rfl
  have hL : Slc AP 2 W W.heap.size AL (ats s.p pl) := slc_map hL0
  rw [← hal]
  clear hL0 hal hen
  generalize ats s.p pl = L at *
  clear c0 c1 c2 c3 c4 c5
  go_wp2_with fail
  go_loopw [8] (fun x W => ∃ i : Nat, x = .int .i64 i ∧ i ≤ L.length ∧ Hid (shiftBad s.p L = shiftBad s.p (L.drop i)) ∧ Blk W w.heap.size 25 #[.int .i64 s.p.op, .int .i64 s.p.cl, .slice s.aH s.p.hol.length s.cH, .int .i64 s.p.mach, .slice s.aS s.p.setup.length s.cS, .slice s.aJ s.p.jobs.length s.cJ] ∧ Slc AP 2 W W.heap.size AL L ∧ Below w.heap.size w W) (fun x _ => L.length - (intOf x).toNat)
  case atStart => exact ⟨0, rfl, Nat.zero_le _, hide rfl, hk, hL, hB⟩
  case round =>
    clear hk hB hL
    obtain ⟨W, rfl⟩ : ∃ W : World, W = wr := ⟨_, rfl⟩
    obtain ⟨i, rfl, hi, HS, hk, hL, hB⟩ := hrel
    by_cases hlt : i < L.length
    · obtain ⟨a, ha⟩ : ∃ a, L[i]? = some a := ⟨_, List.getElem?_eq_getElem hlt⟩
      have HST := hide (shiftBad_drop (p := s.p) ha)
      obtain ⟨b, off, hA, hb0, d0, d1⟩ := hL.at2 ha (v0 := .int .i64 a.j) (v1 := .int .i64 a.k) rfl
      have hok := HOK.out a (List.mem_of_getElem? ha)
      obtain ⟨st, hj, hx⟩ := hok.job
      obtain ⟨l, t, hpl, hlt0, hpt, _⟩ := hp.start hj hx
      have hlt' : l[a.k]? = some a.t := by rw [hok.start, hpt]; exact hlt0
      obtain ⟨bp, offp, Ap, cp, hAp, hbp, hcp, hSp⟩ := plan_at (hP.on hB) hpl
      obtain ⟨bt, offt, hAt, hbt, hct⟩ := int_at hSp hlt'
      have o1 := hok.t0
      have o2 := hok.t1
      have o3 := hok.mi0
      have o4 := hok.mi1
      have o5 := hok.d0
      have o6 := hok.d1
      have i1 : (i : Int) < (L.length : Int) := by omega
      have i2 : (a.j : Int) < (pl.length : Int) := by have := (List.getElem?_eq_some_iff.1 hpl).1; omega
      have i3 : (a.k : Int) < (l.length : Int) := by have := (List.getElem?_eq_some_iff.1 hlt').1; omega
      have HJX := hide (And.intro hj hx)
      have HPL := hide (And.intro hpl hlt')
      have HA := hide ha
      clear ha hok hj hx hpl hlt0 hpt hlt'
      subst hA hAp hAt
      have fs1 := fstep1
      have HSW := hS.on hB
      have c0 := hk.cell_ 0 rfl
      have c1 := hk.cell_ 1 rfl
      have c2 := hk.cell_ 2 rfl
      have c3 := hk.cell_ 3 rfl
      have c4 := hk.cell_ 4 rfl
      have c5 := hk.cell_ 5 rfl
      cases hsb : shiftB s.p a.t a.x.mi
      all_goals
        go_wp2_with fail
        refine wp_region_quiet (C := fun w' => ∃ u : Since W, w' = u.w) (by kernel_rfl) (by kernel_rfl) (Since.start W) ?_
        dsimp only
        have y_c0 := Since.cell c0
        have y_c1 := Since.cell c1
        have y_c2 := Since.cell c2
        have y_c3 := Since.cell c3
        have y_c4 := Since.cell c4
        have y_c5 := Since.cell c5
        have y_d0 := Since.cell d0
        have y_d1 := Since.cell d1
        have y_hcp := Since.cell hcp
        have y_hct := Since.cell hct
        clear c0 c1 c2 c3 c4 c5
        repeat (go_big_quiet_step ((first | (go_at_call 59; exact Since.calls (at_any s a.j a.k st a.x _ (HSW.on (Since.h _)) HJX.out.1 HJX.out.2)) | (go_at_call 52; exact Since.calls (shift_any s a.t a.x.mi _ (HSW.on (Since.h _)) hv o1 (by omega) (by omega) (by omega))))))
        refine wpQuiet_nil ?_
        rintro W ⟨⟨_, hb⟩, rfl⟩
        try dsimp only at hb ⊢
        replace d0 : W.cell? _ = _ := y_d0 ⟨W, hb⟩
        replace d1 : W.cell? _ = _ := y_d1 ⟨W, hb⟩
        replace hcp : W.cell? _ = _ := y_hcp ⟨W, hb⟩
        replace hct : W.cell? _ = _ := y_hct ⟨W, hb⟩
        clear y_c0 y_c1 y_c2 y_c3 y_c4 y_c5 y_d0 y_d1 y_hcp y_hct
        replace hk := hk.below hb hk.lt
        replace hL := (hL.below hb).more hb.size
        replace hB := hB.trans (hb.mono hB.size)
        clear hb
        have c0 := hk.cell_ 0 rfl
        have c1 := hk.cell_ 1 rfl
        have c2 := hk.cell_ 2 rfl
        have c3 := hk.cell_ 3 rfl
        have c4 := hk.cell_ 4 rfl
        have c5 := hk.cell_ 5 rfl
        go_wp2_with fail
      · skip
        go_wp2_with fail
        refine wp_region_quiet (C := fun w' => ∃ u : Since W, w' = u.w) (by kernel_rfl) (by kernel_rfl) (Since.start W) ?_
        dsimp only
        have y_c0 := Since.cell c0
        have y_c1 := Since.cell c1
        have y_c2 := Since.cell c2
        have y_c3 := Since.cell c3
        have y_c4 := Since.cell c4
        have y_c5 := Since.cell c5
        have y_d0 := Since.cell d0
        have y_d1 := Since.cell d1
        clear c0 c1 c2 c3 c4 c5
        repeat (go_big_quiet_step ((fail)))
        refine wpQuiet_nil ?_
        rintro W ⟨⟨_, hb⟩, rfl⟩
        try dsimp only at hb ⊢
        replace d0 : W.cell? _ = _ := y_d0 ⟨W, hb⟩
        replace d1 : W.cell? _ = _ := y_d1 ⟨W, hb⟩
        clear y_c0 y_c1 y_c2 y_c3 y_c4 y_c5 y_d0 y_d1
        replace hk := hk.below hb hk.lt
        replace hL := (hL.below hb).more hb.size
        replace hB := hB.trans (hb.mono hB.size)
        clear hb
        have c0 := hk.cell_ 0 rfl
        have c1 := hk.cell_ 1 rfl
        have c2 := hk.cell_ 2 rfl
        have c3 := hk.cell_ 3 rfl
        have c4 := hk.cell_ 4 rfl
        have c5 := hk.cell_ 5 rfl
        go_wp2_with fail
        go_ret3
        exact ⟨ret_eq (by rw [HJ2.out]; unfold judgeL; rw [HS.out, HST.out, hsb]; rfl), hB⟩
      · go_roundw
        case rel => exact ⟨i + 1, by go_num, by omega, (by show _ = _; rw [HS.out, HST.out, hsb]; rfl), hk, hL, hB⟩
        case measure => simp [intOf]; omega
    · obtain rfl : i = L.length := by omega
      have HS0 : Hid (shiftBad s.p L = none) := by show _ = _; rw [HS.out, nomore]; rfl
      clear HS
      have c0 := hk.cell_ 0 rfl
      have c1 := hk.cell_ 1 rfl
      have c2 := hk.cell_ 2 rfl
      have c3 := hk.cell_ 3 rfl
      have c4 := hk.cell_ 4 rfl
      have c5 := hk.cell_ 5 rfl
      go_wp2_with fail
      clear c0 c1 c2 c3 c4 c5
      go_loopw [9] (fun x W => ∃ (i : Nat) (dr : Int), x = .int .i64 i ∧ i ≤ L.length ∧ Hid (earlyBad 0 L = earlyBad dr (L.drop i)) ∧ Hid (∀ i', i = i' + 1 → ∃ b, L[i']? = some b ∧ dr = b.dry) ∧ Blk W w.heap.size 25 #[.int .i64 s.p.op, .int .i64 s.p.cl, .slice s.aH s.p.hol.length s.cH, .int .i64 s.p.mach, .slice s.aS s.p.setup.length s.cS, .slice s.aJ s.p.jobs.length s.cJ] ∧ Slc AP 2 W W.heap.size AL L ∧ Below w.heap.size w W) (fun x _ => L.length - (intOf x).toNat)
      case atStart => exact ⟨0, 0, rfl, Nat.zero_le _, hide rfl, hide fun i' h => by omega, hk, hL, hB⟩
      case round =>
        clear hk hB hL
        obtain ⟨W, rfl⟩ : ∃ W : World, W = wr := ⟨_, rfl⟩
        obtain ⟨i, dr, rfl, hi, HS, HPR, hk, hL, hB⟩ := hrel
        by_cases hlt : i < L.length
        · obtain ⟨a, ha⟩ : ∃ a, L[i]? = some a := ⟨_, List.getElem?_eq_getElem hlt⟩
          have HST := hide (earlyBad_drop (dr := dr) ha)
          obtain ⟨b, off, hA, hb0, d0, d1⟩ := hL.at2 ha (v0 := .int .i64 a.j) (v1 := .int .i64 a.k) rfl
          have hok := HOK.out a (List.mem_of_getElem? ha)
          obtain ⟨st, hj, hx⟩ := hok.job
          obtain ⟨l, t, hpl, hlt0, hpt, _⟩ := hp.start hj hx
          have hlt' : l[a.k]? = some a.t := by rw [hok.start, hpt]; exact hlt0
          obtain ⟨bp, offp, Ap, cp, hAp, hbp, hcp, hSp⟩ := plan_at (hP.on hB) hpl
          obtain ⟨bt, offt, hAt, hbt, hct⟩ := int_at hSp hlt'
          have o1 := hok.t0
          have o2 := hok.t1
          have o3 := hok.mi0
          have o4 := hok.mi1
          have o5 := hok.d0
          have o6 := hok.d1
          have i1 : (i : Int) < (L.length : Int) := by omega
          have i2 : (a.j : Int) < (pl.length : Int) := by have := (List.getElem?_eq_some_iff.1 hpl).1; omega
          have i3 : (a.k : Int) < (l.length : Int) := by have := (List.getElem?_eq_some_iff.1 hlt').1; omega
          have HJX := hide (And.intro hj hx)
          have HPL := hide (And.intro hpl hlt')
          have HA := hide ha
          clear ha hok hj hx hpl hlt0 hpt hlt'
          subst hA hAp hAt
          have HSW := hS.on hB
          have HPW := hP.on hB
          by_cases hk0 : 0 < a.k
          · obtain ⟨i', hi', e, he, hej, hek⟩ := HPV.out i a HA.out hk0
            obtain ⟨e', he', hdr⟩ := HPR.out i' hi'
            clear hi'
            obtain rfl : e' = e := by rw [he] at he'; injection he' with he'; exact he'.symm
            have HDR := hide hdr
            clear hdr he'
            have hok2 := HOK.out _ (List.mem_of_getElem? he)
            obtain ⟨st2, hj2, hx2⟩ := hok2.job
            obtain ⟨l2, t2, hpl2, hlt2, hpt2, _⟩ := hp.start hj2 hx2
            have hlt3 : l2[e'.k]? = some e'.t := by rw [hok2.start, hpt2]; exact hlt2
            have q1 := hok2.t0
            have q2 := hok2.t1
            have q3 := hok2.mi0
            have q4 := hok2.mi1
            have q5 := hok2.d0
            have q6 := hok2.d1
            have hst2 := (hv.steps _ _ hj2).1
            have hkl2 := (List.getElem?_eq_some_iff.1 hx2).1
            rw [hej] at hj2 hpl2
            have HR2 := hide (And.intro hj2 (And.intro hx2 (And.intro hpl2 hlt3)))
            have hek' : (e'.k : Int) + 1 = (a.k : Int) := by omega
            have HEK := hide hek'
            have hk8 : e'.k ≤ 1000 := by omega
            clear he hok2 hej hek hj2 hx2 hpl2 hlt2 hpt2 hlt3 hek' hkl2
            have hdd : e'.dry = e'.t + e'.x.mi + e'.x.d := rfl
            have HDD := hide hdd
            clear hdd
            have c0 := hk.cell_ 0 rfl
            have c1 := hk.cell_ 1 rfl
            have c2 := hk.cell_ 2 rfl
            have c3 := hk.cell_ 3 rfl
            have c4 := hk.cell_ 4 rfl
            have c5 := hk.cell_ 5 rfl
            by_cases hbad : a.t < e'.t + e'.x.mi + e'.x.d
            · have x5 : decide (a.t < e'.t + e'.x.mi + e'.x.d) = true := decide_eq_true hbad
              go_wp2_with fail
              refine wp_region_quiet (C := fun w' => ∃ u : Since W, w' = u.w) (by kernel_rfl) (by kernel_rfl) (Since.start W) ?_
              dsimp only
              have y_c0 := Since.cell c0
              have y_c1 := Since.cell c1
              have y_c2 := Since.cell c2
              have y_c3 := Since.cell c3
              have y_c4 := Since.cell c4
              have y_c5 := Since.cell c5
              have y_d0 := Since.cell d0
              have y_d1 := Since.cell d1
              have y_hcp := Since.cell hcp
              have y_hct := Since.cell hct
              clear c0 c1 c2 c3 c4 c5
              repeat (go_big_quiet_step ((go_at_call 63; exact Since.calls (ready1k_any s (some ⟨bp, offp, none⟩) c pl a.j e'.k st2 e'.x l2 e'.t _ HEK.out _ (HSW.on (Since.h _)) (HPW.on (Since.h _)) HR2.out.1 HR2.out.2.1 HR2.out.2.2.1 HR2.out.2.2.2 hk8 ⟨by omega, by omega⟩ ⟨by omega, by omega⟩ ⟨q5, by omega⟩))))
              refine wpQuiet_nil ?_
              rintro W ⟨⟨_, hb⟩, rfl⟩
              try dsimp only at hb ⊢
              replace d0 : W.cell? _ = _ := y_d0 ⟨W, hb⟩
              replace d1 : W.cell? _ = _ := y_d1 ⟨W, hb⟩
              replace hcp : W.cell? _ = _ := y_hcp ⟨W, hb⟩
              replace hct : W.cell? _ = _ := y_hct ⟨W, hb⟩
              clear y_c0 y_c1 y_c2 y_c3 y_c4 y_c5 y_d0 y_d1 y_hcp y_hct
              replace hk := hk.below hb hk.lt
              replace hL := (hL.below hb).more hb.size
              replace hB := hB.trans (hb.mono hB.size)
              clear hb
              have c0 := hk.cell_ 0 rfl
              have c1 := hk.cell_ 1 rfl
              have c2 := hk.cell_ 2 rfl
              have c3 := hk.cell_ 3 rfl
              have c4 := hk.cell_ 4 rfl
              have c5 := hk.cell_ 5 rfl
              go_wp2_with fail
              go_wp2_with fail
              refine wp_region_quiet (C := fun w' => ∃ u : Since W, w' = u.w) (by kernel_rfl) (by kernel_rfl) (Since.start W) ?_
              dsimp only
              have y_c0 := Since.cell c0
              have y_c1 := Since.cell c1
              have y_c2 := Since.cell c2
              have y_c3 := Since.cell c3
              have y_c4 := Since.cell c4
              have y_c5 := Since.cell c5
              have y_d0 := Since.cell d0
              have y_d1 := Since.cell d1
              clear c0 c1 c2 c3 c4 c5
              repeat (go_big_quiet_step ((fail)))
              refine wpQuiet_nil ?_
              rintro W ⟨⟨_, hb⟩, rfl⟩
              try dsimp only at hb ⊢
              replace d0 : W.cell? _ = _ := y_d0 ⟨W, hb⟩
              replace d1 : W.cell? _ = _ := y_d1 ⟨W, hb⟩
              clear y_c0 y_c1 y_c2 y_c3 y_c4 y_c5 y_d0 y_d1
              replace hk := hk.below hb hk.lt
              replace hL := (hL.below hb).more hb.size
              replace hB := hB.trans (hb.mono hB.size)
              clear hb
              have c0 := hk.cell_ 0 rfl
              have c1 := hk.cell_ 1 rfl
              have c2 := hk.cell_ 2 rfl
              have c3 := hk.cell_ 3 rfl
              have c4 := hk.cell_ 4 rfl
              have c5 := hk.cell_ 5 rfl
              go_wp2_with fail
              go_ret3
              exact ⟨ret_eq (by rw [HJ2.out]; unfold judgeL; rw [HS0.out, HS.out, HST.out, if_pos ⟨hk0, by rw [HDR.out, HDD.out]; exact hbad⟩]; rfl), hB⟩
            · have x5 : decide (a.t < e'.t + e'.x.mi + e'.x.d) = false := decide_eq_false hbad
              go_wp2_with fail
              refine wp_region_quiet (C := fun w' => ∃ u : Since W, w' = u.w) (by kernel_rfl) (by kernel_rfl) (Since.start W) ?_
              dsimp only
              have y_c0 := Since.cell c0
              have y_c1 := Since.cell c1
              have y_c2 := Since.cell c2
              have y_c3 := Since.cell c3
              have y_c4 := Since.cell c4
              have y_c5 := Since.cell c5
              have y_d0 := Since.cell d0
              have y_d1 := Since.cell d1
              have y_hcp := Since.cell hcp
              have y_hct := Since.cell hct
              clear c0 c1 c2 c3 c4 c5
              repeat (go_big_quiet_step ((go_at_call 63; exact Since.calls (ready1k_any s (some ⟨bp, offp, none⟩) c pl a.j e'.k st2 e'.x l2 e'.t _ HEK.out _ (HSW.on (Since.h _)) (HPW.on (Since.h _)) HR2.out.1 HR2.out.2.1 HR2.out.2.2.1 HR2.out.2.2.2 hk8 ⟨by omega, by omega⟩ ⟨by omega, by omega⟩ ⟨q5, by omega⟩))))
              refine wpQuiet_nil ?_
              rintro W ⟨⟨_, hb⟩, rfl⟩
              try dsimp only at hb ⊢
              replace d0 : W.cell? _ = _ := y_d0 ⟨W, hb⟩
              replace d1 : W.cell? _ = _ := y_d1 ⟨W, hb⟩
              replace hcp : W.cell? _ = _ := y_hcp ⟨W, hb⟩
              replace hct : W.cell? _ = _ := y_hct ⟨W, hb⟩
              clear y_c0 y_c1 y_c2 y_c3 y_c4 y_c5 y_d0 y_d1 y_hcp y_hct
              replace hk := hk.below hb hk.lt
              replace hL := (hL.below hb).more hb.size
              replace hB := hB.trans (hb.mono hB.size)
              clear hb
              have c0 := hk.cell_ 0 rfl
              have c1 := hk.cell_ 1 rfl
              have c2 := hk.cell_ 2 rfl
              have c3 := hk.cell_ 3 rfl
              have c4 := hk.cell_ 4 rfl
              have c5 := hk.cell_ 5 rfl
              go_wp2_with fail
              go_roundw
              case rel => exact ⟨i + 1, a.dry, by go_num, by omega, (by show _ = _; rw [HS.out, HST.out, if_neg (by rw [HDR.out, HDD.out]; omega)]), hide (fun j hj => by obtain rfl : j = i := (by omega); exact ⟨a, HA.out, rfl⟩), hk, hL, hB⟩
              case measure => simp [intOf]; omega
          · have hk00 : (0 : Int) = (a.k : Int) := by omega
            have HK0 := hide hk00
            clear hk00
            have x5 : decide (a.t < 0) = false := by simp; omega
            have c0 := hk.cell_ 0 rfl
            have c1 := hk.cell_ 1 rfl
            have c2 := hk.cell_ 2 rfl
            have c3 := hk.cell_ 3 rfl
            have c4 := hk.cell_ 4 rfl
            have c5 := hk.cell_ 5 rfl
            go_wp2_with fail
            refine wp_region_quiet (C := fun w' => ∃ u : Since W, w' = u.w) (by kernel_rfl) (by kernel_rfl) (Since.start W) ?_
            dsimp only
            have y_c0 := Since.cell c0
            have y_c1 := Since.cell c1
            have y_c2 := Since.cell c2
            have y_c3 := Since.cell c3
            have y_c4 := Since.cell c4
            have y_c5 := Since.cell c5
            have y_d0 := Since.cell d0
            have y_d1 := Since.cell d1
            have y_hcp := Since.cell hcp
            have y_hct := Since.cell hct
            clear c0 c1 c2 c3 c4 c5
            repeat (go_big_quiet_step ((go_at_call 63; exact Since.calls (by have C := ready0_any s (some ⟨bp, offp, none⟩) c pl.length a.j; rw [HK0.out] at C; exact C _))))
            refine wpQuiet_nil ?_
            rintro W ⟨⟨_, hb⟩, rfl⟩
            try dsimp only at hb ⊢
            replace d0 : W.cell? _ = _ := y_d0 ⟨W, hb⟩
            replace d1 : W.cell? _ = _ := y_d1 ⟨W, hb⟩
            replace hcp : W.cell? _ = _ := y_hcp ⟨W, hb⟩
            replace hct : W.cell? _ = _ := y_hct ⟨W, hb⟩
            clear y_c0 y_c1 y_c2 y_c3 y_c4 y_c5 y_d0 y_d1 y_hcp y_hct
            replace hk := hk.below hb hk.lt
            replace hL := (hL.below hb).more hb.size
            replace hB := hB.trans (hb.mono hB.size)
            clear hb
            have c0 := hk.cell_ 0 rfl
            have c1 := hk.cell_ 1 rfl
            have c2 := hk.cell_ 2 rfl
            have c3 := hk.cell_ 3 rfl
            have c4 := hk.cell_ 4 rfl
            have c5 := hk.cell_ 5 rfl
            go_wp2_with fail
            go_roundw
            case rel => exact ⟨i + 1, a.dry, by go_num, by omega, (by show _ = _; rw [HS.out, HST.out, if_neg (by omega)]), hide (fun j hj => by obtain rfl : j = i := (by omega); exact ⟨a, HA.out, rfl⟩), hk, hL, hB⟩
            case measure => simp [intOf]; omega
        · obtain rfl : i = L.length := by omega
          have HS1 : Hid (earlyBad 0 L = none) := by show _ = _; rw [HS.out, nomore]; rfl
          clear HS HPR
          have c0 := hk.cell_ 0 rfl
          have c1 := hk.cell_ 1 rfl
          have c2 := hk.cell_ 2 rfl
          have c3 := hk.cell_ 3 rfl
          have c4 := hk.cell_ 4 rfl
          have c5 := hk.cell_ 5 rfl
          go_wp2_with fail
          clear c0 c1 c2 c3 c4 c5
          go_loopw [10] (fun x W => ∃ i : Nat, x = .int .i64 i ∧ i ≤ L.length ∧ Hid (clashBad s.p L = clashBad s.p (L.drop i)) ∧ Blk W w.heap.size 25 #[.int .i64 s.p.op, .int .i64 s.p.cl, .slice s.aH s.p.hol.length s.cH, .int .i64 s.p.mach, .slice s.aS s.p.setup.length s.cS, .slice s.aJ s.p.jobs.length s.cJ] ∧ Slc AP 2 W W.heap.size AL L ∧ Below w.heap.size w W) (fun x _ => L.length - (intOf x).toNat)
          case atStart => exact ⟨0, rfl, Nat.zero_le _, hide rfl, hk, hL, hB⟩
          case round =>
            clear hk hB hL
            obtain ⟨W, rfl⟩ : ∃ W : World, W = wr := ⟨_, rfl⟩
            obtain ⟨i, rfl, hi, HS, hk, hL, hB⟩ := hrel
            by_cases hlt : i < L.length
            · obtain ⟨a, ha⟩ : ∃ a, L[i]? = some a := ⟨_, List.getElem?_eq_getElem hlt⟩
              have HST := hide (clashBad_drop (p := s.p) ha)
              have HFA := hide ((HOK.out a (List.mem_of_getElem? ha)).fit hv)
              have HA0 := hide ha
              clear ha
              go_wp2_with fail
              go_loopw [11] (fun x W => ∃ k : Nat, x = .int .i64 k ∧ i + 1 ≤ k ∧ k ≤ L.length ∧ Hid ((L.drop (i + 1)).all (togB s.p a) = (L.drop k).all (togB s.p a)) ∧ Blk W w.heap.size 25 #[.int .i64 s.p.op, .int .i64 s.p.cl, .slice s.aH s.p.hol.length s.cH, .int .i64 s.p.mach, .slice s.aS s.p.setup.length s.cS, .slice s.aJ s.p.jobs.length s.cJ] ∧ Slc AP 2 W W.heap.size AL L ∧ Below w.heap.size w W) (fun x _ => L.length - (intOf x).toNat)
              case atStart => exact ⟨i + 1, (by go_num), Nat.le_refl _, hlt, hide rfl, hk, hL, hB⟩
              case round =>
                clear hk hB hL
                obtain ⟨W, rfl⟩ : ∃ W : World, W = wr := ⟨_, rfl⟩
                obtain ⟨k, rfl, hik, hkn, HT, hk, hL, hB⟩ := hrel
                by_cases hlt2 : k < L.length
                · obtain ⟨e, he⟩ : ∃ e, L[k]? = some e := ⟨_, List.getElem?_eq_getElem hlt2⟩
                  have HTT : Hid ((L.drop k).all (togB s.p a) = (togB s.p a e && (L.drop (k + 1)).all (togB s.p a))) := by
                    obtain ⟨hl, hf⟩ := List.getElem?_eq_some_iff.1 he
                    show _ = _
                    rw [List.drop_eq_getElem_cons hl, hf]; rfl
                  have ha := HA0.out
                  obtain ⟨b, off, hA, hb0, d0, d1⟩ := hL.at2 ha (v0 := .int .i64 a.j) (v1 := .int .i64 a.k) rfl
                  have hok := HOK.out a (List.mem_of_getElem? ha)
                  obtain ⟨st, hj, hx⟩ := hok.job
                  obtain ⟨l, t, hpl, hlt0, hpt, _⟩ := hp.start hj hx
                  have hlt' : l[a.k]? = some a.t := by rw [hok.start, hpt]; exact hlt0
                  obtain ⟨bp, offp, Ap, cp, hAp, hbp, hcp, hSp⟩ := plan_at (hP.on hB) hpl
                  obtain ⟨bt, offt, hAt, hbt, hct⟩ := int_at hSp hlt'
                  have o1 := hok.t0
                  have o2 := hok.t1
                  have o3 := hok.mi0
                  have o4 := hok.mi1
                  have o5 := hok.d0
                  have o6 := hok.d1
                  have i1 : (i : Int) < (L.length : Int) := by omega
                  have i2 : (a.j : Int) < (pl.length : Int) := by have := (List.getElem?_eq_some_iff.1 hpl).1; omega
                  have i3 : (a.k : Int) < (l.length : Int) := by have := (List.getElem?_eq_some_iff.1 hlt').1; omega
                  have HJX := hide (And.intro hj hx)
                  have HPL := hide (And.intro hpl hlt')
                  have HA := hide ha
                  clear ha hok hj hx hpl hlt0 hpt hlt'
                  subst hA hAp hAt
                  obtain ⟨b2, off2, hA2, hb2, d2, d3⟩ := hL.at2 he (v0 := .int .i64 e.j) (v1 := .int .i64 e.k) rfl
                  have hok2 := HOK.out e (List.mem_of_getElem? he)
                  obtain ⟨st2, hj2, hx2⟩ := hok2.job
                  obtain ⟨l2, t2, hpl2, hlt2, hpt2, _⟩ := hp.start hj2 hx2
                  have hlt2' : l2[e.k]? = some e.t := by rw [hok2.start, hpt2]; exact hlt2
                  obtain ⟨bp2, offp2, Ap2, cp2, hAp2, hbp2, hcp2, hSp2⟩ := plan_at (hP.on hB) hpl2
                  obtain ⟨bt2, offt2, hAt2, hbt2, hct2⟩ := int_at hSp2 hlt2'
                  have q1 := hok2.t0
                  have q2 := hok2.t1
                  have q3 := hok2.mi0
                  have q4 := hok2.mi1
                  have q5 := hok2.d0
                  have q6 := hok2.d1
                  have i4 : (k : Int) < (L.length : Int) := by omega
                  have i5 : (e.j : Int) < (pl.length : Int) := by have := (List.getElem?_eq_some_iff.1 hpl2).1; omega
                  have i6 : (e.k : Int) < (l2.length : Int) := by have := (List.getElem?_eq_some_iff.1 hlt2').1; omega
                  have HJX2 := hide (And.intro hj2 hx2)
                  have HF2 := hide (hok2.fit hv)
                  have HE := hide he
                  clear he hok2 hj2 hx2 hpl2 hlt2 hpt2 hlt2'
                  obtain ⟨rfl, rfl⟩ : b = b2 ∧ off = off2 := by simpa using hA2
                  obtain ⟨rfl, rfl⟩ : bp = bp2 ∧ offp = offp2 := by simpa using hAp2
                  clear hA2 hAp2
                  subst hAt2
                  have HSW := hS.on hB
                  have c0 := hk.cell_ 0 rfl
                  have c1 := hk.cell_ 1 rfl
                  have c2 := hk.cell_ 2 rfl
                  have c3 := hk.cell_ 3 rfl
                  have c4 := hk.cell_ 4 rfl
                  have c5 := hk.cell_ 5 rfl
                  go_wp2_with fail
                  have z_c0 := hide (fun w' (hb : Below W.heap.size W w') => Since.later hb c0)
                  have z_c1 := hide (fun w' (hb : Below W.heap.size W w') => Since.later hb c1)
                  have z_c2 := hide (fun w' (hb : Below W.heap.size W w') => Since.later hb c2)
                  have z_c3 := hide (fun w' (hb : Below W.heap.size W w') => Since.later hb c3)
                  have z_c4 := hide (fun w' (hb : Below W.heap.size W w') => Since.later hb c4)
                  have z_c5 := hide (fun w' (hb : Below W.heap.size W w') => Since.later hb c5)
                  have z_d0 := hide (fun w' (hb : Below W.heap.size W w') => Since.later hb d0)
                  have z_d1 := hide (fun w' (hb : Below W.heap.size W w') => Since.later hb d1)
                  have z_d2 := hide (fun w' (hb : Below W.heap.size W w') => Since.later hb d2)
                  have z_d3 := hide (fun w' (hb : Below W.heap.size W w') => Since.later hb d3)
                  have z_hcp := hide (fun w' (hb : Below W.heap.size W w') => Since.later hb hcp)
                  have z_hcp2 := hide (fun w' (hb : Below W.heap.size W w') => Since.later hb hcp2)
                  have z_hct := hide (fun w' (hb : Below W.heap.size W w') => Since.later hb hct)
                  have z_hct2 := hide (fun w' (hb : Below W.heap.size W w') => Since.later hb hct2)
                  have hok : FldOk W ([⟨12, .ptr, (.cells #[.int .i64 0, .int .i64 0, .int .i64 0, .int .i64 0] 69), 12, (.cells #[.int .i64 0, .int .i64 0, .int .i64 0, .int .i64 0] 69)⟩, ⟨13, .ptr, (.cells #[.int .i64 0, .int .i64 0, .int .i64 0, .int .i64 0] 69), 13, (.cells #[.int .i64 0, .int .i64 0, .int .i64 0, .int .i64 0] 69)⟩]) [] := FldOk.nil_
                  refine wp_region_both 14 [0, 1, 2, 3, 4, 5, 6, 7, 8, 9, 10, 11] [12, 13] [⟨12, .ptr, (.cells #[.int .i64 0, .int .i64 0, .int .i64 0, .int .i64 0] 69), 12, (.cells #[.int .i64 0, .int .i64 0, .int .i64 0, .int .i64 0] 69)⟩, ⟨13, .ptr, (.cells #[.int .i64 0, .int .i64 0, .int .i64 0, .int .i64 0] 69), 13, (.cells #[.int .i64 0, .int .i64 0, .int .i64 0, .int .i64 0] 69)⟩] [] (fun f hf => by cases hf) (by kernel_rfl) (by kernel_rfl) (by kernel_rfl) (by kernel_rfl) (by kernel_rfl) (by simp) ?_
                  apply Exists.intro
                  refine ⟨fun W1 hc0 => ?_, ?_⟩
                  · have hb := hc0.nil_
                    have y_c0 := Since.cell (z_c0.out W1 hb)
                    have y_c1 := Since.cell (z_c1.out W1 hb)
                    have y_c2 := Since.cell (z_c2.out W1 hb)
                    have y_c3 := Since.cell (z_c3.out W1 hb)
                    have y_c4 := Since.cell (z_c4.out W1 hb)
                    have y_c5 := Since.cell (z_c5.out W1 hb)
                    have y_d0 := Since.cell (z_d0.out W1 hb)
                    have y_d1 := Since.cell (z_d1.out W1 hb)
                    have y_d2 := Since.cell (z_d2.out W1 hb)
                    have y_d3 := Since.cell (z_d3.out W1 hb)
                    have y_hcp := Since.cell (z_hcp.out W1 hb)
                    have y_hcp2 := Since.cell (z_hcp2.out W1 hb)
                    have y_hct := Since.cell (z_hct.out W1 hb)
                    have y_hct2 := Since.cell (z_hct2.out W1 hb)
                    replace hk := hk.below hb hk.lt
                    replace hL := (hL.below hb).more hb.size
                    replace hB := hB.trans (hb.mono hB.size)
                    dsimp only [pick, List.filterMap, List.getElem?_cons_succ, List.getElem?_cons_zero]
                    repeat (go_big_quiet_step ((first | (go_at_call 59; with_reducible exact Since.calls (at_any s a.j a.k st a.x _ ((HSW.on hb).on (Since.h _)) HJX.out.1 HJX.out.2)) | (go_at_call 59; with_reducible exact Since.calls (at_any s e.j e.k st2 e.x _ ((HSW.on hb).on (Since.h _)) HJX2.out.1 HJX2.out.2)))))
                    exact wpQuiet_nil rfl
                  · refine ownWalk_alloc ⟨12, .ptr, (.cells #[.int .i64 0, .int .i64 0, .int .i64 0, .int .i64 0] 69), 12, (.cells #[.int .i64 0, .int .i64 0, .int .i64 0, .int .i64 0] 69)⟩ hok (by kernel_rfl) rfl rfl rfl rfl (fun _ => rfl) (by simp) (by simp) (fun _ => rfl) ?_
                    intro gxb
                    simp only [Shape.val, List.setIfInBounds_toArray, List.set_cons_succ, List.set_cons_zero]
                    refine ownWalk_alloc ⟨13, .ptr, (.cells #[.int .i64 0, .int .i64 0, .int .i64 0, .int .i64 0] 69), 13, (.cells #[.int .i64 0, .int .i64 0, .int .i64 0, .int .i64 0] 69)⟩ hok (by kernel_rfl) rfl rfl rfl rfl (fun _ => rfl) (by simp) (by simp) (fun _ => rfl) ?_
                    intro gyb
                    simp only [Shape.val, List.setIfInBounds_toArray, List.set_cons_succ, List.set_cons_zero]
                    refine ownWalk_nil ?_
                    intro w' hc0 hD
                    have hb := hc0.nil_
                    obtain ⟨gxge, gx⟩ := hD.box.get (x := ⟨12, .ptr, (.cells #[.int .i64 0, .int .i64 0, .int .i64 0, .int .i64 0] 69), 12, (.cells #[.int .i64 0, .int .i64 0, .int .i64 0, .int .i64 0] 69)⟩) (o := (.cells #[.int .i64 0, .int .i64 0, .int .i64 0, .int .i64 0] 69)) (by simp) rfl rfl
                    replace gx : Blk _ _ _ _ := gx
                    obtain ⟨gyge, gy⟩ := hD.box.get (x := ⟨13, .ptr, (.cells #[.int .i64 0, .int .i64 0, .int .i64 0, .int .i64 0] 69), 13, (.cells #[.int .i64 0, .int .i64 0, .int .i64 0, .int .i64 0] 69)⟩) (o := (.cells #[.int .i64 0, .int .i64 0, .int .i64 0, .int .i64 0] 69)) (by simp) rfl rfl
                    replace gy : Blk _ _ _ _ := gy
                    have gx_gy := hD.box.apart (x := ⟨12, .ptr, (.cells #[.int .i64 0, .int .i64 0, .int .i64 0, .int .i64 0] 69), 12, (.cells #[.int .i64 0, .int .i64 0, .int .i64 0, .int .i64 0] 69)⟩) (y := ⟨13, .ptr, (.cells #[.int .i64 0, .int .i64 0, .int .i64 0, .int .i64 0] 69), 13, (.cells #[.int .i64 0, .int .i64 0, .int .i64 0, .int .i64 0] 69)⟩) (by simp) (by simp) (by simp) rfl rfl
                    clear hD
                    try simp only [List.drop_succ_cons, List.drop_zero]
                    refine wpList_store_blk rfl 69 _ _ rfl #[.int .i64 a.x.m, .int .i64 a.x.mi, .int .i64 a.x.c, .int .i64 a.x.d] gx rfl rfl (by kernel_rfl) rfl (by simp [Value.oneCell']) ?_
                    clear gx
                    intro w0_ gx hoth
                    replace gy := gy.chg1 hoth (by omega)
                    replace hb := hb.trans (hoth.below1 hb.size gxge)
                    clear hoth
                    try dsimp only [Act.put]
                    refine wpList_store_blk rfl 69 _ _ rfl #[.int .i64 e.x.m, .int .i64 e.x.mi, .int .i64 e.x.c, .int .i64 e.x.d] gy rfl rfl (by kernel_rfl) rfl (by simp [Value.oneCell']) ?_
                    clear gy
                    intro w1_ gy hoth
                    replace gx := gx.chg1 hoth (by omega)
                    replace hb := hb.trans (hoth.below1 hb.size gyge)
                    clear hoth
                    try dsimp only [Act.put]
                    replace d0 : w1_.cell? _ = _ := z_d0.out w1_ hb
                    replace d1 : w1_.cell? _ = _ := z_d1.out w1_ hb
                    replace d2 : w1_.cell? _ = _ := z_d2.out w1_ hb
                    replace d3 : w1_.cell? _ = _ := z_d3.out w1_ hb
                    replace hcp : w1_.cell? _ = _ := z_hcp.out w1_ hb
                    replace hcp2 : w1_.cell? _ = _ := z_hcp2.out w1_ hb
                    replace hct : w1_.cell? _ = _ := z_hct.out w1_ hb
                    replace hct2 : w1_.cell? _ = _ := z_hct2.out w1_ hb
                    clear z_c0 z_c1 z_c2 z_c3 z_c4 z_c5 z_d0 z_d1 z_d2 z_d3 z_hcp z_hcp2 z_hct z_hct2
                    have hWge := hB.size
                    clear c0 c1 c2 c3 c4 c5
                    replace hk := hk.below hb hk.lt
                    replace hL := (hL.below hb).more hb.size
                    replace hB := hB.trans (hb.mono hB.size)
                    clear hb hok hc0
                    obtain ⟨W, rfl⟩ : ∃ W : World, W = w1_ := ⟨_, rfl⟩
                    have c0 := hk.cell_ 0 rfl
                    have c1 := hk.cell_ 1 rfl
                    have c2 := hk.cell_ 2 rfl
                    have c3 := hk.cell_ 3 rfl
                    have c4 := hk.cell_ 4 rfl
                    have c5 := hk.cell_ 5 rfl
                    have x0 := gx.cell_ 0 rfl
                    have x1 := gx.cell_ 1 rfl
                    have x2 := gx.cell_ 2 rfl
                    have x3 := gx.cell_ 3 rfl
                    have y0 := gy.cell_ 0 rfl
                    have y1 := gy.cell_ 1 rfl
                    have y2 := gy.cell_ 2 rfl
                    have y3 := gy.cell_ 3 rfl
                    have HSW2 := hS.on hB
                    by_cases hmm : a.x.m = e.x.m
                    · have hmb : (a.x.m == e.x.m) = true := by simpa using hmm
                      have HMM := hide hmm
                      have HTS := hide (togB_same (p := s.p) hmm)
                      clear hmm
                      cases hap : apartB s.p a e
                      all_goals
                        go_wp2_with fail
                        refine wp_region_quiet (C := fun w' => ∃ u : Since W, w' = u.w) (by kernel_rfl) (by kernel_rfl) (Since.start W) ?_
                        dsimp only
                        have y_c0 := Since.cell c0
                        have y_c1 := Since.cell c1
                        have y_c2 := Since.cell c2
                        have y_c3 := Since.cell c3
                        have y_c4 := Since.cell c4
                        have y_c5 := Since.cell c5
                        have y_x0 := Since.cell x0
                        have y_x1 := Since.cell x1
                        have y_x2 := Since.cell x2
                        have y_x3 := Since.cell x3
                        have y_y0 := Since.cell y0
                        have y_y1 := Since.cell y1
                        have y_y2 := Since.cell y2
                        have y_y3 := Since.cell y3
                        have y_d0 := Since.cell d0
                        have y_d1 := Since.cell d1
                        have y_d2 := Since.cell d2
                        have y_d3 := Since.cell d3
                        have y_hcp := Since.cell hcp
                        have y_hcp2 := Since.cell hcp2
                        have y_hct := Since.cell hct
                        have y_hct2 := Since.cell hct2
                        clear c0 c1 c2 c3 c4 c5 x0 x1 x2 x3 y0 y1 y2 y3
                        repeat (go_big_quiet_step ((go_at_call 66; exact Since.calls (apart_is s a e _ _ (HSW2.on (Since.h _)) hv HFA.out HF2.out HMM.out hap))))
                        refine wpQuiet_nil ?_
                        rintro W ⟨⟨_, hb⟩, rfl⟩
                        try dsimp only at hb ⊢
                        replace d0 : W.cell? _ = _ := y_d0 ⟨W, hb⟩
                        replace d1 : W.cell? _ = _ := y_d1 ⟨W, hb⟩
                        replace d2 : W.cell? _ = _ := y_d2 ⟨W, hb⟩
                        replace d3 : W.cell? _ = _ := y_d3 ⟨W, hb⟩
                        replace hcp : W.cell? _ = _ := y_hcp ⟨W, hb⟩
                        replace hcp2 : W.cell? _ = _ := y_hcp2 ⟨W, hb⟩
                        replace hct : W.cell? _ = _ := y_hct ⟨W, hb⟩
                        replace hct2 : W.cell? _ = _ := y_hct2 ⟨W, hb⟩
                        clear y_c0 y_c1 y_c2 y_c3 y_c4 y_c5 y_x0 y_x1 y_x2 y_x3 y_y0 y_y1 y_y2 y_y3 y_d0 y_d1 y_d2 y_d3 y_hcp y_hcp2 y_hct y_hct2
                        replace hk := hk.below hb hk.lt
                        replace hL := (hL.below hb).more hb.size
                        replace gx := gx.below hb gx.lt
                        replace gy := gy.below hb gy.lt
                        replace hB := hB.trans (hb.mono hB.size)
                        clear hb
                        have c0 := hk.cell_ 0 rfl
                        have c1 := hk.cell_ 1 rfl
                        have c2 := hk.cell_ 2 rfl
                        have c3 := hk.cell_ 3 rfl
                        have c4 := hk.cell_ 4 rfl
                        have c5 := hk.cell_ 5 rfl
                        have x0 := gx.cell_ 0 rfl
                        have x1 := gx.cell_ 1 rfl
                        have x2 := gx.cell_ 2 rfl
                        have x3 := gx.cell_ 3 rfl
                        have y0 := gy.cell_ 0 rfl
                        have y1 := gy.cell_ 1 rfl
                        have y2 := gy.cell_ 2 rfl
                        have y3 := gy.cell_ 3 rfl
                        go_wp2_with fail
                      · skip
                        go_wp2_with fail
                        refine wp_region_quiet (C := fun w' => ∃ u : Since W, w' = u.w) (by kernel_rfl) (by kernel_rfl) (Since.start W) ?_
                        dsimp only
                        have y_c0 := Since.cell c0
                        have y_c1 := Since.cell c1
                        have y_c2 := Since.cell c2
                        have y_c3 := Since.cell c3
                        have y_c4 := Since.cell c4
                        have y_c5 := Since.cell c5
                        have y_x0 := Since.cell x0
                        have y_x1 := Since.cell x1
                        have y_x2 := Since.cell x2
                        have y_x3 := Since.cell x3
                        have y_y0 := Since.cell y0
                        have y_y1 := Since.cell y1
                        have y_y2 := Since.cell y2
                        have y_y3 := Since.cell y3
                        have y_d0 := Since.cell d0
                        have y_d1 := Since.cell d1
                        clear c0 c1 c2 c3 c4 c5 x0 x1 x2 x3 y0 y1 y2 y3
                        repeat (go_big_quiet_step ((fail)))
                        refine wpQuiet_nil ?_
                        rintro W ⟨⟨_, hb⟩, rfl⟩
                        try dsimp only at hb ⊢
                        replace d0 : W.cell? _ = _ := y_d0 ⟨W, hb⟩
                        replace d1 : W.cell? _ = _ := y_d1 ⟨W, hb⟩
                        clear y_c0 y_c1 y_c2 y_c3 y_c4 y_c5 y_x0 y_x1 y_x2 y_x3 y_y0 y_y1 y_y2 y_y3 y_d0 y_d1
                        replace hk := hk.below hb hk.lt
                        replace hL := (hL.below hb).more hb.size
                        replace gx := gx.below hb gx.lt
                        replace gy := gy.below hb gy.lt
                        replace hB := hB.trans (hb.mono hB.size)
                        clear hb
                        have c0 := hk.cell_ 0 rfl
                        have c1 := hk.cell_ 1 rfl
                        have c2 := hk.cell_ 2 rfl
                        have c3 := hk.cell_ 3 rfl
                        have c4 := hk.cell_ 4 rfl
                        have c5 := hk.cell_ 5 rfl
                        have x0 := gx.cell_ 0 rfl
                        have x1 := gx.cell_ 1 rfl
                        have x2 := gx.cell_ 2 rfl
                        have x3 := gx.cell_ 3 rfl
                        have y0 := gy.cell_ 0 rfl
                        have y1 := gy.cell_ 1 rfl
                        have y2 := gy.cell_ 2 rfl
                        have y3 := gy.cell_ 3 rfl
                        go_wp2_with fail
                        go_ret3
                        exact ⟨ret_eq (by rw [HJ2.out]; unfold judgeL; rw [HS0.out, HS1.out, HS.out, HST.out, HT.out, HTT.out, HTS.out, hap]; rfl), hB⟩
                      · go_roundw
                        case rel => exact ⟨k + 1, by go_num, by omega, by omega, (by show _ = _; rw [HT.out, HTT.out, HTS.out, hap]; rfl), hk, hL, hB⟩
                        case measure => simp [intOf]; omega
                    · have hmb : (a.x.m == e.x.m) = false := by simpa using hmm
                      have HTS := hide (togB_other (p := s.p) hmm)
                      clear hmm
                      go_wp2_with fail
                      refine wp_region_quiet (C := fun w' => ∃ u : Since W, w' = u.w) (by kernel_rfl) (by kernel_rfl) (Since.start W) ?_
                      dsimp only
                      have y_c0 := Since.cell c0
                      have y_c1 := Since.cell c1
                      have y_c2 := Since.cell c2
                      have y_c3 := Since.cell c3
                      have y_c4 := Since.cell c4
                      have y_c5 := Since.cell c5
                      have y_x0 := Since.cell x0
                      have y_x1 := Since.cell x1
                      have y_x2 := Since.cell x2
                      have y_x3 := Since.cell x3
                      have y_y0 := Since.cell y0
                      have y_y1 := Since.cell y1
                      have y_y2 := Since.cell y2
                      have y_y3 := Since.cell y3
                      have y_d0 := Since.cell d0
                      have y_d1 := Since.cell d1
                      have y_d2 := Since.cell d2
                      have y_d3 := Since.cell d3
                      have y_hcp := Since.cell hcp
                      have y_hcp2 := Since.cell hcp2
                      have y_hct := Since.cell hct
                      have y_hct2 := Since.cell hct2
                      clear c0 c1 c2 c3 c4 c5 x0 x1 x2 x3 y0 y1 y2 y3
                      repeat (go_big_quiet_step ((fail)))
                      refine wpQuiet_nil ?_
                      rintro W ⟨⟨_, hb⟩, rfl⟩
                      try dsimp only at hb ⊢
                      replace d0 : W.cell? _ = _ := y_d0 ⟨W, hb⟩
                      replace d1 : W.cell? _ = _ := y_d1 ⟨W, hb⟩
                      replace d2 : W.cell? _ = _ := y_d2 ⟨W, hb⟩
                      replace d3 : W.cell? _ = _ := y_d3 ⟨W, hb⟩
                      replace hcp : W.cell? _ = _ := y_hcp ⟨W, hb⟩
                      replace hcp2 : W.cell? _ = _ := y_hcp2 ⟨W, hb⟩
                      replace hct : W.cell? _ = _ := y_hct ⟨W, hb⟩
                      replace hct2 : W.cell? _ = _ := y_hct2 ⟨W, hb⟩
                      clear y_c0 y_c1 y_c2 y_c3 y_c4 y_c5 y_x0 y_x1 y_x2 y_x3 y_y0 y_y1 y_y2 y_y3 y_d0 y_d1 y_d2 y_d3 y_hcp y_hcp2 y_hct y_hct2
                      replace hk := hk.below hb hk.lt
                      replace hL := (hL.below hb).more hb.size
                      replace gx := gx.below hb gx.lt
                      replace gy := gy.below hb gy.lt
                      replace hB := hB.trans (hb.mono hB.size)
                      clear hb
                      have c0 := hk.cell_ 0 rfl
                      have c1 := hk.cell_ 1 rfl
                      have c2 := hk.cell_ 2 rfl
                      have c3 := hk.cell_ 3 rfl
                      have c4 := hk.cell_ 4 rfl
                      have c5 := hk.cell_ 5 rfl
                      have x0 := gx.cell_ 0 rfl
                      have x1 := gx.cell_ 1 rfl
                      have x2 := gx.cell_ 2 rfl
                      have x3 := gx.cell_ 3 rfl
                      have y0 := gy.cell_ 0 rfl
                      have y1 := gy.cell_ 1 rfl
                      have y2 := gy.cell_ 2 rfl
                      have y3 := gy.cell_ 3 rfl
                      go_wp2_with fail
                      go_roundw
                      case rel => exact ⟨k + 1, by go_num, by omega, by omega, (by show _ = _; rw [HT.out, HTT.out, HTS.out]; rfl), hk, hL, hB⟩
                      case measure => simp [intOf]; omega
                · obtain rfl : k = L.length := by omega
                  have HT2 : Hid ((L.drop (i + 1)).all (togB s.p a) = true) := by show _ = _; rw [HT.out, nomore]; rfl
                  go_wp2_with fail
                  go_roundw
                  case rel => exact ⟨i + 1, by go_num, by omega, (by show _ = _; rw [HS.out, HST.out, HT2.out]; rfl), hk, hL, hB⟩
                  case measure => simp [intOf]; omega
            · obtain rfl : i = L.length := by omega
              have HS2 : Hid (clashBad s.p L = none) := by show _ = _; rw [HS.out, nomore]; rfl
              have c0 := hk.cell_ 0 rfl
              have c1 := hk.cell_ 1 rfl
              have c2 := hk.cell_ 2 rfl
              have c3 := hk.cell_ 3 rfl
              have c4 := hk.cell_ 4 rfl
              have c5 := hk.cell_ 5 rfl
              go_wp2_with fail
              go_ret3
              exact ⟨ret_eq (by rw [HJ2.out]; unfold judgeL; rw [HS0.out, HS1.out, HS2.out]; rfl), hB⟩
end Go.Proofs.Ytcpnfcnobnjhdaa
