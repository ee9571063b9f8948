/- Parts of the proofs of this seat: TopBal. Each part says what it proves; no condition beyond those stated there. -/
import Derived.Test.YtpeokpnjnmgloaaM15
import Derived.Test.YtpeokpnjnmgloaaM27
import Derived.Test.YtpeokpnjnmgloaaM31
import Derived.Test.YtpeokpnjnmgloaaM32
import Derived.Test.YtpeokpnjnmgloaaM35

/- TopBalance: the walk. -/
namespace Go.Proofs.Ytpeokpnjnmgloaa
open Go Go.RowKit
theorem rvr_is (mw ml l0 l1 l2 : Int) (w : World) {b : Bool} (h : validRules ⟨mw, ml, l0, l1, l2⟩ = b) :
    Calls Try.prog 5 #[.agg #[.int .i64 mw, .int .i64 ml, .int .i64 l0, .int .i64 l1, .int .i64 l2]] w fun e w' => e = .returned (.bool b) ∧ Below w.heap.size w w' := by
  subst h; exact refValidRules_any mw ml l0 l1 l2 w
set_option maxRecDepth 100000 in
set_option maxHeartbeats 8000000 in
theorem topBal_walk (mw ml l0 l1 l2 : Int) (A : Option Addr) (c : Nat) (xs : List CallV) (w : World) (hS : Slc CallV.enc 17 w w.heap.size A xs) (hlen : xs.length ≤ maxLen) (hin : ∀ (i : Nat) x, xs[i]? = some x → CallIn w x) :
    Calls Try.prog 3 #[.agg #[.int .i64 mw, .int .i64 ml, .int .i64 l0, .int .i64 l1, .int .i64 l2], .slice A xs.length c] w fun e w' => e = .returned (.bool true) ∧ Below w.heap.size w w' := by
  have hmm := @run_makeMap Try.prog
  have HS := hide hS
  have HIN := hide hin
  have hk := Blk.new w 24 #[.int .i64 mw, .int .i64 ml, .int .i64 l0, .int .i64 l1, .int .i64 l2]
  have hB := (Below.refl w.heap.size w).alloc (Nat.le_refl _) (.cells #[.int .i64 mw, .int .i64 ml, .int .i64 l0, .int .i64 l1, .int .i64 l2] 24)
  clear hS hin
  go_enter Try.func3, Try.ntmps3
  go_upto_region 1 with fail
  generalize w.alloc (.cells #[.int .i64 mw, .int .i64 ml, .int .i64 l0, .int .i64 l1, .int .i64 l2] 24) = W at *
  have k0 := hk.cell_ 0 rfl
  have k1 := hk.cell_ 1 rfl
  have k2 := hk.cell_ 2 rfl
  have k3 := hk.cell_ 3 rfl
  have k4 := hk.cell_ 4 rfl
  cases hL : largeB xs 24 with
  | true =>
    have HL := hide hL
    clear hL
    go_wp2_with fail
    refine (Large_is A c xs 24 W (Slc.on HS.out hB) hlen HL.out).mono ?_
    rintro e W' ⟨rfl, rfl⟩
    clear k0 k1 k2 k3 k4 hk
    go_wp2_with fail
    refine (awake_any _).mono ?_
    rintro e W9 ⟨rfl, hb9⟩
    have hB9 := hB.trans (hb9.mono hB.size)
    go_wp2_with fail
    go_ret
    exact ⟨rfl, hB9⟩
  | false =>
    have HL := hide hL
    clear hL
    cases hv : validRules ⟨mw, ml, l0, l1, l2⟩ with
    | false =>
      have HV := hide hv
      clear hv
      go_wp2_with fail
      refine (Large_is A c xs 24 W (Slc.on HS.out hB) hlen HL.out).mono ?_
      rintro e W' ⟨rfl, rfl⟩
      go_wp2_with fail
      refine (rvr_is mw ml l0 l1 l2 _ HV.out).mono ?_
      rintro e W4 ⟨rfl, hb4⟩
      replace hB := hB.trans (hb4.mono hB.size)
      clear k0 k1 k2 k3 k4 hb4 hk
      go_wp2_with fail
      refine (awake_any _).mono ?_
      rintro e W9 ⟨rfl, hb9⟩
      have hB9 := hB.trans (hb9.mono hB.size)
      go_wp2_with fail
      go_ret
      exact ⟨rfl, hB9⟩
    | true =>
      have HV := hide hv
      clear hv
      go_wp2_with fail
      refine (Large_is A c xs 24 W (Slc.on HS.out hB) hlen HL.out).mono ?_
      rintro e W' ⟨rfl, rfl⟩
      go_wp2_with fail
      refine (rvr_is mw ml l0 l1 l2 _ HV.out).mono ?_
      rintro e W4 ⟨rfl, hb4⟩
      replace hk := hk.below hb4 hk.lt
      replace hB := hB.trans (hb4.mono hB.size)
      clear k0 k1 k2 k3 k4 hb4
      have k0 := hk.cell_ 0 rfl
      have k1 := hk.cell_ 1 rfl
      have k2 := hk.cell_ 2 rfl
      have k3 := hk.cell_ 3 rfl
      have k4 := hk.cell_ 4 rfl
      obtain ⟨hl24, hbig⟩ := not_large HL.out
      have hl100 : xs.length ≤ 24 := by omega
      have HBIG := hide hbig
      clear hl24 hbig
      go_wp2_with fail
      refine (new_yes mw ml l0 l1 l2 W4 HV.out).mono ?_
      rintro e W5 ⟨g, ri, rp, rq, rl, rfl, hst, hg, h1, h2, h3, h4, hb5⟩
      have hX := new_sta (hst 0 (by omega))
      have hws := hB.size
      have hnew : ∀ k, (⟨g, ri, rp, rq, rl⟩ : Fp).has k → w.heap.size ≤ k := by
        rintro k (rfl | rfl | rfl | rfl | rfl)
        · exact Nat.le_trans hws hg
        · exact Nat.le_trans hws h1
        · exact Nat.le_trans hws h2
        · exact Nat.le_trans hws h3
        · exact Nat.le_trans hws h4
      replace hB := hB.trans (hb5.mono hws)
      clear k0 k1 k2 k3 k4 hst hg h1 h2 h3 h4 hb5 hk
      have hM0 : MapOf (W5.alloc (.map #[] 0)) W5.heap.size (([] : List (Int × Int)).map (kv (Value.int .i64))) := MapOf.new W5
      have hnm : ¬ (⟨g, ri, rp, rq, rl⟩ : Fp).has W5.heap.size := fun hh => by have := hX.lt hh; omega
      have hal := (Below.refl W5.heap.size W5).alloc (Nat.le_refl _) (.map #[] 0)
      replace hX := hX.below hal
      have hrw : w.heap.size ≤ W5.heap.size := hB.size
      replace hB := hB.trans (hal.mono hB.size)
      go_upto_region 9 with fail
      clear hal hws
      generalize W5.alloc (.map #[] 0) = W6 at *
      obtain ⟨rm, hrm⟩ : ∃ rm, W5.heap.size = rm := ⟨_, rfl⟩
      rw [hrm] at hM0 hnm hrw ⊢
      clear hrm hmm
      have HRW := hide hrw
      clear hrw
      go_loopw [7, 9] (fun rv z wr => ∃ (i : Nat) (p : Fp) (s : SS) (R : List (Int × Int)), rv = .int .i64 s.received ∧ z = .int .i64 i ∧ i ≤ xs.length ∧ p.g = g ∧ StA wr p s ∧ Hid (Inv s ∧ Room s (2000 - 50 * i) ∧ Ped R s) ∧ MapOf wr rm (R.map (kv (Value.int .i64))) ∧ (∀ k, p.has k → w.heap.size ≤ k) ∧ ¬ p.has rm ∧ Below w.heap.size w wr) (fun _ z _ => xs.length - (intOf z).toNat)
      case atStart => exact ⟨0, ⟨g, ri, rp, rq, rl⟩, ⟨⟨mw, ml, l0, l1, l2⟩, [], [], [], [], 0, 0, 0⟩, [], rfl, rfl, Nat.zero_le _, rfl, hX, ⟨new_inv HV.out, new_room.less (by omega), ped_new _⟩, hM0, hnew, hnm, hB⟩
      case round =>
        clear hX hM0 hnew hnm hB
        obtain ⟨W, rfl⟩ : ∃ X : World, X = wr := ⟨_, rfl⟩
        obtain ⟨i, p, s, R, rfl, rfl, hi, hpg, hX, hH, hM, hnew, hnm, hB⟩ := hrel
        by_cases hlt : i < xs.length
        · obtain ⟨x, hx⟩ : ∃ x, xs[i]? = some x := ⟨_, List.getElem?_eq_getElem hlt⟩
          obtain ⟨b, off, hA, hb, d0, d1, d2, d3, d4, d5, d6, d7, d8, d9, d10, d11, d12, d13, d14, d15, d16⟩ := call_at (HS.out.below hB) hx
          have hii : (i : Int) < (xs.length : Int) := by omega
          have ei : IntKind.i64.wrap ((i : Int) + 1) = ((i + 1 : Nat) : Int) := by rw [IntWalk.i64_in _ (by omega)]; push_cast; rfl
          have HI : Hid (Inv s) := hH.out.1
          have HR : Hid (Room s (2000 - 50 * i)) := hH.out.2.1
          have HPD : Hid (Ped R s) := hH.out.2.2
          have HR50 : Hid (Room s (2000 - 50 * (i + 1) + 50)) := HR.out.less (by omega)
          have HX9 := hide hx
          have HNW := hide hnew
          have HNM := hide hnm
          have HPG0 := hide hpg
          clear hx hH hnew hnm hpg
          subst hA
          have hcb := Blk.new W 40 #[.int .i64 x.kind, .int .i64 x.id, .int .i64 x.gr, .int .i64 x.co, .int .i64 x.lo, .int .i64 x.ma, .int .i64 x.wi, .int .i64 x.le, .slice x.A x.n x.c, .int .i64 x.ng, .int .i64 x.nq, .int .i64 x.nw, .int .i64 x.nl, .int .i64 x.nk, .int .i64 x.day, .int .i64 x.cid, .int .i64 x.what]
          have hal := (Below.refl W.heap.size W).alloc (Nat.le_refl _) (.cells #[.int .i64 x.kind, .int .i64 x.id, .int .i64 x.gr, .int .i64 x.co, .int .i64 x.lo, .int .i64 x.ma, .int .i64 x.wi, .int .i64 x.le, .slice x.A x.n x.c, .int .i64 x.ng, .int .i64 x.nq, .int .i64 x.nw, .int .i64 x.nl, .int .i64 x.nk, .int .i64 x.day, .int .i64 x.cid, .int .i64 x.what] 40)
          replace hX := hX.below hal
          replace hM := hM.below hal hM.lt
          have hB0 := hB
          replace hB := hB.trans (hal.mono hB.size)
          go_upto_region 12 with fail
          clear d0 d1 d2 d3 d4 d5 d6 d7 d8 d9 d10 d11 d12 d13 d14 d15 d16 hal
          generalize W.alloc (.cells #[.int .i64 x.kind, .int .i64 x.id, .int .i64 x.gr, .int .i64 x.co, .int .i64 x.lo, .int .i64 x.ma, .int .i64 x.wi, .int .i64 x.le, .slice x.A x.n x.c, .int .i64 x.ng, .int .i64 x.nq, .int .i64 x.nw, .int .i64 x.nl, .int .i64 x.nk, .int .i64 x.day, .int .i64 x.cid, .int .i64 x.what] 40) = W3 at *
          generalize W.heap.size = bx at *
          obtain ⟨W, rfl⟩ : ∃ X : World, X = W3 := ⟨_, rfl⟩
          clear hB0
          have y0 := hcb.cell_ 0 rfl
          obtain ⟨k, hk⟩ : ∃ k, (IntKind.u64.wrap x.kind).tmod 9 = k := ⟨_, rfl⟩
          have HK : Hid (kd x = k) := hk
          by_cases h0 : k = 0
          · as_aux_lemma =>
            have y1 := hcb.cell_ 1 rfl
            have y2 := hcb.cell_ 2 rfl
            have y3 := hcb.cell_ 3 rfl
            have y4 := hcb.cell_ 4 (v := .int .i64 x.lo) rfl
            have y5 := hcb.cell_ 5 rfl
            have y6 := hcb.cell_ 6 (v := .int .i64 x.wi) rfl
            have y7 := hcb.cell_ 7 (v := .int .i64 x.le) rfl
            obtain ⟨fs, f1, _, f2, _⟩ := (HIN.out i x HX9.out).fs
            have y8 : W.cell? ⟨bx, 8, none⟩ = some (.slice x.A fs.length x.c) := by rw [f1]; exact hcb.cell_ 8 rfl
            have hn40 := (HBIG.out x (List.mem_of_getElem? HX9.out)).1
            have hfl : fs.length ≤ 100000 := by omega
            have hFS : Slc Pt.enc 2 W W.heap.size x.A fs := (f2.below hB).more hB.size
            have HNA : Hid (fs ≠ [] → ∀ ad, x.A = some ad → ¬ p.has ad.block) := fun hne ad ha hh => by
              obtain ⟨z, hz⟩ := List.exists_mem_of_ne_nil _ hne
              obtain ⟨j, hj⟩ := List.getElem?_of_mem hz
              obtain ⟨b2, off2, hA2, hlt2, _⟩ := f2 j z hj
              rw [ha] at hA2
              injection hA2 with hA2
              subst hA2
              have h1 := HNW.out _ hh
              have h3 : b2 < w.heap.size := hlt2
              have h4 : w.heap.size ≤ b2 := h1
              omega
            have HFS := hide hFS
            clear f1 f2 hn40 hFS
            obtain ⟨r, hr⟩ : ∃ r : Roll, r = ⟨x.id, x.gr, x.co, x.lo, x.ma, x.wi, x.le, fs⟩ := ⟨_, rfl⟩
            have HRR := hide hr
            have HXC := hide hX
            clear hX
            go_upto_region 13 with fail
            clear y0 hk
            go_wp2_with fail
            rw [← HPG0.out]
            refine (receive_any p s x.id x.gr x.co x.lo x.ma x.wi x.le x.A x.c fs W HXC.out HI.out HR.out.few HFS.out hfl HNA.out).mono ?_
            rintro e W4 ⟨rfl, hX4, hC4⟩
            rw [← hr] at hX4 ⊢
            have HPT := hide (ped_rec HPD.out r)
            have HIT := hide (rec_inv HI.out r).1
            have HRT : Hid (Room (recS s r) (2000 - 50 * (i + 1))) := room_rec (HR50.out.less (by omega)) r
            have hM4 := hM.chg hC4 HNM.out
            have hB4 := hB.trans (hC4.to_below hB.size fun k hk hp => by have := HNW.out k hp; omega)
            have hcb4 := hcb.chgS HXC.out hC4 (by decide)
            clear hM hB hcb hC4 y1 y2 y3 y4 y5 y6 y7 y8 HXC hr
            rw [HPG0.out]
            obtain ⟨W, rfl⟩ : ∃ X : World, X = W4 := ⟨_, rfl⟩
            by_cases he : recE s r = 0
            · as_aux_lemma =>
              have HT : Hid (recS s r = recFn s r) := by show _ = _; unfold recS; rw [if_pos he]
              rw [he] at HPT ⊢
              rw [if_pos rfl] at HPT
              have hv : validRoll r = true := by
                unfold recE at he
                split at he
                · assumption
                · exact absurd he (by decide)
              obtain ⟨b1, b2, b3, b4, b5, b6, b7, b8, b9⟩ := roll_bd hv
              rw [HRR.out] at b6 b7
              have b6 : 1 ≤ x.wi ∧ x.wi ≤ 150 := b6
              have b7 : 1 ≤ x.le ∧ x.le ≤ 6000 := b7
              have har := mul_le_mul0 (a := x.wi) (b := 150) (c := x.le) (e := 6000) (by omega) b6.2 (by omega) b7.2
              have hre := HR.out.few.re
              have hr0 : 0 ≤ s.received := by
                obtain ⟨a1, a2, a3, a4, a5, a6⟩ := areas_bd HI.out HR.out.few
                omega
              have e1 : IntKind.i64.wrap (x.wi * x.le) = x.wi * x.le := IntWalk.i64_in _ (by omega)
              have e2 : IntKind.i64.wrap (s.received + x.wi * x.le) = s.received + x.wi * x.le := IntWalk.i64_in _ (by omega)
              have y1 := hcb4.cell_ 1 (v := .int .i64 x.id) rfl
              have y4 := hcb4.cell_ 4 (v := .int .i64 x.lo) rfl
              have y6 := hcb4.cell_ 6 (v := .int .i64 x.wi) rfl
              have y7 := hcb4.cell_ 7 (v := .int .i64 x.le) rfl
              clear b1 b2 b3 b4 b5 b6 b7 b8 b9 har hre hr0 hv he
              go_upto_region 17 with (refine wpList_put_im rfl rfl _ _ _ _ rfl _ _ Try.underlying33 Try.underlying3 rm rfl hM4 x.id (.int .i64 x.lo) rfl rfl ?_; intro W9 hM9 hg9)
              have hX9 := hX4.far (S := fun k => k = rm) (.of_grown hg9 rfl) fun k hk => by subst hk; exact ⟨HNM.out, NoSpan.map_ hM4⟩
              have hB9 := hB4.trans ((Chg.of_grown (S := fun k => k = rm) hg9 rfl).below1 hB4.size HRW.out)
              have hMt : MapOf W9 rm ((put R x.id x.lo).map (kv (Value.int .i64))) := by rw [← put_kv] at *; exact hM9
              clear y1 y4 y6 y7 e1 e2 hM9 hg9 hcb4 hX4 hM4 hB4
              obtain ⟨t, ht⟩ : ∃ t, recS s r = t := ⟨_, rfl⟩
              have hre9 : s.received + x.wi * x.le = t.received := by rw [← ht, HT.out]; show _ = s.received + r.width * r.length; rw [HRR.out]
              rw [ht] at HPT HIT HRT hX9
              rw [show put R r.id r.lot = put R x.id x.lo by rw [HRR.out]] at HPT
              rw [hre9]
              clear hre9 ht HT
              go_wp2_with fail
              rw [← HPG0.out]
              refine (balanced_yes p t (put R x.id x.lo) rm W9 hX9 HIT.out HRT.out.few HPT.out hMt).mono ?_
              rintro e W10 ⟨rfl, hb10⟩
              have hX10 := StA.below hX9 hb10
              have hM10 := MapOf.below hMt hb10 (MapOf.lt hMt)
              have hB10 := Below.trans hB9 (Below.mono hb10 (Below.size hB9))
              clear hX9 hMt hB9 hb10
              rw [HPG0.out]
              go_wp2_with fail
              go_roundw
              case rel => exact ⟨i + 1, p, t, (put R x.id x.lo), rfl, by go_num, by omega, HPG0.out, hX10, ⟨HIT.out, HRT.out, HPT.out⟩, hM10, HNW.out, HNM.out, hB10⟩
              case measure => simp [intOf]; omega
            · as_aux_lemma =>
              have HT : Hid (recS s r = s) := by show _ = _; unfold recS; rw [if_neg he]
              rw [if_neg he] at HPT
              have hen : (recE s r == 0) = false := by simp [he]
              rw [HT.out] at hX4 HPT HIT HRT
              go_upto_region 17 with fail
              clear he hen hcb4
              go_wp2_with fail
              rw [← HPG0.out]
              refine (balanced_yes p s R rm W hX4 HIT.out HRT.out.few HPT.out hM4).mono ?_
              rintro e W10 ⟨rfl, hb10⟩
              have hX10 := StA.below hX4 hb10
              have hM10 := MapOf.below hM4 hb10 (MapOf.lt hM4)
              have hB10 := Below.trans hB4 (Below.mono hb10 (Below.size hB4))
              clear hX4 hM4 hB4 hb10
              rw [HPG0.out]
              go_wp2_with fail
              go_roundw
              case rel => exact ⟨i + 1, p, s, R, rfl, by go_num, by omega, HPG0.out, hX10, ⟨HIT.out, HRT.out, HPT.out⟩, hM10, HNW.out, HNM.out, hB10⟩
              case measure => simp [intOf]; omega
          · as_aux_lemma =>
            have hk0 : kd x ≠ 0 := by rw [HK.out]; exact h0
            have HK0 := hide hk0
            have HXC := hide hX
            clear hk0 hX
            have y1 := hcb.cell_ 1 rfl
            have y2 := hcb.cell_ 2 rfl
            have y3 := hcb.cell_ 3 rfl
            have y4 := hcb.cell_ 4 rfl
            have y5 := hcb.cell_ 5 rfl
            have y6 := hcb.cell_ 6 rfl
            have y7 := hcb.cell_ 7 rfl
            have y8 := hcb.cell_ 8 rfl
            have y9 := hcb.cell_ 9 rfl
            have y10 := hcb.cell_ 10 rfl
            have y11 := hcb.cell_ 11 rfl
            have y12 := hcb.cell_ 12 rfl
            have y13 := hcb.cell_ 13 rfl
            have y14 := hcb.cell_ 14 rfl
            have y15 := hcb.cell_ 15 rfl
            have y16 := hcb.cell_ 16 rfl
            go_wp2_with fail
            rw [← HPG0.out]
            refine (called_any p s x W HXC.out HI.out (HR.out.less (by omega)) HK0.out).mono ?_
            rintro e W4 ⟨p', rfl, hst⟩
            rw [HPG0.out]
            have hX4 := hst.st
            have hM4 := hM.chg hst.chg HNM.out
            have hB4 := hB.trans (hst.chg.to_below hB.size fun k hk hp => by have := HNW.out k hp; omega)
            have hnw' : ∀ k, p'.has k → w.heap.size ≤ k := fun k hk => by
              rcases hst.sub k hk with h | h
              · exact HNW.out k h
              · exact Nat.le_trans hB.size h
            have hnm' : ¬ p'.has rm := fun hh => by
              rcases hst.sub rm hh with h | h
              · exact HNM.out h
              · have := hM.lt; omega
            have hpg' : p'.g = g := hst.g.trans HPG0.out
            replace HNW := hide hnw'
            replace HNM := hide hnm'
            replace HPG0 := hide hpg'
            have HPT := hide (cal_ped HI.out HPD.out x)
            have HIT := hide (cal_inv HI.out x)
            have HRT := hide (cal_room HR50.out x)
            have hre9 := (cal_re HI.out x).symm
            clear y0 y1 y2 y3 y4 y5 y6 y7 y8 y9 y10 y11 y12 y13 y14 y15 y16 hst hM hB hcb HXC hnw' hnm' hpg' hk h0
            obtain ⟨t, ht⟩ : ∃ t, calF s x = t := ⟨_, rfl⟩
            rw [ht] at HPT HIT HRT hX4 hre9
            rw [hre9]
            clear hre9 ht
            obtain ⟨W, rfl⟩ : ∃ X : World, X = W4 := ⟨_, rfl⟩
            go_upto_region 17 with fail
            go_wp2_with fail
            rw [← HPG0.out]
            refine (balanced_yes p' t R rm W hX4 HIT.out HRT.out.few HPT.out hM4).mono ?_
            rintro e W10 ⟨rfl, hb10⟩
            have hX10 := StA.below hX4 hb10
            have hM10 := MapOf.below hM4 hb10 (MapOf.lt hM4)
            have hB10 := Below.trans hB4 (Below.mono hb10 (Below.size hB4))
            clear hX4 hM4 hB4 hb10
            rw [HPG0.out]
            go_wp2_with fail
            go_roundw
            case rel => exact ⟨i + 1, p', t, R, rfl, by go_num, by omega, HPG0.out, hX10, ⟨HIT.out, HRT.out, HPT.out⟩, hM10, HNW.out, HNM.out, hB10⟩
            case measure => simp [intOf]; omega
        · obtain rfl : i = xs.length := by omega
          clear hX hM hH
          go_wp2_with fail
          refine (awake_any _).mono ?_
          rintro e W9 ⟨rfl, hb9⟩
          have hB9 := hB.trans (hb9.mono hB.size)
          go_wp2_with fail
          go_ret
          exact ⟨rfl, hB9⟩
end Go.Proofs.Ytpeokpnjnmgloaa
