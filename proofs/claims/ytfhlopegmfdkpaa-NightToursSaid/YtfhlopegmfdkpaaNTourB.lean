/- Tour of package night, with the place of what it returns. -/
import Derived.Test.YtfhlopegmfdkpaaNTour2
namespace Go.Proofs.Ytfhlopegmfdkpaa
open Go Go.RowKit
def TourPostB (js : List Job) (ns : List Nit) (pl : List Int) (k : Int) (w : World) (e : Ending) (w' : World) : Prop :=
  ∃ A c, e = .returned (.tuple #[.slice A (tourT js ns pl k).length c, .int .i64 (farF js (tourT js ns pl k)), .int .i64 (tourE js ns pl k)]) ∧ Below w.heap.size w w' ∧ Slc intEnc 1 w' w'.heap.size A (tourT js ns pl k) ∧ ∀ b off, A = some ⟨b, off, none⟩ → w.heap.size ≤ b
set_option maxRecDepth 100000 in
set_option maxHeartbeats 4000000 in
theorem tourB_any (AJ : Option Addr) (cJ : Nat) (js : List Job) (AN : Option Addr) (cN : Nat) (ns : List Nit) (A : Option Addr) (c : Nat) (pl : List Int) (k : Int) (w : World) (hJ : Slc Job.enc 8 w w.heap.size AJ js) (hN : Slc Nit.enc 8 w w.heap.size AN ns) (hS : Slc intEnc 1 w w.heap.size A pl)
    (hl1 : js.length ≤ 1000) (hl2 : ns.length ≤ 1000) (hl3 : pl.length ≤ 1000) :
    Calls Try.prog 38 #[.slice AJ js.length cJ, .slice AN ns.length cN, .slice A pl.length c, .int .i64 k] w (TourPostB js ns pl k w) := by
  by_cases h0 : pErr js ns pl = 0
  · cases hin : inB 0 k ((ns.length : Int) - 1)
    · have HE : Hid (tourE js ns pl k = 2) := by show _ = _; unfold tourE; rw [if_pos h0, hin]; rfl
      have HL : Hid (tourT js ns pl k = []) := by show _ = _; unfold tourT; rw [HE.out]; rfl
      have HIN := hide hin
      clear hin
      have hbx0 := Blk.new w 22 #[.slice AJ js.length cJ]
      have hB0 := (Below.refl w.heap.size w).alloc (Nat.le_refl _) (.cells #[.slice AJ js.length cJ] 22)
      have c0 := hbx0.cell_ 0 rfl
      have e1 : IntKind.i64.wrap ((ns.length : Int) - 1) = (ns.length : Int) - 1 := IntWalk.i64_in _ (by omega)
      go_enter Try.func38, Try.ntmps38
      go_wp2_with fail
      generalize w.alloc (.cells #[.slice AJ js.length cJ] 22) = W1 at *
      refine (planned_any AJ cJ js AN cN ns A c pl W1 ((hJ.below hB0).more hB0.size) ((hN.below hB0).more hB0.size) ((hS.below hB0).more hB0.size) hl1 hl2 hl3).mono ?_
      rintro e W0 ⟨rfl, hb⟩
      have hbx := hbx0.below hb hbx0.lt
      have hB := hB0.trans (hb.mono hB0.size)
      have hbj : w.heap.size < W0.heap.size := Nat.lt_of_lt_of_le hbx0.lt hb.size
      clear hbx0 hB0 c0 hb
      have c0 := hbx.cell_ 0 rfl
      rw [h0]
      clear h0
      go_wp2_with fail
      refine (within_any 0 k ((ns.length : Int) - 1) _).mono ?_
      rintro e w' ⟨rfl, rfl⟩
      rw [HIN.out]
      go_wp2_with fail
      go_ret3
      exact ⟨none, 0, by rw [HL.out, HE.out]; rfl, hB, by rw [HL.out]; exact Slc.nil_, fun b off h => by cases h⟩
    · have HE : Hid (tourE js ns pl k = 0) := by show _ = _; unfold tourE; rw [if_pos h0, hin]; rfl
      have HL : Hid (tourT js ns pl k = tourL js pl k) := by show _ = _; unfold tourT; rw [if_pos HE.out]
      obtain ⟨p1, p2, _⟩ := pErr_zero h0
      have HOK := hide (jobs_chain (wrong_facts p1).1)
      have HPF := hide (formed_facts p2).1
      have HIN := hide hin
      clear hin p1 p2
      have hbx0 := Blk.new w 22 #[.slice AJ js.length cJ]
      have hB0 := (Below.refl w.heap.size w).alloc (Nat.le_refl _) (.cells #[.slice AJ js.length cJ] 22)
      have c0 := hbx0.cell_ 0 rfl
      have e1 : IntKind.i64.wrap ((ns.length : Int) - 1) = (ns.length : Int) - 1 := IntWalk.i64_in _ (by omega)
      go_enter Try.func38, Try.ntmps38
      go_wp2_with fail
      generalize w.alloc (.cells #[.slice AJ js.length cJ] 22) = W1 at *
      refine (planned_any AJ cJ js AN cN ns A c pl W1 ((hJ.below hB0).more hB0.size) ((hN.below hB0).more hB0.size) ((hS.below hB0).more hB0.size) hl1 hl2 hl3).mono ?_
      rintro e W0 ⟨rfl, hb⟩
      have hbx := hbx0.below hb hbx0.lt
      have hB := hB0.trans (hb.mono hB0.size)
      have hbj : w.heap.size < W0.heap.size := Nat.lt_of_lt_of_le hbx0.lt hb.size
      clear hbx0 hB0 c0 hb
      have c0 := hbx.cell_ 0 rfl
      rw [h0]
      clear h0
      go_wp2_with fail
      refine (within_any 0 k ((ns.length : Int) - 1) _).mono ?_
      rintro e w' ⟨rfl, rfl⟩
      rw [HIN.out]
      go_wp2_with fail
      go_loopw [12, 30] (fun x y W => ∃ (i : Nat) (lv : Value), x = lv ∧ y = .int .i64 i ∧ i ≤ pl.length ∧ Own W W0.heap.size 3 1 natEnc lv (idxT pl k i) ∧ Below W0.heap.size W0 W) (fun _ y _ => pl.length - (intOf y).toNat)
      case atStart => exact ⟨0, _, rfl, rfl, Nat.zero_le _, Own.nil_, Below.refl _ _⟩
      case round =>
        clear c0
        obtain ⟨W, rfl⟩ : ∃ W : World, W = wr := ⟨_, rfl⟩
        obtain ⟨i, _, rfl, rfl, hi, hO, hbi⟩ := hrel
        obtain ⟨lv, rfl⟩ : ∃ v, v = u12 := ⟨_, rfl⟩
        have hBB := hB.trans (hbi.mono hB.size)
        by_cases hlt : i < pl.length
        · obtain ⟨v, b, off, hv, hA, _, d9⟩ := ints_at' (hS.below hBB) hlt
          have hii : (i : Int) < (pl.length : Int) := by omega
          subst hA
          by_cases hvk : v = k
          · have hvk' : (v == k) = true := by simpa using hvk
            have HC := hide (idxT_yes (show pl[i]? = some k by rw [hv, hvk]))
            have hll := Nat.le_trans (idxT_len pl k i) (show i ≤ 1000000000 by omega)
            have hbs := hbi.size
            clear hv hvk
            go_wp2_with (at_builtin; refine wpList_app _ _ rfl rfl et_ints hO rfl rfl (y := (i : Nat)) rfl rfl rfl hll hbs ?_; intro v' W2 hO2 hb2 hgt2)
            have hbi2 := hbi.trans hb2
            go_roundw
            case rel => exact ⟨i + 1, v', rfl, by go_num, by omega, by rw [HC.out]; exact hO2, hbi2⟩
            case measure => simp [intOf]; omega
          · have hvk' : (v == k) = false := by simpa using hvk
            have HC := hide (idxT_no hv hvk)
            clear hv hvk
            go_wp2_with fail
            go_roundw
            case rel => exact ⟨i + 1, lv, rfl, by go_num, by omega, by rw [HC.out]; exact hO, hbi⟩
            case measure => simp [intOf]; omega
        · obtain rfl : i = pl.length := by omega
          have HMEM : Hid (∀ x ∈ idxT pl k pl.length, x < js.length) := fun x hx => by rw [← HPF.out]; exact (idxT_mem.1 hx).1
          have HLL := hide (idxT_len pl k pl.length)
          have HTL := hide (tourL_len js pl k)
          by_cases hnil : idxT pl k pl.length = []
          · have HT : Hid (tourT js ns pl k = []) := by show _ = _; rw [HL.out]; unfold tourL; rw [hnil]; rfl
            obtain ⟨A2, c2, rfl, _⟩ := hO.form fun _ => rfl
            rw [hnil]
            clear hO hnil
            go_wp2_with fail
            go_ret3
            exact ⟨none, 0, by rw [HT.out, HE.out]; rfl, hBB, by rw [HT.out]; exact Slc.nil_, fun b off h => by cases h⟩
          · obtain ⟨A2, c2, rfl, _⟩ := hO.form fun _ => rfl
            obtain ⟨g, js7, rfl, hge, G⟩ := own_blk (g := fun x : Nat => Value.int .i64 (x : Int)) hO hnil
            have C := sortT_any AJ cJ js w.heap.size W0.heap.size g c2 (idxT pl k pl.length) js7 W hnil HMEM.out (Nat.le_trans HLL.out hl3) hl1 ((hJ.below hBB).more hB.size) (hbx.below hbi hbj) HOK.out hbj hge G
            have C : Calls Try.prog 67 #[.slice (some ⟨g, 0, none⟩) (idxT pl k pl.length).length c2, .func (.func 68) #[] #[.pointer (some ⟨w.heap.size, 0, none⟩)]] W fun e w' => e = .returned (.tuple #[]) ∧ Below W0.heap.size W w' ∧ Slc intEnc 1 w' w'.heap.size (some ⟨g, 0, none⟩) (tourL js pl k) := C
            obtain ⟨m, hm⟩ : ∃ m, (idxT pl k pl.length).length = m + 1 := ⟨(idxT pl k pl.length).length - 1, by have := List.length_pos_iff.2 hnil; omega⟩
            have HTM : Hid ((tourL js pl k).length = m + 1) := by show _ = _; rw [HTL.out, hm]
            have hm1 : m ≤ 1000 := by have := HLL.out; omega
            have HTMEM := hide (fun x (h : x ∈ tourL js pl k) => tourL_mem h)
            rw [hm] at C ⊢
            generalize tourL js pl k = T at *
            have hz : (((m + 1 : Nat) : Int) == 0) = false := by simp; omega
            clear hO hnil hm G HLL HTL HMEM
            go_wp2_with fail
            refine C.mono ?_
            rintro e W2 ⟨rfl, hb2, S⟩
            have hbi2 := hbi.trans hb2
            have hBB2 := hB.trans (hbi2.mono hB.size)
            have c0 := (hbx.below hbi2 hbj).cell_ 0 rfl
            have hTlen := HTM.out
            obtain ⟨u0, b0, o0, hu0, hA0, _, f0⟩ := ints_at' S (show 0 < T.length by omega)
            obtain ⟨u1, b1, o1, hu1, hA1, _, f1⟩ := ints_at' S (show m < T.length by omega)
            injection hA0 with hA0
            injection hA0 with hA0 hA0'
            injection hA1 with hA1
            injection hA1 with hA1 hA1'
            subst hA0 hA0' hA1 hA1'
            simp only [Nat.zero_add] at f0 f1
            obtain ⟨q0, rfl, hq0, _⟩ := HTMEM.out _ (List.mem_of_getElem? hu0)
            obtain ⟨q1, rfl, hq1, _⟩ := HTMEM.out _ (List.mem_of_getElem? hu1)
            have hj0 : q0 < js.length := by rw [← HPF.out]; exact hq0
            have hj1 : q1 < js.length := by rw [← HPF.out]; exact hq1
            obtain ⟨x, b2, off2, hx, hA2, _, hcx⟩ := job_at (hJ.below hBB2) hj0
            obtain ⟨y, b3, off3, hy, hA3, _, hcy⟩ := job_at (hJ.below hBB2) hj1
            have HF := hide (far_at hTlen hu0 hu1 hx hy)
            have hxb := HOK.out x (List.mem_of_getElem? hx)
            have hyb := HOK.out y (List.mem_of_getElem? hy)
            have e9 : IntKind.i64.wrap (y.chain - x.chain) = y.chain - x.chain := IntWalk.i64_in _ (by omega)
            subst hA2
            obtain ⟨rfl, rfl⟩ : b2 = b3 ∧ off2 = off3 := by simpa using hA3
            have dx := hcx 2 _ rfl
            have dy := hcy 2 _ rfl
            have i0 : (q0 : Int) < (js.length : Int) := by omega
            have i1 : (q1 : Int) < (js.length : Int) := by omega
            have e3 : IntKind.i64.wrap (m : Int) = (m : Int) := IntWalk.i64_in _ (by omega)
            have e4 : (m : Int) < (m : Int) + 1 := by omega
            clear hx hy hcx hcy hu0 hu1 hTlen C hz HTMEM
            obtain ⟨W, rfl⟩ : ∃ W : World, W = W2 := ⟨_, rfl⟩
            go_wp2_with fail
            refine wp_region_quiet (C := fun w' => ∃ u : Since W, w' = u.w) (by kernel_rfl) (by kernel_rfl) (Since.start W) ?_
            dsimp only
            have y_c0 := Since.cell c0
            have y_f0 := Since.cell f0
            have y_f1 := Since.cell f1
            have y_dx := Since.cell dx
            have y_dy := Since.cell dy
            repeat (go_big_quiet_step ((fail)))
            refine wpQuiet_nil ?_
            rintro W ⟨⟨_, hb⟩, rfl⟩
            try dsimp only at hb ⊢
            replace c0 : W.cell? _ = _ := y_c0 ⟨W, hb⟩
            replace f0 : W.cell? _ = _ := y_f0 ⟨W, hb⟩
            replace f1 : W.cell? _ = _ := y_f1 ⟨W, hb⟩
            replace dx : W.cell? _ = _ := y_dx ⟨W, hb⟩
            replace dy : W.cell? _ = _ := y_dy ⟨W, hb⟩
            clear y_c0 y_f0 y_f1 y_dx y_dy
            replace S := (S.below hb).more hb.size
            replace hBB2 := hBB2.trans (hb.mono hBB2.size)
            clear hb
            go_wp2_with fail
            go_ret3
            exact ⟨some ⟨g, 0, none⟩, c2, by rw [HL.out, HE.out, HTM.out, HF.out]; rfl, hBB2, by rw [HL.out]; exact S, fun b off h => by injection h with h; injection h with h; omega⟩
  · have HE : Hid (tourE js ns pl k = pErr js ns pl) := by show _ = _; unfold tourE; rw [if_neg h0]
    have HL : Hid (tourT js ns pl k = []) := by show _ = _; unfold tourT; rw [HE.out, if_neg h0]
    have hbx0 := Blk.new w 22 #[.slice AJ js.length cJ]
    have hB0 := (Below.refl w.heap.size w).alloc (Nat.le_refl _) (.cells #[.slice AJ js.length cJ] 22)
    have c0 := hbx0.cell_ 0 rfl
    have e1 : IntKind.i64.wrap ((ns.length : Int) - 1) = (ns.length : Int) - 1 := IntWalk.i64_in _ (by omega)
    go_enter Try.func38, Try.ntmps38
    go_wp2_with fail
    generalize w.alloc (.cells #[.slice AJ js.length cJ] 22) = W1 at *
    refine (planned_any AJ cJ js AN cN ns A c pl W1 ((hJ.below hB0).more hB0.size) ((hN.below hB0).more hB0.size) ((hS.below hB0).more hB0.size) hl1 hl2 hl3).mono ?_
    rintro e W0 ⟨rfl, hb⟩
    have hbx := hbx0.below hb hbx0.lt
    have hB := hB0.trans (hb.mono hB0.size)
    have hbj : w.heap.size < W0.heap.size := Nat.lt_of_lt_of_le hbx0.lt hb.size
    clear hbx0 hB0 c0 hb
    have c0 := hbx.cell_ 0 rfl
    generalize pErr js ns pl = E at *
    have h1' : (E != 0) = true := by simp [h0]
    have h0' : (E == 0) = false := by simpa using h0
    go_wp2_with fail
    go_ret3
    exact ⟨none, 0, by rw [HL.out, HE.out]; rfl, hB, by rw [HL.out]; exact Slc.nil_, fun b off h => by cases h⟩
end Go.Proofs.Ytfhlopegmfdkpaa
