/- Used of both texts. -/
import Derived.Test.YtecaaimaeaocbaaDoorKRCount
import Derived.Test.YtecaaimaeaocbaaDoorKRParse
import Derived.Test.YtecaaimaeaocbaaDoorKCompare
namespace Go.Proofs.YtecaaimaeaocbaaDoor
open Go Go.RowKit
def kdOk (p : Pt) : Bool := inB 1 p.a 1000 && inB 1 p.b 1000
def kindsB (kl : List Pt) : Bool := kl.all kdOk && decide (kl.length ≤ 26)
theorem kinds_few {kl : List Pt} (h : kindsB kl = true) : kl.length ≤ 26 := by
  unfold kindsB at h
  rw [Bool.and_eq_true, decide_eq_true_eq] at h
  exact h.2
theorem pt_at {w : World} {B : Nat} {A : Option Addr} {xs : List Pt} {k : Nat} (h : Slc Pt.enc 2 w B A xs) (hk : k < xs.length) :
    ∃ x b off, xs[k]? = some x ∧ A = some ⟨b, off, none⟩ ∧ b < B ∧ w.cell? ⟨b, off + k * 2, none⟩ = some (.int .i64 x.a) ∧ w.cell? ⟨b, off + k * 2 + 1, none⟩ = some (.int .i64 x.b) := by
  have hx : xs[k]? = some xs[k] := List.getElem?_eq_getElem hk
  obtain ⟨b, off, ha, hb, h0, h1⟩ := h.at2 hx (v0 := .int .i64 xs[k].a) (v1 := .int .i64 xs[k].b) rfl
  exact ⟨xs[k], b, off, hx, ha, hb, h0, h1⟩
set_option maxRecDepth 100000 in
set_option maxHeartbeats 1000000 in
theorem vkinds_any (A : Option Addr) (c : Nat) (kl : List Pt) (w W : World) (hl : kl.length ≤ 100000) (hS : Slc Pt.enc 2 W W.heap.size A kl) (hB : Below w.heap.size w W) :
    Calls Tryd.prog 68 #[.slice A kl.length c] W fun e w' => e = .returned (.bool (kindsB kl)) ∧ Below w.heap.size w w' := by
  have HA : Hid (kindsB kl = ((kl.drop 0).all kdOk && decide (kl.length ≤ 26))) := rfl
  go_enter Tryd.func68, Tryd.ntmps68
  go_wp2_with fail
  go_loopw [7] (fun y wr => ∃ (i : Nat), y = .int .i64 i ∧ i ≤ kl.length ∧ Hid (kindsB kl = ((kl.drop i).all kdOk && decide (kl.length ≤ 26))) ∧ Slc Pt.enc 2 wr wr.heap.size A kl ∧ Below w.heap.size w wr) (fun y _ => kl.length - (intOf y).toNat)
  case atStart => exact ⟨0, rfl, Nat.zero_le _, HA, hS, hB⟩
  case round =>
    clear hS hB HA
    obtain ⟨W, rfl⟩ : ∃ W : World, W = wr := ⟨_, rfl⟩
    obtain ⟨i, rfl, hi, HA, hS, hB⟩ := hrel
    by_cases hlt : i < kl.length
    · obtain ⟨x, b, off, hx, hA, _, d0, d1⟩ := pt_at hS hlt
      have hii : (i : Int) < (kl.length : Int) := by omega
      have HX := hide hx
      clear hx
      subst hA
      go_upto_region 4 with fail
      have hm := Blk.new W 71 #[.int .i64 x.a, .int .i64 x.b]
      replace hS := Slc.on hS ((Below.refl _ W).alloc (Nat.le_refl _) (.cells #[.int .i64 x.a, .int .i64 x.b] 71))
      have hsz_bx : (W.alloc (.cells #[.int .i64 x.a, .int .i64 x.b] 71)).heap.size = W.heap.size + 1 := by simp
      have bxge := hB.size
      replace hB := hB.alloc hB.size (.cells #[.int .i64 x.a, .int .i64 x.b] 71)
      generalize hbx : W.heap.size = bx at *
      generalize W.alloc (.cells #[.int .i64 x.a, .int .i64 x.b] 71) = W at *
      clear hbx
      have m0 := hm.cell_ 0 rfl
      have m1 := hm.cell_ 1 rfl
      clear d0 d1
      cases q1 : inB 1 x.a 1000
      case false =>
        have HV : Hid (kindsB kl = false) := by show _ = _; rw [HA.out, all_drop HX.out, kdOk, q1]; rfl
        go_wp2_with fail
        refine (kwithin_is 1 x.a 1000 _ q1).mono ?_
        rintro e W' ⟨rfl, rfl⟩
        clear q1
        go_wp2_with fail
        go_ret
        exact ⟨ret_bool HV.out.symm, hB⟩
      case true =>
        cases q2 : inB 1 x.b 1000
        case false =>
          have HV : Hid (kindsB kl = false) := by show _ = _; rw [HA.out, all_drop HX.out, kdOk, q1, q2]; rfl
          go_wp2_with fail
          refine (kwithin_is 1 x.a 1000 _ q1).mono ?_
          rintro e W' ⟨rfl, rfl⟩
          clear q1
          go_wp2_with fail
          refine (kwithin_is 1 x.b 1000 _ q2).mono ?_
          rintro e W' ⟨rfl, rfl⟩
          clear q2
          go_wp2_with fail
          go_ret
          exact ⟨ret_bool HV.out.symm, hB⟩
        case true =>
          have HA2 : Hid (kindsB kl = ((kl.drop (i + 1)).all kdOk && decide (kl.length ≤ 26))) := by show _ = _; rw [HA.out, all_drop HX.out, kdOk, q1, q2]; rfl
          go_wp2_with fail
          refine (kwithin_is 1 x.a 1000 _ q1).mono ?_
          rintro e W' ⟨rfl, rfl⟩
          clear q1
          go_wp2_with fail
          refine (kwithin_is 1 x.b 1000 _ q2).mono ?_
          rintro e W' ⟨rfl, rfl⟩
          clear q2
          go_wp2_with fail
          go_roundw
          case rel => exact ⟨i + 1, by go_num, by omega, HA2, hS, hB⟩
          case measure => simp [intOf]; omega
    · obtain rfl : i = kl.length := by omega
      by_cases h26 : kl.length ≤ 26
      · have HV : Hid (kindsB kl = true) := by show _ = _; rw [HA.out, List.drop_length, decide_eq_true h26]; rfl
        have f1 : (kl.length : Int) ≤ 26 := by omega
        go_wp2_with fail
        go_ret
        exact ⟨by rw [HV.out]; simp, hB⟩
      · have HV : Hid (kindsB kl = false) := by show _ = _; rw [HA.out, List.drop_length, decide_eq_false h26]; rfl
        have f1 : ¬ (kl.length : Int) ≤ 26 := by omega
        go_wp2_with fail
        go_ret
        exact ⟨by rw [HV.out]; simp, hB⟩
set_option maxRecDepth 100000 in
set_option maxHeartbeats 1000000 in
theorem rkinds_any (A : Option Addr) (c : Nat) (kl : List Pt) (w W : World) (hl : kl.length ≤ 100000) (hS : Slc Pt.enc 2 W W.heap.size A kl) (hB : Below w.heap.size w W) :
    Calls Tryd.prog 70 #[.slice A kl.length c] W fun e w' => e = .returned (.bool (kindsB kl)) ∧ Below w.heap.size w w' := by
  have HA : Hid (kindsB kl = ((kl.drop 0).all kdOk && decide (kl.length ≤ 26))) := rfl
  go_enter Tryd.func70, Tryd.ntmps70
  go_wp2_with fail
  go_loopw [3] (fun y wr => ∃ (i : Nat), y = .int .i64 i ∧ i ≤ kl.length ∧ Hid (kindsB kl = ((kl.drop i).all kdOk && decide (kl.length ≤ 26))) ∧ Slc Pt.enc 2 wr wr.heap.size A kl ∧ Below w.heap.size w wr) (fun y _ => kl.length - (intOf y).toNat)
  case atStart => exact ⟨0, rfl, Nat.zero_le _, HA, hS, hB⟩
  case round =>
    clear hS hB HA
    obtain ⟨W, rfl⟩ : ∃ W : World, W = wr := ⟨_, rfl⟩
    obtain ⟨i, rfl, hi, HA, hS, hB⟩ := hrel
    by_cases hlt : i < kl.length
    · obtain ⟨x, b, off, hx, hA, _, d0, d1⟩ := pt_at hS hlt
      have hii : (i : Int) < (kl.length : Int) := by omega
      have HX := hide hx
      clear hx
      subst hA
      cases q1 : inB 1 x.a 1000
      case false =>
        have HV : Hid (kindsB kl = false) := by show _ = _; rw [HA.out, all_drop HX.out, kdOk, q1]; rfl
        go_wp2_with fail
        refine (kfrom_is 1 x.a 1000 _ q1).mono ?_
        rintro e W' ⟨rfl, rfl⟩
        clear q1
        go_wp2_with fail
        go_ret
        exact ⟨ret_bool HV.out.symm, hB⟩
      case true =>
        cases q2 : inB 1 x.b 1000
        case false =>
          have HV : Hid (kindsB kl = false) := by show _ = _; rw [HA.out, all_drop HX.out, kdOk, q1, q2]; rfl
          go_wp2_with fail
          refine (kfrom_is 1 x.a 1000 _ q1).mono ?_
          rintro e W' ⟨rfl, rfl⟩
          clear q1
          go_wp2_with fail
          refine (kfrom_is 1 x.b 1000 _ q2).mono ?_
          rintro e W' ⟨rfl, rfl⟩
          clear q2
          go_wp2_with fail
          go_ret
          exact ⟨ret_bool HV.out.symm, hB⟩
        case true =>
          have HA2 : Hid (kindsB kl = ((kl.drop (i + 1)).all kdOk && decide (kl.length ≤ 26))) := by show _ = _; rw [HA.out, all_drop HX.out, kdOk, q1, q2]; rfl
          go_wp2_with fail
          refine (kfrom_is 1 x.a 1000 _ q1).mono ?_
          rintro e W' ⟨rfl, rfl⟩
          clear q1
          go_wp2_with fail
          refine (kfrom_is 1 x.b 1000 _ q2).mono ?_
          rintro e W' ⟨rfl, rfl⟩
          clear q2
          go_wp2_with fail
          go_roundw
          case rel => exact ⟨i + 1, by go_num, by omega, HA2, hS, hB⟩
          case measure => simp [intOf]; omega
    · obtain rfl : i = kl.length := by omega
      by_cases h26 : kl.length ≤ 26
      · have HV : Hid (kindsB kl = true) := by show _ = _; rw [HA.out, List.drop_length, decide_eq_true h26]; rfl
        have f1 : (kl.length : Int) ≤ 26 := by omega
        go_wp2_with fail
        go_ret
        exact ⟨by rw [HV.out]; simp, hB⟩
      · have HV : Hid (kindsB kl = false) := by show _ = _; rw [HA.out, List.drop_length, decide_eq_false h26]; rfl
        have f1 : ¬ (kl.length : Int) ≤ 26 := by omega
        go_wp2_with fail
        go_ret
        exact ⟨by rw [HV.out]; simp, hB⟩
theorem vkinds_is (A : Option Addr) (c : Nat) (kl : List Pt) (w : World) (hl : kl.length ≤ 100000) (hS : Slc Pt.enc 2 w w.heap.size A kl) {v : Bool} (h : kindsB kl = v) :
    Calls Tryd.prog 68 #[.slice A kl.length c] w fun e w' => e = .returned (.bool v) ∧ Below w.heap.size w w' := by
  subst h; exact vkinds_any A c kl w w hl hS (Below.refl _ _)
theorem rkinds_is (A : Option Addr) (c : Nat) (kl : List Pt) (w : World) (hl : kl.length ≤ 100000) (hS : Slc Pt.enc 2 w w.heap.size A kl) {v : Bool} (h : kindsB kl = v) :
    Calls Tryd.prog 70 #[.slice A kl.length c] w fun e w' => e = .returned (.bool v) ∧ Below w.heap.size w w' := by
  subst h; exact rkinds_any A c kl w w hl hS (Below.refl _ _)
/-- what Used returns -/
def usedE (s : ByteArray) (kl : List Pt) : Int := if kindsB kl then (if parseE s = 0 then (if okN kl.length (pcsT (parseT s)) then 0 else 44) else parseE s) else 2
def usedL (s : ByteArray) (kl : List Pt) : List Int := if kindsB kl && decide (parseE s = 0) && okN kl.length (pcsT (parseT s)) then addP (List.replicate kl.length 0) (pcsT (parseT s)) else []
def UsedPost (s : ByteArray) (kl : List Pt) (w : World) (e : Ending) (w' : World) : Prop :=
  ∃ (A : Option Addr) (c : Nat), e = .returned (.tuple #[.slice A (usedL s kl).length c, .int .i64 (usedE s kl)]) ∧ Slc intEnc 1 w' w'.heap.size A (usedL s kl) ∧ Below w.heap.size w w' ∧ (usedE s kl = 0 → ∃ g, A = some ⟨g, 0, none⟩ ∧ w.heap.size ≤ g ∧ Blk w' g 3 (intJ (usedL s kl) []))
theorem parse_zero {s : ByteArray} (h : parseE s = 0) : Right (parseT s) ∧ byt s = textT (parseT s) ∧ htT (parseT s) ≤ 20 ∧ s.size ≤ 2000 := by
  unfold parseE at h
  by_cases hl : 2000 < s.size
  · rw [if_pos hl] at h; exact absurd h (by decide)
  · rw [if_neg hl] at h
    cases hp : parsed s with
    | none => rw [hp] at h; exact absurd h (by decide)
    | some t =>
      rw [hp] at h
      dsimp only at h
      by_cases ht : 20 < htT t
      · rw [if_pos ht] at h; exact absurd h (by decide)
      · obtain ⟨h1, h2, h3⟩ := parsed_some hp
        rw [(parse_ok hl hp ht).2]
        exact ⟨h2, h1, by omega, by omega⟩
theorem pcs_text {t : Tree} (hr : Right t) : (pcsT t).length ≤ (textT t).length := by
  induction hr with
  | waste => simp [pcsT, textT]
  | piece => simp [pcsT, textT]
  | cut op n a b hop _ _ _ _ iha ihb =>
    simp only [pcsT, textT, List.length_append, List.length_cons, List.length_nil]
    omega
theorem zeros_bd (n : Nat) : BdL 0 (List.replicate n 0) := fun x hx => by rw [(List.mem_replicate.1 hx).2]; simp
set_option maxRecDepth 100000 in
set_option maxHeartbeats 2000000 in
theorem used_gen (s : ByteArray) (A : Option Addr) (c : Nat) (kl : List Pt) (w W : World) (hl : kl.length ≤ 1000) (hS : Slc Pt.enc 2 W W.heap.size A kl) (hB : Below w.heap.size w W) :
    Calls Tryd.prog 32 #[.string s, .slice A kl.length c] W fun e w' => UsedPost s kl w e w' := by
  have hT0 : True := trivial
  go_enter Tryd.func32, Tryd.ntmps32
  cases hkb : kindsB kl with
  | false =>
    have HE : Hid (usedE s kl = 2 ∧ usedL s kl = []) := ⟨by unfold usedE; rw [hkb]; rfl, by unfold usedL; rw [hkb]; rfl⟩
    go_wp2_with fail
    refine (vkinds_is A c kl _ (by omega) hS hkb).mono ?_
    rintro e W ⟨rfl, hb⟩
    replace hS := Slc.on hS hb
    replace hB := hB.trans (hb.mono hB.size)
    clear hb
    clear hkb
    go_wp2_with fail
    go_ret2
    exact ⟨none, 0, by rw [HE.out.1, HE.out.2]; rfl, by rw [HE.out.2]; exact Slc.nil_, hB, fun h => absurd (HE.out.1.symm.trans h) (by decide)⟩
  | true =>
    have h26 := kinds_few hkb
    have HK := hide hkb
    go_wp2_with fail
    refine (vkinds_is A c kl _ (by omega) hS hkb).mono ?_
    rintro e W ⟨rfl, hb⟩
    replace hS := Slc.on hS hb
    replace hB := hB.trans (hb.mono hB.size)
    clear hb
    clear hkb
    go_wp2_with fail
    refine (parse_any s _).mono ?_
    rintro e W2 ⟨⟨op, n, pc, A1, k1, c1⟩, rfl, hT, hb⟩
    dsimp only
    replace hS := hS.on hb
    replace hB := hB.trans (hb.mono hB.size)
    clear hb
    have lW2 : w.heap.size ≤ W2.heap.size := hB.size
    obtain ⟨E, hE⟩ : ∃ E, parseE s = E := ⟨_, rfl⟩
    rw [hE]
    have HEE := hide hE
    clear hE
    have hb2 := (Below.refl W2.heap.size W2).alloc (Nat.le_refl _) (.cells #[.int .i64 op, .int .i64 n, .int .u8 pc, .slice A1 k1 c1] 60)
    have hm := Blk.new W2 60 #[.int .i64 op, .int .i64 n, .int .u8 pc, .slice A1 k1 c1]
    replace hS := hS.on hb2
    replace hB := hB.trans (hb2.mono hB.size)
    replace hT := hT.belowB hb2 (Nat.le_refl _)
    clear hb2
    go_upto_region 4 with fail
    generalize W2.alloc (.cells #[.int .i64 op, .int .i64 n, .int .u8 pc, .slice A1 k1 c1] 60) = W3 at *
    by_cases hE0 : E = 0
    · subst hE0
      obtain ⟨z1, z2, z3, z4⟩ := parse_zero HEE.out
      have HR := hide z1
      have HPL : Hid (0 + (pcsT (parseT s)).length ≤ 1000000000) := by
        show _ ≤ _
        have := pcs_text z1
        rw [← z2, byt_len] at this
        omega
      clear z1 z2 z3 z4
      obtain ⟨t, ht⟩ : ∃ t, parseT s = t := ⟨_, rfl⟩
      have HTT := hide ht
      rw [ht] at hT HR HPL
      clear ht
      have hmk := mk_zeros kl.length (by omega)
      have lW3 : W2.heap.size < W3.heap.size := hm.lt
      have hb3 := (Below.refl W3.heap.size W3).alloc (Nat.le_refl _) (.cells (intJ (List.replicate kl.length 0) []) 3)
      have hU := Blk.new W3 3 (intJ (List.replicate kl.length 0) [])
      replace hm := hm.alloc (.cells (intJ (List.replicate kl.length 0) []) 3)
      replace hB := hB.trans (hb3.mono hB.size)
      replace hT := hT.belowB hb3 (by omega)
      clear hb3 hS
      go_upto_region 7 with fail
      clear hmk
      generalize W3.alloc (.cells (intJ (List.replicate kl.length 0) []) 3) = W4 at *
      have m0 := hm.cell_ 0 (v := .int .i64 op) rfl
      have m1 := hm.cell_ 1 (v := .int .i64 n) rfl
      have m2 := hm.cell_ 2 (v := .int .u8 pc) rfl
      have m3 := hm.cell_ 3 (v := .slice A1 k1 c1) rfl
      obtain ⟨ok, hok⟩ : ∃ ok, okN kl.length (pcsT t) = ok := ⟨_, rfl⟩
      have HOK := hide hok
      go_wp2_with fail
      refine (count_all 20 t op n pc A1 k1 c1 W2.heap.size W3.heap.size kl.length (List.replicate kl.length 0) [] kl.length 0 W4 HR.out hT (by omega) hU List.length_replicate (zeros_bd _) HPL.out).mono ?_
      rintro e W5 ⟨ls, he, hU2, hl2, hc2, hadd, _⟩
      rw [hok] at he hadd
      subst he
      have hB5 := hB.trans (hc2.below1 hB.size (by omega))
      have HAD := hide hadd
      clear hm hT hU hB m0 m1 m2 m3 hc2 hok hadd
      cases ok with
      | false =>
        have HE : Hid (usedE s kl = 44 ∧ usedL s kl = []) := ⟨by unfold usedE; rw [HK.out, HEE.out, HTT.out, HOK.out]; rfl, by unfold usedL; rw [HK.out, HTT.out, HOK.out, Bool.and_false]; rfl⟩
        go_wp2_with fail
        go_ret2
        exact ⟨none, 0, by rw [HE.out.1, HE.out.2]; rfl, by rw [HE.out.2]; exact Slc.nil_, hB5, fun h => absurd (HE.out.1.symm.trans h) (by decide)⟩
      | true =>
        have HE : Hid (usedE s kl = 0 ∧ usedL s kl = ls) := ⟨by unfold usedE; rw [HK.out, HEE.out, HTT.out, HOK.out]; rfl, by unfold usedL; rw [HK.out, HEE.out, HTT.out, HOK.out, HAD.out (by simp)]; rfl⟩
        go_wp2_with fail
        go_ret2
        exact ⟨some ⟨W3.heap.size, 0, none⟩, kl.length, by rw [HE.out.1, HE.out.2, hl2]; rfl, by rw [HE.out.2]; exact intJ_slc hU2, hB5, fun _ => ⟨W3.heap.size, rfl, by omega, by rw [HE.out.2]; exact hU2⟩⟩
    · have f1 : (E == 0) = false := by rw [beq_eq_false_iff_ne]; exact hE0
      have HE : Hid (usedE s kl = E ∧ usedL s kl = []) := ⟨by unfold usedE; rw [HK.out, HEE.out]; simp [hE0], by unfold usedL; rw [HK.out, HEE.out]; simp [hE0]⟩
      have HNE := hide hE0
      clear hE0
      go_wp2_with fail
      go_ret2
      exact ⟨none, 0, by rw [HE.out.1, HE.out.2]; rfl, by rw [HE.out.2]; exact Slc.nil_, hB, fun h => absurd (HE.out.1.symm.trans h) HNE.out⟩
set_option maxRecDepth 100000 in
set_option maxHeartbeats 2000000 in
theorem rused_gen (s : ByteArray) (A : Option Addr) (c : Nat) (kl : List Pt) (w W : World) (hl : kl.length ≤ 1000) (hS : Slc Pt.enc 2 W W.heap.size A kl) (hB : Below w.heap.size w W) :
    Calls Tryd.prog 33 #[.string s, .slice A kl.length c] W fun e w' => UsedPost s kl w e w' := by
  have hT0 : True := trivial
  go_enter Tryd.func33, Tryd.ntmps33
  cases hkb : kindsB kl with
  | false =>
    have HE : Hid (usedE s kl = 2 ∧ usedL s kl = []) := ⟨by unfold usedE; rw [hkb]; rfl, by unfold usedL; rw [hkb]; rfl⟩
    go_wp2_with fail
    refine (rkinds_is A c kl _ (by omega) hS hkb).mono ?_
    rintro e W ⟨rfl, hb⟩
    replace hS := Slc.on hS hb
    replace hB := hB.trans (hb.mono hB.size)
    clear hb
    clear hkb
    go_wp2_with fail
    go_ret2
    exact ⟨none, 0, by rw [HE.out.1, HE.out.2]; rfl, by rw [HE.out.2]; exact Slc.nil_, hB, fun h => absurd (HE.out.1.symm.trans h) (by decide)⟩
  | true =>
    have h26 := kinds_few hkb
    have HK := hide hkb
    go_wp2_with fail
    refine (rkinds_is A c kl _ (by omega) hS hkb).mono ?_
    rintro e W ⟨rfl, hb⟩
    replace hS := Slc.on hS hb
    replace hB := hB.trans (hb.mono hB.size)
    clear hb
    clear hkb
    go_wp2_with fail
    refine (rparse_any s _).mono ?_
    rintro e W2 ⟨⟨op, n, pc, A1, k1, c1⟩, rfl, hT, hb⟩
    dsimp only
    replace hS := hS.on hb
    replace hB := hB.trans (hb.mono hB.size)
    clear hb
    have lW2 : w.heap.size ≤ W2.heap.size := hB.size
    obtain ⟨E, hE⟩ : ∃ E, parseE s = E := ⟨_, rfl⟩
    rw [hE]
    have HEE := hide hE
    clear hE
    have hb2 := (Below.refl W2.heap.size W2).alloc (Nat.le_refl _) (.cells #[.int .i64 op, .int .i64 n, .int .u8 pc, .slice A1 k1 c1] 60)
    have hm := Blk.new W2 60 #[.int .i64 op, .int .i64 n, .int .u8 pc, .slice A1 k1 c1]
    replace hS := hS.on hb2
    replace hB := hB.trans (hb2.mono hB.size)
    replace hT := hT.belowB hb2 (Nat.le_refl _)
    clear hb2
    go_upto_region 4 with fail
    generalize W2.alloc (.cells #[.int .i64 op, .int .i64 n, .int .u8 pc, .slice A1 k1 c1] 60) = W3 at *
    by_cases hE0 : E = 0
    · subst hE0
      obtain ⟨z1, z2, z3, z4⟩ := parse_zero HEE.out
      have HR := hide z1
      have HPL : Hid (0 + (pcsT (parseT s)).length ≤ 1000000000) := by
        show _ ≤ _
        have := pcs_text z1
        rw [← z2, byt_len] at this
        omega
      clear z1 z2 z3 z4
      obtain ⟨t, ht⟩ : ∃ t, parseT s = t := ⟨_, rfl⟩
      have HTT := hide ht
      rw [ht] at hT HR HPL
      clear ht
      have hmk := mk_zeros kl.length (by omega)
      have lW3 : W2.heap.size < W3.heap.size := hm.lt
      have hb3 := (Below.refl W3.heap.size W3).alloc (Nat.le_refl _) (.cells (intJ (List.replicate kl.length 0) []) 3)
      have hU := Blk.new W3 3 (intJ (List.replicate kl.length 0) [])
      replace hm := hm.alloc (.cells (intJ (List.replicate kl.length 0) []) 3)
      replace hB := hB.trans (hb3.mono hB.size)
      replace hT := hT.belowB hb3 (by omega)
      clear hb3 hS
      go_upto_region 7 with fail
      clear hmk
      generalize W3.alloc (.cells (intJ (List.replicate kl.length 0) []) 3) = W4 at *
      have m0 := hm.cell_ 0 (v := .int .i64 op) rfl
      have m1 := hm.cell_ 1 (v := .int .i64 n) rfl
      have m2 := hm.cell_ 2 (v := .int .u8 pc) rfl
      have m3 := hm.cell_ 3 (v := .slice A1 k1 c1) rfl
      obtain ⟨ok, hok⟩ : ∃ ok, okN kl.length (pcsT t) = ok := ⟨_, rfl⟩
      have HOK := hide hok
      go_wp2_with fail
      refine (rcount_all 20 t op n pc A1 k1 c1 W2.heap.size W3.heap.size kl.length (List.replicate kl.length 0) [] kl.length 0 W4 HR.out hT (by omega) hU List.length_replicate (zeros_bd _) HPL.out).mono ?_
      rintro e W5 ⟨ls, he, hU2, hl2, hc2, hadd, _⟩
      rw [hok] at he hadd
      subst he
      have hB5 := hB.trans (hc2.below1 hB.size (by omega))
      have HAD := hide hadd
      clear hm hT hU hB m0 m1 m2 m3 hc2 hok hadd
      cases ok with
      | false =>
        have HE : Hid (usedE s kl = 44 ∧ usedL s kl = []) := ⟨by unfold usedE; rw [HK.out, HEE.out, HTT.out, HOK.out]; rfl, by unfold usedL; rw [HK.out, HTT.out, HOK.out, Bool.and_false]; rfl⟩
        go_wp2_with fail
        go_ret2
        exact ⟨none, 0, by rw [HE.out.1, HE.out.2]; rfl, by rw [HE.out.2]; exact Slc.nil_, hB5, fun h => absurd (HE.out.1.symm.trans h) (by decide)⟩
      | true =>
        have HE : Hid (usedE s kl = 0 ∧ usedL s kl = ls) := ⟨by unfold usedE; rw [HK.out, HEE.out, HTT.out, HOK.out]; rfl, by unfold usedL; rw [HK.out, HEE.out, HTT.out, HOK.out, HAD.out (by simp)]; rfl⟩
        go_wp2_with fail
        go_ret2
        exact ⟨some ⟨W3.heap.size, 0, none⟩, kl.length, by rw [HE.out.1, HE.out.2, hl2]; rfl, by rw [HE.out.2]; exact intJ_slc hU2, hB5, fun _ => ⟨W3.heap.size, rfl, by omega, by rw [HE.out.2]; exact hU2⟩⟩
    · have f1 : (E == 0) = false := by rw [beq_eq_false_iff_ne]; exact hE0
      have HE : Hid (usedE s kl = E ∧ usedL s kl = []) := ⟨by unfold usedE; rw [HK.out, HEE.out]; simp [hE0], by unfold usedL; rw [HK.out, HEE.out]; simp [hE0]⟩
      have HNE := hide hE0
      clear hE0
      go_wp2_with fail
      go_ret2
      exact ⟨none, 0, by rw [HE.out.1, HE.out.2]; rfl, by rw [HE.out.2]; exact Slc.nil_, hB, fun h => absurd (HE.out.1.symm.trans h) HNE.out⟩
end Go.Proofs.YtecaaimaeaocbaaDoor
