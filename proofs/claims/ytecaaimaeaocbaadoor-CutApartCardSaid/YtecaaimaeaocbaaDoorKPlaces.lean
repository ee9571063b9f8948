/- Places of the program. -/
import Derived.Test.YtecaaimaeaocbaaDoorKLay
namespace Go.Proofs.YtecaaimaeaocbaaDoor
open Go Go.RowKit
def plE (s : ByteArray) (PW PH PK : Int) (kl : List Pt) : Int :=
  if (plateOk PW PH PK && kindsB kl) then (if parseE s = 0 then (if goneT PK (kdL kl) (parseT s) PW PH then 44 else if smallT PK (kdL kl) (parseT s) PW PH then 45 else 0) else parseE s) else 2
def plL (s : ByteArray) (PW PH PK : Int) (kl : List Pt) : List Pl := if plE s PW PH PK kl = 0 then placesT PK (kdL kl) (parseT s) 0 0 PW PH else []
def PlacesPost (s : ByteArray) (PW PH PK : Int) (kl : List Pt) (w : World) (e : Ending) (w' : World) : Prop :=
  ∃ (A : Option Addr) (c : Nat), e = .returned (.tuple #[.slice A (plL s PW PH PK kl).length c, .int .i64 (plE s PW PH PK kl)]) ∧ Slc Pl.enc 5 w' w'.heap.size A (plL s PW PH PK kl) ∧ (plL s PW PH PK kl).length ≤ c ∧ Below w.heap.size w w'
theorem pl_none {s : ByteArray} {PW PH PK : Int} {kl : List Pt} {E : Int} (h : plE s PW PH PK kl = E) (hE : E ≠ 0) : plE s PW PH PK kl = E ∧ plL s PW PH PK kl = [] := ⟨h, by unfold plL; rw [h, if_neg hE]⟩
theorem pl_bad {s : ByteArray} {PW PH PK : Int} {kl : List Pt} (h : (plateOk PW PH PK && kindsB kl) = false) : plE s PW PH PK kl = 2 ∧ plL s PW PH PK kl = [] := pl_none (by unfold plE; rw [h]; rfl) (by decide)
set_option maxRecDepth 100000 in
set_option maxHeartbeats 4000000 in
theorem places_any (s : ByteArray) (PW PH PK : Int) (A : Option Addr) (c : Nat) (kl : List Pt) (w W : World) (hl : kl.length ≤ 1000) (hS : Slc Pt.enc 2 W W.heap.size A kl) (hB : Below w.heap.size w W) :
    Calls Tryd.prog 35 #[.string s, .int .i64 PW, .int .i64 PH, .int .i64 PK, .slice A kl.length c] W fun e w' => PlacesPost s PW PH PK kl w e w' := by
  have HD : Hid (plateOk PW PH PK = (inB 1 PW 1000 && inB 1 PH 1000 && inB 0 PK 20)) := rfl
  go_enter Tryd.func35, Tryd.ntmps35
  cases q1 : inB 1 PW 1000
  case false =>
    have HE := hide (pl_bad (s := s) (kl := kl) (PW := PW) (PH := PH) (PK := PK) (by rw [HD.out, q1]; rfl))
    go_wp2_with fail
    refine (kwithin_is 1 PW 1000 _ q1).mono ?_
    rintro e W' ⟨rfl, rfl⟩
    clear q1
    go_wp2_with fail
    go_ret2
    exact ⟨none, 0, by rw [HE.out.1, HE.out.2]; rfl, by rw [HE.out.2]; exact Slc.nil_, by rw [HE.out.2]; exact Nat.zero_le _, hB⟩
  cases q2 : inB 1 PH 1000
  case false =>
    have HE := hide (pl_bad (s := s) (kl := kl) (PW := PW) (PH := PH) (PK := PK) (by rw [HD.out, q1, q2]; rfl))
    go_wp2_with fail
    refine (kwithin_is 1 PW 1000 _ q1).mono ?_
    rintro e W' ⟨rfl, rfl⟩
    clear q1
    go_wp2_with fail
    refine (kwithin_is 1 PH 1000 _ q2).mono ?_
    rintro e W' ⟨rfl, rfl⟩
    clear q2
    go_wp2_with fail
    go_ret2
    exact ⟨none, 0, by rw [HE.out.1, HE.out.2]; rfl, by rw [HE.out.2]; exact Slc.nil_, by rw [HE.out.2]; exact Nat.zero_le _, hB⟩
  cases q3 : inB 0 PK 20
  case false =>
    have HE := hide (pl_bad (s := s) (kl := kl) (PW := PW) (PH := PH) (PK := PK) (by rw [HD.out, q1, q2, q3]; rfl))
    go_wp2_with fail
    refine (kwithin_is 1 PW 1000 _ q1).mono ?_
    rintro e W' ⟨rfl, rfl⟩
    clear q1
    go_wp2_with fail
    refine (kwithin_is 1 PH 1000 _ q2).mono ?_
    rintro e W' ⟨rfl, rfl⟩
    clear q2
    go_wp2_with fail
    refine (kwithin_is 0 PK 20 _ q3).mono ?_
    rintro e W' ⟨rfl, rfl⟩
    clear q3
    go_wp2_with fail
    go_ret2
    exact ⟨none, 0, by rw [HE.out.1, HE.out.2]; rfl, by rw [HE.out.2]; exact Slc.nil_, by rw [HE.out.2]; exact Nat.zero_le _, hB⟩
  have HPO : Hid (plateOk PW PH PK = true) := by show _ = _; rw [HD.out, q1, q2, q3]; rfl
  go_wp2_with fail
  refine (kwithin_is 1 PW 1000 _ q1).mono ?_
  rintro e W' ⟨rfl, rfl⟩
  clear q1
  go_wp2_with fail
  refine (kwithin_is 1 PH 1000 _ q2).mono ?_
  rintro e W' ⟨rfl, rfl⟩
  clear q2
  go_wp2_with fail
  refine (kwithin_is 0 PK 20 _ q3).mono ?_
  rintro e W' ⟨rfl, rfl⟩
  clear q3
  obtain ⟨kb, hkb⟩ : ∃ b, kindsB kl = b := ⟨_, rfl⟩
  have HK := hide hkb
  go_wp2_with fail
  refine (vkinds_is A c kl W (by omega) hS hkb).mono ?_
  rintro e W2 ⟨rfl, hb⟩
  replace hS := hS.on hb
  replace hB := hB.trans (hb.mono hB.size)
  clear hb hkb
  cases kb with
  | false =>
    have HE := hide (pl_bad (s := s) (kl := kl) (PW := PW) (PH := PH) (PK := PK) (by rw [HK.out, Bool.and_false]))
    go_wp2_with fail
    go_ret2
    exact ⟨none, 0, by rw [HE.out.1, HE.out.2]; rfl, by rw [HE.out.2]; exact Slc.nil_, by rw [HE.out.2]; exact Nat.zero_le _, hB⟩
  | true =>
    have HV : Hid ((plateOk PW PH PK && kindsB kl) = true) := by show _ = _; rw [HPO.out, HK.out]; rfl
    go_wp2_with fail
    refine (parse_any s W2).mono ?_
    rintro e W3 ⟨⟨op, n, pc, A1, k1, c1⟩, rfl, hT, hb⟩
    dsimp only
    replace hS := hS.on hb
    replace hB := hB.trans (hb.mono hB.size)
    clear hb
    obtain ⟨E, hE⟩ : ∃ E, parseE s = E := ⟨_, rfl⟩
    rw [hE]
    have HEE := hide hE
    clear hE
    have hb2 := (Below.refl W3.heap.size W3).alloc (Nat.le_refl _) (.cells #[.int .i64 op, .int .i64 n, .int .u8 pc, .slice A1 k1 c1] 60)
    have hm := Blk.new W3 60 #[.int .i64 op, .int .i64 n, .int .u8 pc, .slice A1 k1 c1]
    replace hS := hS.on hb2
    replace hB := hB.trans (hb2.mono hB.size)
    replace hT := hT.on hb2
    clear hb2
    go_upto_region 4 with fail
    generalize W3.alloc (.cells #[.int .i64 op, .int .i64 n, .int .u8 pc, .slice A1 k1 c1] 60) = W4 at *
    by_cases hE0 : E = 0
    · subst hE0
      obtain ⟨z1, z2, z3, z4⟩ := parse_zero HEE.out
      have HR := hide z1
      have HPL : Hid ((pcsT (parseT s)).length ≤ 100000) := by
        show _ ≤ _
        have := pcs_text z1
        rw [← z2, byt_len] at this
        omega
      clear z1 z2 z3 z4
      obtain ⟨t, ht⟩ : ∃ t, parseT s = t := ⟨_, rfl⟩
      have HTT := hide ht
      rw [ht] at hT HR HPL
      clear ht
      have lm := hm.lt
      have hb2 := (Below.refl W4.heap.size W4).alloc (Nat.le_refl _) (.cells #[.int .i64 PK, .slice A kl.length c, .slice none 0 0, .bool false, .bool false] 96)
      have hU := Blk.new W4 96 #[.int .i64 PK, .slice A kl.length c, .slice none 0 0, .bool false, .bool false]
      replace hS := hS.below hb2
      replace hT := hT.belowB hb2 (Nat.le_refl _)
      replace hm := hm.below hb2 hm.lt
      have lB := hB.size
      replace hB := hB.trans (hb2.mono hB.size)
      clear hb2
      go_upto_region 7 with fail
      generalize W4.alloc (.cells #[.int .i64 PK, .slice A kl.length c, .slice none 0 0, .bool false, .bool false] 96) = W5 at *
      have m0 := hm.cell_ 0 (v := .int .i64 op) rfl
      have m1 := hm.cell_ 1 (v := .int .i64 n) rfl
      have m2 := hm.cell_ 2 (v := .int .u8 pc) rfl
      have m3 := hm.cell_ 3 (v := .slice A1 k1 c1) rfl
      obtain ⟨pw, ph, pk⟩ := plateOk_iff.1 HPO.out
      go_wp2_with fail
      refine (lay_all 20 (Nat.le_refl _) t op n pc A1 k1 c1 W4.heap.size W4.heap.size PK A kl c [] false false 0 0 PW PH W5 HR.out hT ⟨_, hU, Own.nil_⟩ (Nat.le_refl _) hS hl pk (by unfold Rb; omega) (by have := HPL.out; simp; omega)).mono ?_
      rintro e W6 ⟨rfl, hb2, -, pl', s', ⟨v, hU2, hO⟩, -, hres⟩
      replace hB := hB.trans (hb2.mono lB)
      clear m0 m1 m2 m3 hm hT hU hS hb2
      obtain ⟨G, hG⟩ : ∃ G, goneT PK (kdL kl) t PW PH = G := ⟨_, rfl⟩
      rw [hG, Bool.false_or] at hU2
      rw [hG] at hres
      have HG := hide hG
      have HRES := hide hres
      clear hG hres
      have u3 := hU2.cell_ 3 (v := .bool G) rfl
      cases G with
      | true =>
        have HE := hide (pl_none (s := s) (kl := kl) (PW := PW) (PH := PH) (PK := PK) (E := 44) (by unfold plE; rw [HV.out, HEE.out, HTT.out, HG.out]; rfl) (by decide))
        clear hU2 hO
        go_wp2_with fail
        go_ret2
        exact ⟨none, 0, by rw [HE.out.1, HE.out.2]; rfl, by rw [HE.out.2]; exact Slc.nil_, by rw [HE.out.2]; exact Nat.zero_le _, hB⟩
      | false =>
        obtain ⟨h1, h2⟩ := HRES.out rfl
        rw [List.nil_append] at h1
        rw [Bool.false_or] at h2
        have HS := hide h2.symm
        have HP := hide h1
        clear h1 h2
        have u4 := hU2.cell_ 4 (v := .bool s') rfl
        obtain ⟨A9, c9, rfl, hc9, hS9⟩ := hO.form2 (fun _ => rfl)
        have u2 := hU2.cell_ 2 (v := .slice A9 pl'.length c9) rfl
        cases s' with
        | true =>
          have HE := hide (pl_none (s := s) (kl := kl) (PW := PW) (PH := PH) (PK := PK) (E := 45) (by unfold plE; rw [HV.out, HEE.out, HTT.out, HG.out, HS.out]; rfl) (by decide))
          clear hU2 hO
          go_wp2_with fail
          go_ret2
          exact ⟨none, 0, by rw [HE.out.1, HE.out.2]; rfl, by rw [HE.out.2]; exact Slc.nil_, by rw [HE.out.2]; exact Nat.zero_le _, hB⟩
        | false =>
          have HE0 : Hid (plE s PW PH PK kl = 0) := by show _ = _; unfold plE; rw [HV.out, HEE.out, HTT.out, HG.out, HS.out]; rfl
          have HE1 : Hid (plL s PW PH PK kl = pl') := by show _ = _; unfold plL; rw [HE0.out, if_pos rfl, HTT.out]; exact HP.out.symm
          clear hU2 hO
          go_wp2_with fail
          go_ret2
          exact ⟨A9, c9, by rw [HE0.out, HE1.out]; rfl, by rw [HE1.out]; exact hS9, by rw [HE1.out]; exact hc9, hB⟩
    · have g1 : (E == 0) = false := by rw [beq_eq_false_iff_ne]; exact hE0
      have HE := hide (pl_none (s := s) (kl := kl) (PW := PW) (PH := PH) (PK := PK) (E := E) (by unfold plE; rw [HV.out, HEE.out, if_pos rfl, if_neg hE0]) hE0)
      clear hE0
      go_wp2_with fail
      go_ret2
      exact ⟨none, 0, by rw [HE.out.1, HE.out.2]; rfl, by rw [HE.out.2]; exact Slc.nil_, by rw [HE.out.2]; exact Nat.zero_le _, hB⟩
end Go.Proofs.YtecaaimaeaocbaaDoor
