/- Right, planned, Done, Late of both texts: what they return. -/
import Derived.Test.YtkcfalehebacpaaNRight
namespace Go.Proofs.Ytkcfalehebacpaa
open Go Go.RowKit
def rErr (js : List Job) (ns : List Nit) (pl : List Int) : Int := if wrongF js ns = 0 then (if formedB js ns pl then 0 else 82) else wrongF js ns
noncomputable def rOk (js : List Job) (ns : List Nit) (pl : List Int) : Bool := if rErr js ns pl = 0 then rightB js ns pl else false
theorem rErr_zero {js : List Job} {ns : List Nit} {pl : List Int} (h : rErr js ns pl = 0) : wrongF js ns = 0 ∧ formedB js ns pl = true := by
  unfold rErr at h
  split at h
  · rename_i h1
    split at h
    · rename_i h2; exact ⟨h1, h2⟩
    · cases h
  · rename_i h1; exact absurd h h1
set_option maxRecDepth 100000 in
set_option maxHeartbeats 1000000 in
theorem refApiRight_any (AJ : Option Addr) (cJ : Nat) (js : List Job) (AN : Option Addr) (cN : Nat) (ns : List Nit) (A : Option Addr) (c : Nat) (pl : List Int) (w : World) (hJ : Slc Job.enc 8 w w.heap.size AJ js) (hN : Slc Nit.enc 8 w w.heap.size AN ns) (hS : Slc intEnc 1 w w.heap.size A pl)
    (hl1 : js.length ≤ 1000) (hl2 : ns.length ≤ 1000) (hl3 : pl.length ≤ 1000) :
    Calls Try.prog 14 #[.slice AJ js.length cJ, .slice AN ns.length cN, .slice A pl.length c] w fun e w' => e = .returned (.tuple #[.bool (rOk js ns pl), .int .i64 (rErr js ns pl)]) ∧ Below w.heap.size w w' := by
  have e1 := wrong_cases js ns
  by_cases h0 : wrongF js ns = 0
  · have HW := hide h0
    go_enter Try.func14, Try.ntmps14
    go_wp2_with fail
    refine (refWrong_any AJ cJ js AN cN ns w hJ hN hl1 hl2).mono ?_
    rintro e W ⟨rfl, hB⟩
    rw [HW.out]
    clear h0 e1
    go_wp2_with fail
    refine (refPlanned_any AJ cJ js AN cN ns A c pl W ((hS.below hB).more hB.size) hl3).mono ?_
    rintro e W2 ⟨rfl, rfl⟩
    cases hf : formedB js ns pl
    · have HE : Hid (rErr js ns pl = 82) := by show _ = _; unfold rErr; rw [if_pos HW.out, hf]; rfl
      have HO : Hid (rOk js ns pl = false) := by show _ = _; unfold rOk; rw [if_neg (by rw [HE.out]; omega)]
      clear hf
      go_wp2_with fail
      go_ret2
      exact ⟨by rw [HE.out, HO.out]; rfl, hB⟩
    · have HF := hide hf
      have HE : Hid (rErr js ns pl = 0) := by show _ = _; unfold rErr; rw [if_pos HW.out, hf]; rfl
      have HO : Hid (rOk js ns pl = rightB js ns pl) := by show _ = _; unfold rOk; rw [if_pos HE.out]
      clear hf
      have hBB : Below w.heap.size w W := hB
      go_wp2_with fail
      refine (refRight_any AJ cJ js AN cN ns A c pl W ((hJ.below hBB).more hBB.size) ((hN.below hBB).more hBB.size) ((hS.below hBB).more hBB.size) hl1 hl2 HF.out).mono ?_
      rintro e W3 ⟨rfl, hb3⟩
      go_wp2_with fail
      go_ret2
      exact ⟨by rw [HE.out, HO.out]; rfl, hBB.trans (hb3.mono hBB.size)⟩
  · have HE : Hid (rErr js ns pl = wrongF js ns) := by show _ = _; unfold rErr; rw [if_neg h0]
    have HO : Hid (rOk js ns pl = false) := by show _ = _; unfold rOk; rw [if_neg (by rw [HE.out]; exact h0)]
    have h0' : (wrongF js ns == 0) = false := by simpa using h0
    have W0 := refWrong_any AJ cJ js AN cN ns w hJ hN hl1 hl2
    generalize wrongF js ns = E at *
    have h1' : (E != 0) = true := by simp [h0]
    go_enter Try.func14, Try.ntmps14
    go_wp2_with fail
    refine (W0).mono ?_
    rintro e W ⟨rfl, hB⟩
    go_wp2_with fail
    go_ret2
    exact ⟨by rw [HE.out, HO.out]; rfl, hB⟩
/-- the error of jobs, nights and a plan that must be right -/
noncomputable def pErr (js : List Job) (ns : List Nit) (pl : List Int) : Int := if rErr js ns pl = 0 then (if rOk js ns pl then 0 else 82) else rErr js ns pl
theorem pErr_zero {js : List Job} {ns : List Nit} {pl : List Int} (h : pErr js ns pl = 0) : wrongF js ns = 0 ∧ formedB js ns pl = true ∧ Pl (chooseL ns js) (capOf ns) pl := by
  unfold pErr at h
  split at h
  · rename_i h1
    split at h
    · rename_i h2
      obtain ⟨h3, h4⟩ := rErr_zero h1
      refine ⟨h3, h4, ?_⟩
      unfold rOk at h2
      rw [if_pos h1] at h2
      exact rightB_iff.1 h2
    · cases h
  · rename_i h1; exact absurd h h1
set_option maxRecDepth 100000 in
set_option maxHeartbeats 1000000 in
theorem plans_any (AJ : Option Addr) (cJ : Nat) (js : List Job) (AN : Option Addr) (cN : Nat) (ns : List Nit) (A : Option Addr) (c : Nat) (pl : List Int) (w : World) (hJ : Slc Job.enc 8 w w.heap.size AJ js) (hN : Slc Nit.enc 8 w w.heap.size AN ns) (hS : Slc intEnc 1 w w.heap.size A pl)
    (hl1 : js.length ≤ 1000) (hl2 : ns.length ≤ 1000) (hl3 : pl.length ≤ 1000) :
    Calls Try.prog 38 #[.slice AJ js.length cJ, .slice AN ns.length cN, .slice A pl.length c] w fun e w' => e = .returned (.int .i64 (pErr js ns pl)) ∧ Below w.heap.size w w' := by
  have HP : Hid (pErr js ns pl = if rErr js ns pl = 0 then (if rOk js ns pl then 0 else 82) else rErr js ns pl) := rfl
  have R := refApiRight_any AJ cJ js AN cN ns A c pl w hJ hN hS hl1 hl2 hl3
  generalize rErr js ns pl = E at *
  generalize rOk js ns pl = O at *
  by_cases h0 : E = 0
  · subst h0
    cases O
    · go_enter Try.func38, Try.ntmps38
      go_wp2_with fail
      refine R.mono ?_
      rintro e W ⟨rfl, hB⟩
      go_wp2_with fail
      go_ret
      exact ⟨ret_int (by rw [HP.out]; rfl), hB⟩
    · go_enter Try.func38, Try.ntmps38
      go_wp2_with fail
      refine R.mono ?_
      rintro e W ⟨rfl, hB⟩
      go_wp2_with fail
      go_ret
      exact ⟨ret_int (by rw [HP.out]; rfl), hB⟩
  · have h0' : (E == 0) = false := by simpa using h0
    have HE := hide h0
    go_enter Try.func38, Try.ntmps38
    go_wp2_with fail
    refine R.mono ?_
    rintro e W ⟨rfl, hB⟩
    go_wp2_with fail
    go_ret
    exact ⟨ret_int (by rw [HP.out, if_neg HE.out]), hB⟩
noncomputable def dVal (js : List Job) (ns : List Nit) (pl : List Int) : Nat := if pErr js ns pl = 0 then doneN pl else 0
theorem doneN_take {pl : List Int} {i : Nat} {v : Int} (h : pl[i]? = some v) : doneN (pl.take (i + 1)) = doneN (pl.take i) + if 0 ≤ v then 1 else 0 := by
  unfold doneN
  rw [countP_snoc h]
  by_cases h0 : 0 ≤ v <;> simp [h0]
set_option maxRecDepth 100000 in
set_option maxHeartbeats 1000000 in
theorem refDone0_any (A : Option Addr) (c : Nat) (pl : List Int) (w : World) (hS : Slc intEnc 1 w w.heap.size A pl) (hl3 : pl.length ≤ 1000) :
    Calls Try.prog 39 #[.slice A pl.length c] w fun e w' => e = .returned (.int .i64 (doneN pl)) ∧ Below w.heap.size w w' := by
  have hB := Below.refl w.heap.size w
  go_enter Try.func39, Try.ntmps39
  go_wp2_with fail
  go_loopw [3, 4] (fun x y W => ∃ (i : Nat), x = .int .i64 (doneN (pl.take i)) ∧ y = .int .i64 i ∧ i ≤ pl.length ∧ Below w.heap.size w W) (fun _ y _ => pl.length - (intOf y).toNat)
  case atStart => exact ⟨0, by simp [doneN], rfl, Nat.zero_le _, hB⟩
  case round =>
    clear hB
    obtain ⟨W, rfl⟩ : ∃ W : World, W = wr := ⟨_, rfl⟩
    obtain ⟨i, rfl, rfl, hi, hB⟩ := hrel
    by_cases hlt : i < pl.length
    · obtain ⟨v, b, off, hv, hA, _, d9⟩ := ints_at' (hS.below hB) hlt
      have hii : (i : Int) < (pl.length : Int) := by omega
      have HC := hide (doneN_take hv)
      have hcb : doneN (pl.take i) ≤ 1000 := Nat.le_trans List.countP_le_length (by rw [List.length_take]; omega)
      generalize doneN (pl.take i) = cnt0 at *
      clear hv
      subst hA
      by_cases h0 : 0 ≤ v
      · have HC2 : Hid (doneN (pl.take (i + 1)) = cnt0 + 1) := by show _ = _; rw [HC.out, if_pos h0]
        go_wp2_with fail
        go_roundw
        case rel => exact ⟨i + 1, by rw [HC2.out]; go_num, by go_num, by omega, hB⟩
        case measure => simp [intOf]; omega
      · have HC2 : Hid (doneN (pl.take (i + 1)) = cnt0) := by show _ = _; rw [HC.out, if_neg h0, Nat.add_zero]
        go_wp2_with fail
        go_roundw
        case rel => exact ⟨i + 1, by rw [HC2.out], by go_num, by omega, hB⟩
        case measure => simp [intOf]; omega
    · obtain rfl : i = pl.length := by omega
      rw [List.take_length]
      go_wp2_with fail
      go_ret
      exact ⟨rfl, hB⟩
set_option maxRecDepth 100000 in
set_option maxHeartbeats 1000000 in
theorem refDone_any (AJ : Option Addr) (cJ : Nat) (js : List Job) (AN : Option Addr) (cN : Nat) (ns : List Nit) (A : Option Addr) (c : Nat) (pl : List Int) (w : World) (hJ : Slc Job.enc 8 w w.heap.size AJ js) (hN : Slc Nit.enc 8 w w.heap.size AN ns) (hS : Slc intEnc 1 w w.heap.size A pl)
    (hl1 : js.length ≤ 1000) (hl2 : ns.length ≤ 1000) (hl3 : pl.length ≤ 1000) :
    Calls Try.prog 15 #[.slice AJ js.length cJ, .slice AN ns.length cN, .slice A pl.length c] w fun e w' => e = .returned (.tuple #[.int .i64 (dVal js ns pl), .int .i64 (pErr js ns pl)]) ∧ Below w.heap.size w w' := by
  by_cases h0 : pErr js ns pl = 0
  · have HE := hide h0
    have HD : Hid (dVal js ns pl = doneN pl) := by show _ = _; unfold dVal; rw [if_pos h0]
    have P0 := plans_any AJ cJ js AN cN ns A c pl w hJ hN hS hl1 hl2 hl3
    rw [h0] at P0
    clear h0
    go_enter Try.func15, Try.ntmps15
    go_wp2_with fail
    refine P0.mono ?_
    rintro e W ⟨rfl, hB⟩
    go_wp2_with fail
    refine (refDone0_any A c pl W ((hS.below hB).more hB.size) hl3).mono ?_
    rintro e W2 ⟨rfl, hb⟩
    go_wp2_with fail
    go_ret2
    exact ⟨by rw [HD.out, HE.out]; rfl, hB.trans (hb.mono hB.size)⟩
  · have HE := hide h0
    have HD : Hid (dVal js ns pl = 0) := by show _ = _; unfold dVal; rw [if_neg h0]
    have P0 := plans_any AJ cJ js AN cN ns A c pl w hJ hN hS hl1 hl2 hl3
    generalize pErr js ns pl = E at *
    have h1' : (E != 0) = true := by simp [h0]
    have h0' : (E == 0) = false := by simpa using h0
    go_enter Try.func15, Try.ntmps15
    go_wp2_with fail
    refine P0.mono ?_
    rintro e W ⟨rfl, hB⟩
    go_wp2_with fail
    go_ret2
    exact ⟨by rw [HD.out]; rfl, hB⟩
end Go.Proofs.Ytkcfalehebacpaa
