/- Late of both texts: what they return. -/
import Derived.Test.YtfhlopegmfdkpaaNRightApi
namespace Go.Proofs.Ytfhlopegmfdkpaa
open Go Go.RowKit
def wtB (v : Int) : Bool := inB 0 v 1000000
theorem late1_any (v : Int) (w : World) : Calls Try.prog 72 #[.int .i64 v] w fun e w' => e = .returned (.bool (!wtB v)) ∧ Below w.heap.size w w' := by
  have HV : Hid (wtB v = inB 0 v 1000000) := rfl
  go_enter Try.func72, Try.ntmps72
  go_wp2_with fail
  refine (within_any 0 v 1000000 _).mono ?_
  rintro e w' ⟨rfl, rfl⟩
  go_wp2_with fail
  go_ret
  exact ⟨ret_bool (by rw [HV.out]), Below.refl _ _⟩
set_option maxHeartbeats 1000000 in
theorem indexLate_any (A : Option Addr) (c : Nat) (l : List Int) (w : World) (hlen : l.length ≤ 1000) (hS : Slc intEnc 1 w w.heap.size A l) :
    Calls Try.prog 91 #[.slice A l.length c, .func (.func 72) #[] #[]] w (IxPost (l.any fun x => !wtB x) w) := by
  go_enter Try.func91, Try.ntmps91
  go_wp2_with fail
  go_loopw [8] (fun i wr => ∃ k : Nat, k ≤ l.length ∧ i = .int .i64 k ∧ Hid ((l.any fun x => !wtB x) = (l.drop k).any (fun x => !wtB x)) ∧ Below w.heap.size w wr) (fun i _ => l.length - (intOf i).toNat)
  case atStart => exact ⟨0, Nat.zero_le _, rfl, hide rfl, Below.refl _ _⟩
  case round =>
    obtain ⟨k, hk, rfl, HS, hbel⟩ := hrel
    by_cases hlt : k < l.length
    · obtain ⟨x, b, off, hx, hA, hb, d0⟩ := ints_at' (hS.below hbel) hlt
      have hki : (k : Int) < (l.length : Int) := by omega
      subst hA
      have HX := hide hx
      clear hx
      go_wp2_with fail
      refine (late1_any x _).mono ?_
      rintro e w2 ⟨rfl, hb2⟩
      clear d0
      cases hok : wtB x
      · go_wp2_with fail
        go_ret
        exact ⟨k, rfl, by rw [HS.out, any_drop HX.out, hok]; simp, hbel.trans (hb2.mono hbel.size)⟩
      · go_wp2_with fail
        go_roundw
        case rel => exact ⟨k + 1, by omega, by go_num, hide (by rw [HS.out, any_drop HX.out, hok]; rfl), hbel.trans (hb2.mono hbel.size)⟩
        case measure => simp [intOf]; omega
    · obtain rfl : k = l.length := by omega
      go_wp2_with fail
      go_ret
      exact ⟨-1, rfl, by rw [HS.out, List.drop_length]; rfl, hbel⟩
theorem containsLate_any (A : Option Addr) (c : Nat) (l : List Int) (w : World) (hlen : l.length ≤ 1000) (hS : Slc intEnc 1 w w.heap.size A l) :
    Calls Try.prog 71 #[.slice A l.length c, .func (.func 72) #[] #[]] w fun e w' => e = .returned (.bool (l.any fun x => !wtB x)) ∧ Below w.heap.size w w' := by
  go_enter Try.func71, Try.ntmps71
  go_wp2_with fail
  refine (indexLate_any A c l _ hlen hS).mono ?_
  rintro e w2 ⟨r, rfl, hr, hb2⟩
  have HR := hide hr
  clear hr
  go_wp2_with fail
  go_ret
  exact ⟨ret_bool HR.out, hb2⟩
/-- the weights of the jobs without a night, of the first i -/
def lateN (pl ws : List Int) : Nat → Int
  | 0 => 0
  | i + 1 => lateN pl ws i + (match pl[i]? with | some v => if v < 0 then ws.getD i 0 else 0 | none => 0)
def wsOk (js : List Job) (ws : List Int) : Bool := decide (ws.length = js.length) && !(ws.any fun x => !wtB x)
noncomputable def lateV (js : List Job) (ns : List Nit) (pl ws : List Int) : Int := if pErr js ns pl = 0 then (if wsOk js ws then lateN pl ws pl.length else 0) else 0
noncomputable def lateE (js : List Job) (ns : List Nit) (pl ws : List Int) : Int := if pErr js ns pl = 0 then (if wsOk js ws then 0 else 2) else pErr js ns pl
theorem wt_all {ws : List Int} (h : (ws.any fun x => !wtB x) = false) : ∀ x ∈ ws, 0 ≤ x ∧ x ≤ 1000000 := fun x hx => by
  have h2 := List.any_eq_false.1 h x hx
  cases h3 : wtB x
  · rw [h3] at h2; exact absurd rfl h2
  · unfold wtB at h3; exact inB_iff.1 h3
theorem lateN_bound {pl ws : List Int} : ∀ i : Nat, (∀ j x, j < i → ws[j]? = some x → 0 ≤ x ∧ x ≤ 1000000) → 0 ≤ lateN pl ws i ∧ lateN pl ws i ≤ 1000000 * (i : Int)
  | 0, _ => by simp [lateN]
  | i + 1, h => by
    have ih := lateN_bound (pl := pl) i (fun j x hj => h j x (by omega))
    have hg : 0 ≤ ws.getD i 0 ∧ ws.getD i 0 ≤ 1000000 := by
      rw [List.getD_eq_getElem?_getD]
      cases hw : ws[i]? with
      | none => simp
      | some x => exact h i x (by omega) hw
    unfold lateN
    have : (0 : Int) ≤ (match pl[i]? with | some v => if v < 0 then ws.getD i 0 else 0 | none => 0) ∧ (match pl[i]? with | some v => if v < 0 then ws.getD i 0 else 0 | none => 0) ≤ 1000000 := by
      split
      · split <;> omega
      · omega
    omega
theorem lateN_late {pl ws : List Int} {i : Nat} {v x : Int} (hv : pl[i]? = some v) (hx : ws[i]? = some x) (h : v < 0) : lateN pl ws (i + 1) = lateN pl ws i + x := by
  rw [lateN, hv]
  show _ + (if v < 0 then _ else _) = _
  rw [if_pos h, List.getD_eq_getElem?_getD, hx]; rfl
theorem lateN_not {pl ws : List Int} {i : Nat} (h : ∀ v, pl[i]? = some v → ¬ v < 0) : lateN pl ws (i + 1) = lateN pl ws i := by
  rw [lateN]
  cases hv : pl[i]? with
  | none => show _ + (0 : Int) = _; omega
  | some v =>
    show _ + (if v < 0 then _ else _) = _
    rw [if_neg (h v hv), Int.add_zero]
set_option maxRecDepth 100000 in
set_option maxHeartbeats 1000000 in
theorem apiLate_any (AJ : Option Addr) (cJ : Nat) (js : List Job) (AN : Option Addr) (cN : Nat) (ns : List Nit) (A : Option Addr) (c : Nat) (pl : List Int) (AW : Option Addr) (cW : Nat) (ws : List Int) (w : World) (hJ : Slc Job.enc 8 w w.heap.size AJ js) (hN : Slc Nit.enc 8 w w.heap.size AN ns) (hS : Slc intEnc 1 w w.heap.size A pl) (hW : Slc intEnc 1 w w.heap.size AW ws)
    (hl1 : js.length ≤ 1000) (hl2 : ns.length ≤ 1000) (hl3 : pl.length ≤ 1000) (hl4 : ws.length ≤ 1000) :
    Calls Try.prog 42 #[.slice AJ js.length cJ, .slice AN ns.length cN, .slice A pl.length c, .slice AW ws.length cW] w fun e w' => e = .returned (.tuple #[.int .i64 (lateV js ns pl ws), .int .i64 (lateE js ns pl ws)]) ∧ Below w.heap.size w w' := by
  by_cases h0 : pErr js ns pl = 0
  · by_cases hlen : ws.length = js.length
    · have hl' : ((ws.length : Int) != (js.length : Int)) = false := by simp [hlen]
      have HLN := hide hlen
      clear hlen
      have HE := hide h0
      have P0 := planned_any AJ cJ js AN cN ns A c pl w hJ hN hS hl1 hl2 hl3
      rw [h0] at P0
      have HLV : Hid (∀ b, wsOk js ws = b → lateV js ns pl ws = (if b then lateN pl ws pl.length else 0) ∧ lateE js ns pl ws = if b then 0 else 2) := fun b hb => by
        subst hb
        unfold lateV lateE
        rw [if_pos HE.out, if_pos HE.out]
        exact ⟨rfl, rfl⟩
      have HPF := hide (formed_facts (pErr_zero h0).2.1)
      clear h0
      go_enter Try.func42, Try.ntmps42
      go_wp2_with fail
      refine P0.mono ?_
      rintro e W ⟨rfl, hB⟩
      clear P0
      go_wp2_with fail
      refine (containsLate_any AW cW ws W hl4 ((hW.below hB).more hB.size)).mono ?_
      rintro e W2 ⟨rfl, hb2⟩
      replace hB := hB.trans (hb2.mono hB.size)
      clear hb2
      cases ha : ws.any fun x => !wtB x
      case true =>
        have HV := hide (HLV.out false (by unfold wsOk; rw [decide_eq_true HLN.out, ha]; rfl))
        clear ha
        go_wp2_with fail
        go_ret2
        exact ⟨by rw [HV.out.1, HV.out.2]; rfl, hB⟩
      case false =>
        have HV := hide (HLV.out true (by unfold wsOk; rw [decide_eq_true HLN.out, ha]; rfl))
        have HA := hide (wt_all ha)
        clear ha
        go_wp2_with fail
        go_loopw [11, 32] (fun x y W => ∃ (i : Nat), x = .int .i64 (lateN pl ws i) ∧ y = .int .i64 i ∧ i ≤ pl.length ∧ Below w.heap.size w W) (fun _ y _ => pl.length - (intOf y).toNat)
        case atStart => exact ⟨0, rfl, rfl, Nat.zero_le _, hB⟩
        case round =>
          clear hB
          obtain ⟨W, rfl⟩ : ∃ W : World, W = wr := ⟨_, rfl⟩
          obtain ⟨i, rfl, rfl, hi, hB⟩ := hrel
          by_cases hlt : i < pl.length
          · obtain ⟨v, b, off, hv, hA, _, d9⟩ := ints_at' (hS.below hB) hlt
            have hiw : i < ws.length := by rw [HLN.out, ← HPF.out.1]; exact hlt
            obtain ⟨x, b2, off2, hx, hA2, _, d8⟩ := ints_at' (hW.below hB) hiw
            have hii : (i : Int) < (pl.length : Int) := by omega
            have hiv : (i : Int) < (ws.length : Int) := by omega
            have hbd := lateN_bound (pl := pl) (ws := ws) i (fun j x _ hx => HA.out x (List.mem_of_getElem? hx))
            have hxb := HA.out x (List.mem_of_getElem? hx)
            have hil : i ≤ 1000 := by omega
            subst hA hA2
            by_cases hv0 : v < 0
            · have HC := hide (lateN_late hv hx hv0)
              have e9 : IntKind.i64.wrap (lateN pl ws i + x) = lateN pl ws i + x := IntWalk.i64_in _ (by omega)
              clear hv hx
              generalize lateN pl ws i = cnt0 at *
              go_wp2_with fail
              go_roundw
              case rel => exact ⟨i + 1, by rw [HC.out], by go_num, by omega, hB⟩
              case measure => simp [intOf]; omega
            · have HC := hide (lateN_not (ws := ws) (i := i) (pl := pl) (fun u hu => by rw [hv] at hu; injection hu with hu; rw [← hu]; exact hv0))
              clear hv hx
              generalize lateN pl ws i = cnt0 at *
              go_wp2_with fail
              go_roundw
              case rel => exact ⟨i + 1, by rw [HC.out], by go_num, by omega, hB⟩
              case measure => simp [intOf]; omega
          · obtain rfl : i = pl.length := by omega
            go_wp2_with fail
            go_ret2
            exact ⟨by rw [HV.out.1, HV.out.2]; rfl, hB⟩
    · have hl' : ((ws.length : Int) != (js.length : Int)) = true := by simp; omega
      have HLN := hide hlen
      clear hlen
      have HE := hide h0
      have P0 := planned_any AJ cJ js AN cN ns A c pl w hJ hN hS hl1 hl2 hl3
      rw [h0] at P0
      have HLV : Hid (∀ b, wsOk js ws = b → lateV js ns pl ws = (if b then lateN pl ws pl.length else 0) ∧ lateE js ns pl ws = if b then 0 else 2) := fun b hb => by
        subst hb
        unfold lateV lateE
        rw [if_pos HE.out, if_pos HE.out]
        exact ⟨rfl, rfl⟩
      have HPF := hide (formed_facts (pErr_zero h0).2.1)
      clear h0
      go_enter Try.func42, Try.ntmps42
      go_wp2_with fail
      refine P0.mono ?_
      rintro e W ⟨rfl, hB⟩
      clear P0
      have HV := hide (HLV.out false (by unfold wsOk; rw [decide_eq_false HLN.out]; rfl))
      go_wp2_with fail
      go_ret2
      exact ⟨by rw [HV.out.1, HV.out.2]; rfl, hB⟩
  · have HE := hide h0
    have HD : Hid (lateV js ns pl ws = 0) := by show _ = _; unfold lateV; rw [if_neg h0]
    have HD2 : Hid (lateE js ns pl ws = pErr js ns pl) := by show _ = _; unfold lateE; rw [if_neg h0]
    have P0 := planned_any AJ cJ js AN cN ns A c pl w hJ hN hS hl1 hl2 hl3
    generalize pErr js ns pl = E at *
    have h1' : (E != 0) = true := by simp [h0]
    have h0' : (E == 0) = false := by simpa using h0
    go_enter Try.func42, Try.ntmps42
    go_wp2_with fail
    refine P0.mono ?_
    rintro e W ⟨rfl, hB⟩
    go_wp2_with fail
    go_ret2
    exact ⟨by rw [HD.out, HD2.out]; rfl, hB⟩
set_option maxRecDepth 100000 in
set_option maxHeartbeats 1000000 in
theorem refLate_any (AJ : Option Addr) (cJ : Nat) (js : List Job) (AN : Option Addr) (cN : Nat) (ns : List Nit) (A : Option Addr) (c : Nat) (pl : List Int) (AW : Option Addr) (cW : Nat) (ws : List Int) (w : World) (hJ : Slc Job.enc 8 w w.heap.size AJ js) (hN : Slc Nit.enc 8 w w.heap.size AN ns) (hS : Slc intEnc 1 w w.heap.size A pl) (hW : Slc intEnc 1 w w.heap.size AW ws)
    (hl1 : js.length ≤ 1000) (hl2 : ns.length ≤ 1000) (hl3 : pl.length ≤ 1000) (hl4 : ws.length ≤ 1000) :
    Calls Try.prog 43 #[.slice AJ js.length cJ, .slice AN ns.length cN, .slice A pl.length c, .slice AW ws.length cW] w fun e w' => e = .returned (.tuple #[.int .i64 (lateV js ns pl ws), .int .i64 (lateE js ns pl ws)]) ∧ Below w.heap.size w w' := by
  by_cases h0 : pErr js ns pl = 0
  · have HE := hide h0
    have P0 := plans_any AJ cJ js AN cN ns A c pl w hJ hN hS hl1 hl2 hl3
    rw [h0] at P0
    have HLV : Hid (∀ b, wsOk js ws = b → lateV js ns pl ws = (if b then lateN pl ws pl.length else 0) ∧ lateE js ns pl ws = if b then 0 else 2) := fun b hb => by
      subst hb
      unfold lateV lateE
      rw [if_pos HE.out, if_pos HE.out]
      exact ⟨rfl, rfl⟩
    have HPF := hide (formed_facts (pErr_zero h0).2.1)
    clear h0
    go_enter Try.func43, Try.ntmps43
    go_wp2_with fail
    refine P0.mono ?_
    rintro e W ⟨rfl, hB⟩
    clear P0
    go_wp2_with fail
    go_loopw [11, 12] (fun x y W => ∃ (i : Nat), x = .int .i64 (lateN pl ws i) ∧ y = .int .i64 i ∧ i ≤ ws.length ∧ Hid (∀ j x, j < i → ws[j]? = some x → 0 ≤ x ∧ x ≤ 1000000) ∧ Below w.heap.size w W) (fun _ y _ => ws.length - (intOf y).toNat)
    case atStart => exact ⟨0, rfl, rfl, Nat.zero_le _, hide fun j x h => absurd h (Nat.not_lt_zero _), hB⟩
    case round =>
      clear hB
      obtain ⟨W, rfl⟩ : ∃ W : World, W = wr := ⟨_, rfl⟩
      obtain ⟨i, rfl, rfl, hi, HA, hB⟩ := hrel
      by_cases hlt : i < ws.length
      · obtain ⟨x, b2, off2, hx, hA2, _, d8⟩ := ints_at' (hW.below hB) hlt
        have hii : (i : Int) < (ws.length : Int) := by omega
        have HX := hide hx
        have hil : i ≤ 1000 := by omega
        clear hx
        subst hA2
        cases hwt : wtB x
        · have HV := hide (HLV.out false (by
            unfold wsOk
            have : (ws.any fun x => !wtB x) = true := List.any_eq_true.2 ⟨x, List.mem_of_getElem? HX.out, by rw [hwt]; rfl⟩
            rw [this]; simp))
          have hib : inB 0 x 1000000 = false := hwt
          clear hwt
          go_wp2_with fail
          refine (from_any 0 x 1000000 _).mono ?_
          rintro e w2 ⟨rfl, rfl⟩
          rw [hib]
          go_wp2_with fail
          go_ret2
          exact ⟨by rw [HV.out.1, HV.out.2]; rfl, hB⟩
        · have hib : inB 0 x 1000000 = true := hwt
          have hxb := inB_iff.1 hib
          have hbd := lateN_bound (pl := pl) (ws := ws) i HA.out
          have HA2 : Hid (∀ j x, j < i + 1 → ws[j]? = some x → 0 ≤ x ∧ x ≤ 1000000) := fun j u hj hu => by
            by_cases e : j = i
            · subst e
              rw [HX.out] at hu
              injection hu with hu
              rw [← hu]; exact hxb
            · exact HA.out j u (by omega) hu
          clear hwt
          go_wp2_with fail
          refine (from_any 0 x 1000000 _).mono ?_
          rintro e w2 ⟨rfl, rfl⟩
          rw [hib]
          clear hib
          by_cases hip : i < pl.length
          · obtain ⟨v, b, off, hv, hA, _, d9⟩ := ints_at' (hS.below hB) hip
            have hipi : (i : Int) < (pl.length : Int) := by omega
            subst hA
            by_cases hv0 : v < 0
            · have HC := hide (lateN_late hv HX.out hv0)
              have e9 : IntKind.i64.wrap (lateN pl ws i + x) = lateN pl ws i + x := IntWalk.i64_in _ (by omega)
              clear hv
              generalize lateN pl ws i = cnt0 at *
              go_wp2_with fail
              go_roundw
              case rel => exact ⟨i + 1, by rw [HC.out], by go_num, by omega, HA2, hB⟩
              case measure => simp [intOf]; omega
            · have HC := hide (lateN_not (ws := ws) (i := i) (pl := pl) (fun u hu => by rw [hv] at hu; injection hu with hu; rw [← hu]; exact hv0))
              clear hv
              generalize lateN pl ws i = cnt0 at *
              go_wp2_with fail
              go_roundw
              case rel => exact ⟨i + 1, by rw [HC.out], by go_num, by omega, HA2, hB⟩
              case measure => simp [intOf]; omega
          · have hipi : ¬ (i : Int) < (pl.length : Int) := by omega
            have HC := hide (lateN_not (ws := ws) (i := i) (pl := pl) (fun u hu => by rw [List.getElem?_eq_none (by omega)] at hu; cases hu))
            generalize lateN pl ws i = cnt0 at *
            go_wp2_with fail
            go_roundw
            case rel => exact ⟨i + 1, by rw [HC.out], by go_num, by omega, HA2, hB⟩
            case measure => simp [intOf]; omega
      · obtain rfl : i = ws.length := by omega
        have HAA : Hid ((ws.any fun x => !wtB x) = false) := List.any_eq_false.2 fun x hx => by
          obtain ⟨j, hj⟩ := List.getElem?_of_mem hx
          have := HA.out j x (List.getElem?_eq_some_iff.1 hj).1 hj
          have h9 : wtB x = true := by unfold wtB; exact inB_iff.2 this
          rw [h9]; simp
        by_cases hlen : ws.length = js.length
        · have hl' : ((ws.length : Int) != (js.length : Int)) = false := by simp [hlen]
          have HV := hide (HLV.out true (by unfold wsOk; rw [decide_eq_true hlen, HAA.out]; rfl))
          have HPW : Hid (pl.length = ws.length) := by show _ = _; rw [HPF.out.1, hlen]
          clear hlen
          go_wp2_with fail
          go_ret2
          exact ⟨by rw [HV.out.1, HV.out.2, HPW.out]; rfl, hB⟩
        · have hl' : ((ws.length : Int) != (js.length : Int)) = true := by simp; omega
          have HV := hide (HLV.out false (by unfold wsOk; rw [decide_eq_false hlen]; rfl))
          clear hlen
          go_wp2_with fail
          go_ret2
          exact ⟨by rw [HV.out.1, HV.out.2]; rfl, hB⟩
  · have HE := hide h0
    have HD : Hid (lateV js ns pl ws = 0) := by show _ = _; unfold lateV; rw [if_neg h0]
    have HD2 : Hid (lateE js ns pl ws = pErr js ns pl) := by show _ = _; unfold lateE; rw [if_neg h0]
    have P0 := plans_any AJ cJ js AN cN ns A c pl w hJ hN hS hl1 hl2 hl3
    generalize pErr js ns pl = E at *
    have h1' : (E != 0) = true := by simp [h0]
    have h0' : (E == 0) = false := by simpa using h0
    go_enter Try.func43, Try.ntmps43
    go_wp2_with fail
    refine P0.mono ?_
    rintro e W ⟨rfl, hB⟩
    go_wp2_with fail
    go_ret2
    exact ⟨by rw [HD.out, HD2.out]; rfl, hB⟩
end Go.Proofs.Ytfhlopegmfdkpaa
