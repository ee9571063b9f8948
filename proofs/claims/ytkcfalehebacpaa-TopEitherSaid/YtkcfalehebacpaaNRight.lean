/- formed, right, planned, Right, Done of both texts: the walks. -/
import Derived.Test.YtkcfalehebacpaaNRefChoose
namespace Go.Proofs.Ytkcfalehebacpaa
open Go Go.RowKit
theorem et_i64 : ElemT Try.prog 26 3 1 := et_ints
/-- a plan has a night, or -1, for each job -/
def inPl (ns : List Nit) (k : Int) : Bool := inB (-1) k ((ns.length : Int) - 1)
def formedB (js : List Job) (ns : List Nit) (pl : List Int) : Bool := decide (pl.length = js.length) && !(pl.any fun k => !inPl ns k)
theorem formed_facts {js : List Job} {ns : List Nit} {pl : List Int} (h : formedB js ns pl = true) : pl.length = js.length ∧ ∀ v ∈ pl, -1 ≤ v ∧ v < ns.length := by
  unfold formedB at h
  simp only [Bool.and_eq_true, decide_eq_true_eq, Bool.not_eq_true', List.any_eq_false] at h
  refine ⟨h.1, fun v hv => ?_⟩
  have h1 := h.2 v hv
  unfold inPl at h1
  cases h2 : inB (-1) v ((ns.length : Int) - 1)
  · rw [h2] at h1; exact absurd rfl h1
  · have := inB_iff.1 h2; omega
set_option maxRecDepth 100000 in
set_option maxHeartbeats 1000000 in
theorem refPlanned_any (AJ : Option Addr) (cJ : Nat) (js : List Job) (AN : Option Addr) (cN : Nat) (ns : List Nit) (A : Option Addr) (c : Nat) (pl : List Int) (w : World) (hS : Slc intEnc 1 w w.heap.size A pl) (hl3 : pl.length ≤ 1000) :
    Calls Try.prog 36 #[.slice AJ js.length cJ, .slice AN ns.length cN, .slice A pl.length c] w fun e w' => e = .returned (.bool (formedB js ns pl)) ∧ w = w' := by
  have HV : Hid (formedB js ns pl = (decide (pl.length = js.length) && !(pl.any fun k => !inPl ns k))) := rfl
  go_enter Try.func36, Try.ntmps36
  go_wp2_with fail
  go_loopw [7] (fun y W => ∃ (i : Nat), y = .int .i64 i ∧ i ≤ pl.length ∧ w = W ∧ Hid ((pl.any fun k => !inPl ns k) = (pl.drop i).any fun k => !inPl ns k)) (fun y _ => pl.length - (intOf y).toNat)
  case atStart => exact ⟨0, rfl, Nat.zero_le _, rfl, hide rfl⟩
  case round =>
    obtain ⟨i, rfl, hi, rfl, HS⟩ := hrel
    by_cases hlt : i < pl.length
    · obtain ⟨x, b, off, hx, hA, hb, hc⟩ := ints_at' hS hlt
      have hii : (i : Int) < (pl.length : Int) := by omega
      have HX := hide hx
      clear hx
      subst hA
      by_cases h1 : x < -1
      · have HR : Hid (formedB js ns pl = false) := by
          show _ = _
          have h9 : inPl ns x = false := by unfold inPl; exact inB_false.2 (.inl h1)
          rw [HV.out, HS.out, any_drop HX.out, h9]; simp
        go_wp2_with fail
        go_ret
        exact ⟨ret_bool HR.out.symm, rfl⟩
      · by_cases h2 : (ns.length : Int) ≤ x
        · have HR : Hid (formedB js ns pl = false) := by
            show _ = _
            have h9 : inPl ns x = false := by unfold inPl; exact inB_false.2 (.inr (by omega))
            rw [HV.out, HS.out, any_drop HX.out, h9]; simp
          go_wp2_with fail
          go_ret
          exact ⟨ret_bool HR.out.symm, rfl⟩
        · have HS2 : Hid ((pl.any fun k => !inPl ns k) = (pl.drop (i + 1)).any fun k => !inPl ns k) := by
            show _ = _
            have h9 : inPl ns x = true := by unfold inPl; exact inB_iff.2 ⟨by omega, by omega⟩
            rw [HS.out, any_drop HX.out, h9]; rfl
          go_wp2_with fail
          go_roundw
          case rel => exact ⟨i + 1, by go_num, by omega, by simp, HS2⟩
          case measure => simp [intOf]; omega
    · obtain rfl : i = pl.length := by omega
      have HA : Hid ((pl.any fun k => !inPl ns k) = false) := by show _ = _; rw [HS.out, List.drop_length]; rfl
      by_cases h : pl.length = js.length
      · have h' : ((pl.length : Int) == (js.length : Int)) = true := by simp [h]
        have HL := hide h
        clear h
        go_wp2_with fail
        go_ret
        exact ⟨ret_bool (by rw [HV.out, decide_eq_true HL.out, HA.out]; rfl), rfl⟩
      · have h' : ((pl.length : Int) == (js.length : Int)) = false := by simp; omega
        have HL := hide h
        clear h
        go_wp2_with fail
        go_ret
        exact ⟨ret_bool (by rw [HV.out, decide_eq_false HL.out]; rfl), rfl⟩
theorem nitP_pl {x : Nit} (h : nitOk x = true) : 0 ≤ x.pl ∧ x.pl ≤ 100 := by
  unfold nitOk at h
  simp only [Bool.and_eq_true, inB_iff] at h
  exact h.2
theorem fits_is (j : Job) (n : Nit) (w : World) {v : Bool} (h : fitsF j n = v) : Calls Try.prog 34 #[.agg #[.int .i64 j.n, .int .i64 j.road, .int .i64 j.chain, .int .i64 j.first, .int .i64 j.last, .int .i64 j.crew, .bool j.dry, .bool j.warm], .agg #[.int .i64 n.day, .int .i64 n.road, .int .i64 n.lo, .int .i64 n.hi, .int .i64 n.crew, .int .i64 n.pl, .bool n.rain, .bool n.frost]] w fun e w' => e = .returned (.bool v) ∧ Below w.heap.size w w' := by
  subst h; exact fits_any j n w
theorem refFits_is (j : Job) (n : Nit) (w : World) {v : Bool} (h : fitsF j n = v) : Calls Try.prog 35 #[.agg #[.int .i64 j.n, .int .i64 j.road, .int .i64 j.chain, .int .i64 j.first, .int .i64 j.last, .int .i64 j.crew, .bool j.dry, .bool j.warm], .agg #[.int .i64 n.day, .int .i64 n.road, .int .i64 n.lo, .int .i64 n.hi, .int .i64 n.crew, .int .i64 n.pl, .bool n.rain, .bool n.frost]] w fun e w' => e = .returned (.bool v) ∧ Below w.heap.size w w' := by
  subst h; exact refFits_any j n w
open Classical in
/-- a plan that is formed is right -/
noncomputable def rightB (js : List Job) (ns : List Nit) (pl : List Int) : Bool := decide (Pl (chooseL ns js) (capOf ns) pl)
open Classical in
theorem rightB_iff {js : List Job} {ns : List Nit} {pl : List Int} : rightB js ns pl = true ↔ Pl (chooseL ns js) (capOf ns) pl := decide_eq_true_iff
theorem rightB_no {js : List Job} {ns : List Nit} {pl : List Int} (h : ¬ Pl (chooseL ns js) (capOf ns) pl) : rightB js ns pl = false := by
  cases e : rightB js ns pl
  · rfl
  · exact absurd (rightB_iff.1 e) h
theorem cntN_take_succ {pl : List Int} {i : Nat} {v : Int} (h : pl[i]? = some v) (k : Nat) : cntN (pl.take (i + 1)) k = cntN (pl.take i) k + if v = (k : Int) then 1 else 0 := by
  have hi := (List.getElem?_eq_some_iff.1 h).1
  unfold cntN
  rw [List.take_add_one, h, Option.toList_some, List.count_append]
  by_cases e : v = (k : Int)
  · subst e; simp
  · rw [if_neg e, List.count_cons, if_neg (by simpa using e)]; simp
theorem cntN_take_le (pl : List Int) (i k : Nat) : cntN (pl.take i) k ≤ cntN pl k := by
  unfold cntN
  have := List.Sublist.count_le (a := (k : Int)) (List.take_sublist i pl)
  omega
theorem right_no_fit {js : List Job} {ns : List Nit} {pl : List Int} {i k : Nat} {j : Job} {n : Nit} (hi : pl[i]? = some (k : Int)) (hj : js[i]? = some j) (hn : ns[k]? = some n) (hf : fitsF j n = false) : rightB js ns pl = false := by
  refine rightB_no fun h => ?_
  rcases h.ok i _ hi with h1 | ⟨q, h1, _, h3⟩
  · omega
  · obtain ⟨q', y, h4, h5, h6⟩ := chooseF_mem.1 (h3 _ (by unfold chooseL; rw [List.getElem?_map, hj]; rfl))
    have : k = q' := by omega
    subst this
    rw [hn] at h5
    injection h5 with h5
    subst h5
    rw [hf] at h6; cases h6
theorem right_too_many {js : List Job} {ns : List Nit} {pl : List Int} {i k : Nat} {n : Nit} (hn : ns[k]? = some n) (hc : n.pl < cntN (pl.take i) k) : rightB js ns pl = false := by
  refine rightB_no fun h => ?_
  have hk := (List.getElem?_eq_some_iff.1 hn).1
  have h1 := h.cnt k (by simpa [capOf] using hk)
  rw [getD_some (v := n.pl) (by unfold capOf; rw [List.getElem?_map, hn]; rfl)] at h1
  have := cntN_take_le pl i k
  omega
theorem right_yes {js : List Job} {ns : List Nit} {pl : List Int} (hl : pl.length = js.length) (hb : ∀ v ∈ pl, -1 ≤ v ∧ v < ns.length) (hf : ∀ (i k : Nat) j n, pl[i]? = some (k : Int) → js[i]? = some j → ns[k]? = some n → fitsF j n = true)
    (hc : ∀ (k : Nat) n, ns[k]? = some n → cntN pl k ≤ n.pl) : rightB js ns pl = true := by
  refine rightB_iff.2 ⟨by simpa [chooseL] using hl, fun i v hv => ?_, fun k hk => ?_⟩
  · have hvb := hb v (List.mem_of_getElem? hv)
    rcases (show v = -1 ∨ 0 ≤ v by omega) with h0 | h0
    · exact .inl h0
    · obtain ⟨k, rfl⟩ : ∃ k : Nat, v = k := ⟨v.toNat, by omega⟩
      refine .inr ⟨k, rfl, by simp [capOf]; omega, fun l hl' => ?_⟩
      obtain ⟨j, hj, rfl⟩ := chooseL_get hl'
      have hn : ns[k]? = some ns[k] := List.getElem?_eq_getElem (by omega)
      exact chooseF_mem.2 ⟨k, _, rfl, hn, hf i k j _ hv hj hn⟩
  · have hk' : k < ns.length := by simpa [capOf] using hk
    have hn : ns[k]? = some ns[k] := List.getElem?_eq_getElem hk'
    rw [getD_some (v := ns[k].pl) (by unfold capOf; rw [List.getElem?_map, hn]; rfl)]
    exact hc k _ hn
set_option maxRecDepth 100000 in
set_option maxHeartbeats 4000000 in
theorem refRight_any (AJ : Option Addr) (cJ : Nat) (js : List Job) (AN : Option Addr) (cN : Nat) (ns : List Nit) (A : Option Addr) (c : Nat) (pl : List Int) (w : World) (hJ : Slc Job.enc 8 w w.heap.size AJ js) (hN : Slc Nit.enc 8 w w.heap.size AN ns) (hS : Slc intEnc 1 w w.heap.size A pl)
    (hl1 : js.length ≤ 1000) (hl2 : ns.length ≤ 1000) (hfm : formedB js ns pl = true) :
    Calls Try.prog 37 #[.slice AJ js.length cJ, .slice AN ns.length cN, .slice A pl.length c] w fun e w' => e = .returned (.bool (rightB js ns pl)) ∧ Below w.heap.size w w' := by
  obtain ⟨hpl, hpb⟩ := formed_facts hfm
  have HPB := hide (And.intro hpl hpb)
  have hplN : pl.length ≤ 1000 := by omega
  clear hfm hpb hpl
  have hB := Below.refl w.heap.size w
  obtain ⟨W, hWw⟩ : ∃ W : World, W = w := ⟨_, rfl⟩
  go_enter Try.func37, Try.ntmps37
  go_wp2_with fail
  go_loopw [7] (fun y W => ∃ (k : Nat), y = .int .i64 k ∧ k ≤ ns.length ∧ Hid (∀ k' n, k' < k → ns[k']? = some n → cntN pl k' ≤ n.pl ∧ ∀ (i : Nat) j, pl[i]? = some (k' : Int) → js[i]? = some j → fitsF j n = true) ∧ Below w.heap.size w W) (fun y _ => ns.length - (intOf y).toNat)
  case atStart => exact ⟨0, rfl, Nat.zero_le _, hide fun k' n h => absurd h (Nat.not_lt_zero _), hB⟩
  case round =>
    clear hB hWw
    clear W
    obtain ⟨W, rfl⟩ : ∃ W : World, W = wr := ⟨_, rfl⟩
    obtain ⟨k, rfl, hk, HT, hB⟩ := hrel
    by_cases hkn : k < ns.length
    · have hki : (k : Int) < (ns.length : Int) := by omega
      obtain ⟨n0, hn0⟩ : ∃ n, ns[k]? = some n := ⟨_, List.getElem?_eq_getElem hkn⟩
      have HN0 := hide hn0
      clear hn0
      go_wp2_with fail
      go_loopw [8, 9] (fun x y W => ∃ (i : Nat), x = .int .i64 (cntN (pl.take i) k) ∧ y = .int .i64 i ∧ i ≤ pl.length ∧ Hid (∀ (i' : Nat) j, i' < i → pl[i']? = some (k : Int) → js[i']? = some j → fitsF j n0 = true) ∧ Below w.heap.size w W) (fun x y _ => pl.length - (intOf y).toNat)
      case atStart => exact ⟨0, by simp [cntN], rfl, Nat.zero_le _, hide fun i' j h => absurd h (Nat.not_lt_zero _), hB⟩
      case round =>
        clear hB
        obtain ⟨W, rfl⟩ : ∃ W : World, W = wr := ⟨_, rfl⟩
        obtain ⟨i, rfl, rfl, hi, HI, hB⟩ := hrel
        by_cases hlt : i < pl.length
        · obtain ⟨v, b, off, hv, hA, _, d9⟩ := ints_at' (hS.below hB) hlt
          have hii : (i : Int) < (pl.length : Int) := by omega
          have hij : i < js.length := by rw [← HPB.out.1]; exact hlt
          have hji : (i : Int) < (js.length : Int) := by omega
          have HC := hide (cntN_take_succ hv k)
          have hcb : 0 ≤ cntN (pl.take i) k ∧ cntN (pl.take i) k ≤ 1000 := by
            refine ⟨cntN_nonneg _ _, ?_⟩
            have h1 : (pl.take i).count (k : Int) ≤ (pl.take i).length := List.count_le_length
            unfold cntN
            rw [List.length_take] at h1
            omega
          generalize cntN (pl.take i) k = cnt0 at *
          have HV := hide hv
          clear hv
          subst hA
          by_cases hvk : v = (k : Int)
          · subst hvk
            have HC2 : Hid (cntN (pl.take (i + 1)) k = cnt0 + 1) := by show _ = _; rw [HC.out, if_pos rfl]
            have e9 : IntKind.i64.wrap (cnt0 + 1) = cnt0 + 1 := IntWalk.i64_in _ (by omega)
            go_upto_region 10 with fail
            clear d9
            obtain ⟨n, b2, off2, hn, hA2, _, hcn⟩ := nitc_at (hN.below hB) hkn
            obtain ⟨x, b3, off3, hx, hA3, _, hcx⟩ := job_at (hJ.below hB) hij
            have HNX := hide (And.intro hn hx)
            have d0 := hcn 0 _ rfl
            rw [Nat.add_zero] at d0
            have d1 := hcn 1 _ rfl
            have d2 := hcn 2 _ rfl
            have d3 := hcn 3 _ rfl
            have d4 := hcn 4 _ rfl
            have d5 := hcn 5 _ rfl
            have d6 := hcn 6 _ rfl
            have d7 := hcn 7 _ rfl
            clear hcn
            have e0 := hcx 0 _ rfl
            rw [Nat.add_zero] at e0
            have e1 := hcx 1 _ rfl
            have e2 := hcx 2 _ rfl
            have e3 := hcx 3 _ rfl
            have e4 := hcx 4 _ rfl
            have e5 := hcx 5 _ rfl
            have e6 := hcx 6 _ rfl
            have e7 := hcx 7 _ rfl
            clear hn hx hcx
            subst hA2 hA3
            have hnn : n = n0 := by have h := HNX.out.1; rw [HN0.out] at h; injection h with h; exact h.symm
            subst hnn
            cases hf : fitsF x n
            case false =>
              have HF := hide hf
              clear hf
              go_wp2_with fail
              refine wp_region_quiet (C := fun w' => ∃ u : Since W, w' = u.w) (by kernel_rfl) (by kernel_rfl) (Since.start W) ?_
              dsimp only
              have y_d0 := Since.cell d0
              have y_d1 := Since.cell d1
              have y_d2 := Since.cell d2
              have y_d3 := Since.cell d3
              have y_d4 := Since.cell d4
              have y_d5 := Since.cell d5
              have y_d6 := Since.cell d6
              have y_d7 := Since.cell d7
              have y_e0 := Since.cell e0
              have y_e1 := Since.cell e1
              have y_e2 := Since.cell e2
              have y_e3 := Since.cell e3
              have y_e4 := Since.cell e4
              have y_e5 := Since.cell e5
              have y_e6 := Since.cell e6
              have y_e7 := Since.cell e7
              repeat (go_big_quiet_step ((go_at_call 35; exact Since.calls (refFits_is x n _ HF.out))))
              refine wpQuiet_nil ?_
              rintro W ⟨⟨_, hb⟩, rfl⟩
              try dsimp only at hb ⊢
              replace d0 : W.cell? _ = _ := y_d0 ⟨W, hb⟩
              replace d1 : W.cell? _ = _ := y_d1 ⟨W, hb⟩
              replace d2 : W.cell? _ = _ := y_d2 ⟨W, hb⟩
              replace d3 : W.cell? _ = _ := y_d3 ⟨W, hb⟩
              replace d4 : W.cell? _ = _ := y_d4 ⟨W, hb⟩
              replace d5 : W.cell? _ = _ := y_d5 ⟨W, hb⟩
              replace d6 : W.cell? _ = _ := y_d6 ⟨W, hb⟩
              replace d7 : W.cell? _ = _ := y_d7 ⟨W, hb⟩
              replace e0 : W.cell? _ = _ := y_e0 ⟨W, hb⟩
              replace e1 : W.cell? _ = _ := y_e1 ⟨W, hb⟩
              replace e2 : W.cell? _ = _ := y_e2 ⟨W, hb⟩
              replace e3 : W.cell? _ = _ := y_e3 ⟨W, hb⟩
              replace e4 : W.cell? _ = _ := y_e4 ⟨W, hb⟩
              replace e5 : W.cell? _ = _ := y_e5 ⟨W, hb⟩
              replace e6 : W.cell? _ = _ := y_e6 ⟨W, hb⟩
              replace e7 : W.cell? _ = _ := y_e7 ⟨W, hb⟩
              clear y_d0 y_d1 y_d2 y_d3 y_d4 y_d5 y_d6 y_d7 y_e0 y_e1 y_e2 y_e3 y_e4 y_e5 y_e6 y_e7
              replace hB := hB.trans (hb.mono hB.size)
              clear hb
              go_wp2_with fail
              go_ret
              exact ⟨ret_bool (right_no_fit HV.out HNX.out.2 HNX.out.1 HF.out).symm, hB⟩
            case true =>
              have HF := hide hf
              clear hf
              have HI2 : Hid (∀ (i' : Nat) j, i' < i + 1 → pl[i']? = some (k : Int) → js[i']? = some j → fitsF j n = true) := fun i' j h1 h2 h3 => by
                by_cases e : i' = i
                · subst e
                  have h6 := HNX.out.2
                  rw [h3] at h6
                  injection h6 with h6
                  subst h6
                  exact HF.out
                · exact HI.out i' j (by omega) h2 h3
              go_wp2_with fail
              refine wp_region_quiet (C := fun w' => ∃ u : Since W, w' = u.w) (by kernel_rfl) (by kernel_rfl) (Since.start W) ?_
              dsimp only
              have y_d0 := Since.cell d0
              have y_d1 := Since.cell d1
              have y_d2 := Since.cell d2
              have y_d3 := Since.cell d3
              have y_d4 := Since.cell d4
              have y_d5 := Since.cell d5
              have y_d6 := Since.cell d6
              have y_d7 := Since.cell d7
              have y_e0 := Since.cell e0
              have y_e1 := Since.cell e1
              have y_e2 := Since.cell e2
              have y_e3 := Since.cell e3
              have y_e4 := Since.cell e4
              have y_e5 := Since.cell e5
              have y_e6 := Since.cell e6
              have y_e7 := Since.cell e7
              repeat (go_big_quiet_step ((go_at_call 35; exact Since.calls (refFits_is x n _ HF.out))))
              refine wpQuiet_nil ?_
              rintro W ⟨⟨_, hb⟩, rfl⟩
              try dsimp only at hb ⊢
              replace d0 : W.cell? _ = _ := y_d0 ⟨W, hb⟩
              replace d1 : W.cell? _ = _ := y_d1 ⟨W, hb⟩
              replace d2 : W.cell? _ = _ := y_d2 ⟨W, hb⟩
              replace d3 : W.cell? _ = _ := y_d3 ⟨W, hb⟩
              replace d4 : W.cell? _ = _ := y_d4 ⟨W, hb⟩
              replace d5 : W.cell? _ = _ := y_d5 ⟨W, hb⟩
              replace d6 : W.cell? _ = _ := y_d6 ⟨W, hb⟩
              replace d7 : W.cell? _ = _ := y_d7 ⟨W, hb⟩
              replace e0 : W.cell? _ = _ := y_e0 ⟨W, hb⟩
              replace e1 : W.cell? _ = _ := y_e1 ⟨W, hb⟩
              replace e2 : W.cell? _ = _ := y_e2 ⟨W, hb⟩
              replace e3 : W.cell? _ = _ := y_e3 ⟨W, hb⟩
              replace e4 : W.cell? _ = _ := y_e4 ⟨W, hb⟩
              replace e5 : W.cell? _ = _ := y_e5 ⟨W, hb⟩
              replace e6 : W.cell? _ = _ := y_e6 ⟨W, hb⟩
              replace e7 : W.cell? _ = _ := y_e7 ⟨W, hb⟩
              clear y_d0 y_d1 y_d2 y_d3 y_d4 y_d5 y_d6 y_d7 y_e0 y_e1 y_e2 y_e3 y_e4 y_e5 y_e6 y_e7
              replace hB := hB.trans (hb.mono hB.size)
              clear hb
              go_wp2_with fail
              go_roundw
              case rel => exact ⟨i + 1, by rw [HC2.out], by go_num, by omega, HI2, hB⟩
              case measure => simp [intOf]; omega
          · have hvk' : (v == (k : Int)) = false := by simpa using hvk
            have HC2 : Hid (cntN (pl.take (i + 1)) k = cnt0) := by show _ = _; rw [HC.out, if_neg hvk, Int.add_zero]
            have HI2 : Hid (∀ (i' : Nat) j, i' < i + 1 → pl[i']? = some (k : Int) → js[i']? = some j → fitsF j n0 = true) := fun i' j h1 h2 h3 => by
              by_cases e : i' = i
              · subst e
                rw [HV.out] at h2
                injection h2 with h2
                exact absurd h2 hvk
              · exact HI.out i' j (by omega) h2 h3
            have hvn : (v != (k : Int)) = true := by simp [hvk]
            clear hvk
            go_wp2_with fail
            go_roundw
            case rel => exact ⟨i + 1, by rw [HC2.out], by go_num, by omega, HI2, hB⟩
            case measure => simp [intOf]; omega
        · obtain rfl : i = pl.length := by omega
          rw [List.take_length]
          obtain ⟨n, b2, off2, hn, hA2, _, hcn⟩ := nitc_at (hN.below hB) hkn
          have hnn : n = n0 := by have h := hn; rw [HN0.out] at h; injection h with h; exact h.symm
          subst hnn
          have d5 := hcn 5 _ rfl
          clear hcn hn
          subst hA2
          have HTK := hide (right_too_many (js := js) (i := pl.length) (pl := pl) HN0.out)
          by_cases hgt : n.pl < cntN pl k
          · go_wp2_with fail
            go_ret
            exact ⟨ret_bool (HTK.out (by rw [List.take_length]; exact hgt)).symm, hB⟩
          · have HT2 : Hid (∀ k' n, k' < k + 1 → ns[k']? = some n → cntN pl k' ≤ n.pl ∧ ∀ (i : Nat) j, pl[i]? = some (k' : Int) → js[i]? = some j → fitsF j n = true) := fun k' n' h1 h2 => by
              by_cases e : k' = k
              · subst e
                rw [HN0.out] at h2
                injection h2 with h2
                subst h2
                exact ⟨by omega, fun i j h3 h4 => HI.out i j (List.getElem?_eq_some_iff.1 h3).1 h3 h4⟩
              · exact HT.out k' n' (by omega) h2
            go_wp2_with fail
            go_roundw
            case rel => exact ⟨k + 1, by go_num, by omega, HT2, hB⟩
            case measure => simp [intOf]; omega
    · obtain rfl : k = ns.length := by omega
      have HR : Hid (rightB js ns pl = true) := right_yes HPB.out.1 HPB.out.2 (fun i k j n a b c => (HT.out k n (List.getElem?_eq_some_iff.1 c).1 c).2 i j a b) fun k n hn => (HT.out k n (List.getElem?_eq_some_iff.1 hn).1 hn).1
      go_wp2_with fail
      go_ret
      exact ⟨ret_bool HR.out.symm, hB⟩
end Go.Proofs.Ytkcfalehebacpaa
