/- right of the reference at the beginning of a plan: the walk. -/
import Derived.Test.YtfhlopegmfdkpaaNRight
namespace Go.Proofs.Ytfhlopegmfdkpaa
open Go Go.RowKit
theorem take_get {α : Type} {l : List α} {i n : Nat} {x : α} (h : l[i]? = some x) (hi : i < n) : (l.take n)[i]? = some x := by rw [List.getElem?_take, if_pos hi]; exact h
theorem take_got {α : Type} {l : List α} {i n : Nat} {x : α} (h : (l.take n)[i]? = some x) : l[i]? = some x := by
  rw [List.getElem?_take] at h
  split at h
  · exact h
  · cases h
set_option maxRecDepth 100000 in
set_option maxHeartbeats 4000000 in
theorem refRightPre_any (AJ : Option Addr) (cJ : Nat) (js : List Job) (AN : Option Addr) (cN : Nat) (ns : List Nit) (A : Option Addr) (c : Nat) (pl : List Int) (w : World) (hJ : Slc Job.enc 8 w w.heap.size AJ js) (hN : Slc Nit.enc 8 w w.heap.size AN ns) (hS : Slc intEnc 1 w w.heap.size A pl)
    (hl1 : js.length ≤ 1000) (hl2 : ns.length ≤ 1000) (hpl : pl.length ≤ js.length) (hpb : ∀ v ∈ pl, -1 ≤ v ∧ v < ns.length) :
    Calls Try.prog 61 #[.slice AJ js.length cJ, .slice AN ns.length cN, .slice A pl.length c] w fun e w' => e = .returned (.bool (rightB (js.take pl.length) ns pl)) ∧ Below w.heap.size w w' := by
  have HPB := hide (And.intro hpl hpb)
  have hplN : pl.length ≤ 1000 := by omega
  clear hpb hpl
  have hB := Below.refl w.heap.size w
  obtain ⟨W, hWw⟩ : ∃ W : World, W = w := ⟨_, rfl⟩
  go_enter Try.func61, Try.ntmps61
  go_wp2_with fail
  go_loopw [7] (fun y W => ∃ (k : Nat), y = .int .i64 k ∧ k ≤ ns.length ∧ Hid (∀ k' n, k' < k → ns[k']? = some n → cntN pl k' ≤ n.pl ∧ ∀ (i : Nat) j, pl[i]? = some (k' : Int) → js[i]? = some j → fitsF j n = true) ∧ Below w.heap.size w W) (fun y _ => ns.length - (intOf y).toNat)
  case atStart => exact ⟨0, rfl, Nat.zero_le _, hide fun k' n h => absurd h (Nat.not_lt_zero _), hB⟩
  case round =>
    clear hB hWw
    clear W
    obtain ⟨W, rfl⟩ : ∃ W : World, W = wr := ⟨_, rfl⟩
    obtain ⟨k, rfl, hk, HT, hB⟩ := hrel
    by_cases hkn : k < ns.length
    · have hki : (k : Int) < (ns.length : Int) := by omega
      obtain ⟨n0, hn0⟩ : ∃ n, ns[k]? = some n := ⟨_, List.getElem?_eq_getElem hkn⟩
      have HN0 := hide hn0
      clear hn0
      go_wp2_with fail
      go_loopw [8, 9] (fun x y W => ∃ (i : Nat), x = .int .i64 (cntN (pl.take i) k) ∧ y = .int .i64 i ∧ i ≤ pl.length ∧ Hid (∀ (i' : Nat) j, i' < i → pl[i']? = some (k : Int) → js[i']? = some j → fitsF j n0 = true) ∧ Below w.heap.size w W) (fun x y _ => pl.length - (intOf y).toNat)
      case atStart => exact ⟨0, by simp [cntN], rfl, Nat.zero_le _, hide fun i' j h => absurd h (Nat.not_lt_zero _), hB⟩
      case round =>
        clear hB
        obtain ⟨W, rfl⟩ : ∃ W : World, W = wr := ⟨_, rfl⟩
        obtain ⟨i, rfl, rfl, hi, HI, hB⟩ := hrel
        by_cases hlt : i < pl.length
        · obtain ⟨v, b, off, hv, hA, _, d9⟩ := ints_at' (hS.below hB) hlt
          have hii : (i : Int) < (pl.length : Int) := by omega
          have hij : i < js.length := by have := HPB.out.1; omega
          have hji : (i : Int) < (js.length : Int) := by omega
          have HC := hide (cntN_take_succ hv k)
          have hcb : 0 ≤ cntN (pl.take i) k ∧ cntN (pl.take i) k ≤ 1000 := by
            refine ⟨cntN_nonneg _ _, ?_⟩
            have h1 : (pl.take i).count (k : Int) ≤ (pl.take i).length := List.count_le_length
            unfold cntN
            rw [List.length_take] at h1
            omega
          generalize cntN (pl.take i) k = cnt0 at *
          have HV := hide hv
          clear hv
          subst hA
          by_cases hvk : v = (k : Int)
          · subst hvk
            have HC2 : Hid (cntN (pl.take (i + 1)) k = cnt0 + 1) := by show _ = _; rw [HC.out, if_pos rfl]
            have e9 : IntKind.i64.wrap (cnt0 + 1) = cnt0 + 1 := IntWalk.i64_in _ (by omega)
            go_upto_region 10 with fail
            clear d9
            obtain ⟨n, b2, off2, hn, hA2, _, hcn⟩ := nitc_at (hN.below hB) hkn
            obtain ⟨x, b3, off3, hx, hA3, _, hcx⟩ := job_at (hJ.below hB) hij
            have HNX := hide (And.intro hn hx)
            have d0 := hcn 0 _ rfl
            rw [Nat.add_zero] at d0
            have d1 := hcn 1 _ rfl
            have d2 := hcn 2 _ rfl
            have d3 := hcn 3 _ rfl
            have d4 := hcn 4 _ rfl
            have d5 := hcn 5 _ rfl
            have d6 := hcn 6 _ rfl
            have d7 := hcn 7 _ rfl
            clear hcn
            have e0 := hcx 0 _ rfl
            rw [Nat.add_zero] at e0
            have e1 := hcx 1 _ rfl
            have e2 := hcx 2 _ rfl
            have e3 := hcx 3 _ rfl
            have e4 := hcx 4 _ rfl
            have e5 := hcx 5 _ rfl
            have e6 := hcx 6 _ rfl
            have e7 := hcx 7 _ rfl
            clear hn hx hcx
            subst hA2 hA3
            have hnn : n = n0 := by have h := HNX.out.1; rw [HN0.out] at h; injection h with h; exact h.symm
            subst hnn
            cases hf : fitsF x n
            case false =>
              have HF := hide hf
              clear hf
              go_wp2_with fail
              refine wp_region_quiet (C := fun w' => ∃ u : Since W, w' = u.w) (by kernel_rfl) (by kernel_rfl) (Since.start W) ?_
              dsimp only
              have y_d0 := Since.cell d0
              have y_d1 := Since.cell d1
              have y_d2 := Since.cell d2
              have y_d3 := Since.cell d3
              have y_d4 := Since.cell d4
              have y_d5 := Since.cell d5
              have y_d6 := Since.cell d6
              have y_d7 := Since.cell d7
              have y_e0 := Since.cell e0
              have y_e1 := Since.cell e1
              have y_e2 := Since.cell e2
              have y_e3 := Since.cell e3
              have y_e4 := Since.cell e4
              have y_e5 := Since.cell e5
              have y_e6 := Since.cell e6
              have y_e7 := Since.cell e7
              repeat (go_big_quiet_step ((go_at_call 51; exact Since.calls (refFits_is x n _ HF.out))))
              refine wpQuiet_nil ?_
              rintro W ⟨⟨_, hb⟩, rfl⟩
              try dsimp only at hb ⊢
              replace d0 : W.cell? _ = _ := y_d0 ⟨W, hb⟩
              replace d1 : W.cell? _ = _ := y_d1 ⟨W, hb⟩
              replace d2 : W.cell? _ = _ := y_d2 ⟨W, hb⟩
              replace d3 : W.cell? _ = _ := y_d3 ⟨W, hb⟩
              replace d4 : W.cell? _ = _ := y_d4 ⟨W, hb⟩
              replace d5 : W.cell? _ = _ := y_d5 ⟨W, hb⟩
              replace d6 : W.cell? _ = _ := y_d6 ⟨W, hb⟩
              replace d7 : W.cell? _ = _ := y_d7 ⟨W, hb⟩
              replace e0 : W.cell? _ = _ := y_e0 ⟨W, hb⟩
              replace e1 : W.cell? _ = _ := y_e1 ⟨W, hb⟩
              replace e2 : W.cell? _ = _ := y_e2 ⟨W, hb⟩
              replace e3 : W.cell? _ = _ := y_e3 ⟨W, hb⟩
              replace e4 : W.cell? _ = _ := y_e4 ⟨W, hb⟩
              replace e5 : W.cell? _ = _ := y_e5 ⟨W, hb⟩
              replace e6 : W.cell? _ = _ := y_e6 ⟨W, hb⟩
              replace e7 : W.cell? _ = _ := y_e7 ⟨W, hb⟩
              clear y_d0 y_d1 y_d2 y_d3 y_d4 y_d5 y_d6 y_d7 y_e0 y_e1 y_e2 y_e3 y_e4 y_e5 y_e6 y_e7
              replace hB := hB.trans (hb.mono hB.size)
              clear hb
              go_wp2_with fail
              go_ret
              exact ⟨ret_bool (right_no_fit HV.out (take_get HNX.out.2 (List.getElem?_eq_some_iff.1 HV.out).1) HNX.out.1 HF.out).symm, hB⟩
            case true =>
              have HF := hide hf
              clear hf
              have HI2 : Hid (∀ (i' : Nat) j, i' < i + 1 → pl[i']? = some (k : Int) → js[i']? = some j → fitsF j n = true) := fun i' j h1 h2 h3 => by
                by_cases e : i' = i
                · subst e
                  have h6 := HNX.out.2
                  rw [h3] at h6
                  injection h6 with h6
                  subst h6
                  exact HF.out
                · exact HI.out i' j (by omega) h2 h3
              go_wp2_with fail
              refine wp_region_quiet (C := fun w' => ∃ u : Since W, w' = u.w) (by kernel_rfl) (by kernel_rfl) (Since.start W) ?_
              dsimp only
              have y_d0 := Since.cell d0
              have y_d1 := Since.cell d1
              have y_d2 := Since.cell d2
              have y_d3 := Since.cell d3
              have y_d4 := Since.cell d4
              have y_d5 := Since.cell d5
              have y_d6 := Since.cell d6
              have y_d7 := Since.cell d7
              have y_e0 := Since.cell e0
              have y_e1 := Since.cell e1
              have y_e2 := Since.cell e2
              have y_e3 := Since.cell e3
              have y_e4 := Since.cell e4
              have y_e5 := Since.cell e5
              have y_e6 := Since.cell e6
              have y_e7 := Since.cell e7
              repeat (go_big_quiet_step ((go_at_call 51; exact Since.calls (refFits_is x n _ HF.out))))
              refine wpQuiet_nil ?_
              rintro W ⟨⟨_, hb⟩, rfl⟩
              try dsimp only at hb ⊢
              replace d0 : W.cell? _ = _ := y_d0 ⟨W, hb⟩
              replace d1 : W.cell? _ = _ := y_d1 ⟨W, hb⟩
              replace d2 : W.cell? _ = _ := y_d2 ⟨W, hb⟩
              replace d3 : W.cell? _ = _ := y_d3 ⟨W, hb⟩
              replace d4 : W.cell? _ = _ := y_d4 ⟨W, hb⟩
              replace d5 : W.cell? _ = _ := y_d5 ⟨W, hb⟩
              replace d6 : W.cell? _ = _ := y_d6 ⟨W, hb⟩
              replace d7 : W.cell? _ = _ := y_d7 ⟨W, hb⟩
              replace e0 : W.cell? _ = _ := y_e0 ⟨W, hb⟩
              replace e1 : W.cell? _ = _ := y_e1 ⟨W, hb⟩
              replace e2 : W.cell? _ = _ := y_e2 ⟨W, hb⟩
              replace e3 : W.cell? _ = _ := y_e3 ⟨W, hb⟩
              replace e4 : W.cell? _ = _ := y_e4 ⟨W, hb⟩
              replace e5 : W.cell? _ = _ := y_e5 ⟨W, hb⟩
              replace e6 : W.cell? _ = _ := y_e6 ⟨W, hb⟩
              replace e7 : W.cell? _ = _ := y_e7 ⟨W, hb⟩
              clear y_d0 y_d1 y_d2 y_d3 y_d4 y_d5 y_d6 y_d7 y_e0 y_e1 y_e2 y_e3 y_e4 y_e5 y_e6 y_e7
              replace hB := hB.trans (hb.mono hB.size)
              clear hb
              go_wp2_with fail
              go_roundw
              case rel => exact ⟨i + 1, by rw [HC2.out], by go_num, by omega, HI2, hB⟩
              case measure => simp [intOf]; omega
          · have hvk' : (v == (k : Int)) = false := by simpa using hvk
            have HC2 : Hid (cntN (pl.take (i + 1)) k = cnt0) := by show _ = _; rw [HC.out, if_neg hvk, Int.add_zero]
            have HI2 : Hid (∀ (i' : Nat) j, i' < i + 1 → pl[i']? = some (k : Int) → js[i']? = some j → fitsF j n0 = true) := fun i' j h1 h2 h3 => by
              by_cases e : i' = i
              · subst e
                rw [HV.out] at h2
                injection h2 with h2
                exact absurd h2 hvk
              · exact HI.out i' j (by omega) h2 h3
            have hvn : (v != (k : Int)) = true := by simp [hvk]
            clear hvk
            go_wp2_with fail
            go_roundw
            case rel => exact ⟨i + 1, by rw [HC2.out], by go_num, by omega, HI2, hB⟩
            case measure => simp [intOf]; omega
        · obtain rfl : i = pl.length := by omega
          rw [List.take_length]
          obtain ⟨n, b2, off2, hn, hA2, _, hcn⟩ := nitc_at (hN.below hB) hkn
          have hnn : n = n0 := by have h := hn; rw [HN0.out] at h; injection h with h; exact h.symm
          subst hnn
          have d5 := hcn 5 _ rfl
          clear hcn hn
          subst hA2
          have HTK := hide (right_too_many (js := js.take pl.length) (i := pl.length) (pl := pl) HN0.out)
          by_cases hgt : n.pl < cntN pl k
          · go_wp2_with fail
            go_ret
            exact ⟨ret_bool (HTK.out (by rw [List.take_length]; exact hgt)).symm, hB⟩
          · have HT2 : Hid (∀ k' n, k' < k + 1 → ns[k']? = some n → cntN pl k' ≤ n.pl ∧ ∀ (i : Nat) j, pl[i]? = some (k' : Int) → js[i]? = some j → fitsF j n = true) := fun k' n' h1 h2 => by
              by_cases e : k' = k
              · subst e
                rw [HN0.out] at h2
                injection h2 with h2
                subst h2
                exact ⟨by omega, fun i j h3 h4 => HI.out i j (List.getElem?_eq_some_iff.1 h3).1 h3 h4⟩
              · exact HT.out k' n' (by omega) h2
            go_wp2_with fail
            go_roundw
            case rel => exact ⟨k + 1, by go_num, by omega, HT2, hB⟩
            case measure => simp [intOf]; omega
    · obtain rfl : k = ns.length := by omega
      have HR : Hid (rightB (js.take pl.length) ns pl = true) := right_yes (by rw [List.length_take]; have := HPB.out.1; omega) HPB.out.2 (fun i k j n a b c => (HT.out k n (List.getElem?_eq_some_iff.1 c).1 c).2 i j a (take_got b)) fun k n hn => (HT.out k n (List.getElem?_eq_some_iff.1 hn).1 hn).1
      go_wp2_with fail
      go_ret
      exact ⟨ret_bool HR.out.symm, hB⟩
end Go.Proofs.Ytfhlopegmfdkpaa
