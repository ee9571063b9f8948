/- Wide, Places, NightBounds: the walks. -/
import Derived.Test.YtkcfalehebacpaaNRef
namespace Go.Proofs.Ytkcfalehebacpaa
open Go Go.RowKit
def wideB (js : List Job) (ns : List Nit) (a b : Int) : Bool := decide (a < js.length) || decide (b < ns.length)
theorem wide_any (aJ : Option Addr) (cJ : Nat) (js : List Job) (aN : Option Addr) (cN : Nat) (ns : List Nit) (a b : Int) (w : World) :
    Calls Try.prog 5 #[.agg #[.slice aJ js.length cJ, .slice aN ns.length cN], .int .i64 a, .int .i64 b] w fun e w' => e = .returned (.bool (wideB js ns a b)) ∧ Below w.heap.size w w' := by
  have HV : Hid (wideB js ns a b = (decide (a < js.length) || decide (b < ns.length))) := rfl
  by_cases h1 : a < (js.length : Int)
  · go_enter Try.func5, Try.ntmps5
    go_wp2_with fail
    go_ret
    exact ⟨ret_bool (by rw [HV.out]; simp [*] <;> (intros; omega)), (Below.refl _ _).alloc (Nat.le_refl _) _⟩
  · by_cases h2 : b < (ns.length : Int)
    · go_enter Try.func5, Try.ntmps5
      go_wp2_with fail
      go_ret
      exact ⟨ret_bool (by rw [HV.out]; simp [*] <;> (intros; omega)), (Below.refl _ _).alloc (Nat.le_refl _) _⟩
    · go_enter Try.func5, Try.ntmps5
      go_wp2_with fail
      go_ret
      exact ⟨ret_bool (by rw [HV.out]; simp [*] <;> (intros; omega)), (Below.refl _ _).alloc (Nat.le_refl _) _⟩
theorem wideB_false {js : List Job} {ns : List Nit} {a b : Nat} (h : wideB js ns a b = false) : js.length ≤ a ∧ ns.length ≤ b := by
  unfold wideB at h
  simp only [Bool.or_eq_false_iff, decide_eq_false_iff_not] at h
  omega
theorem places_bound {js : List Job} {l : List Int} : ∀ {ns : List Nit}, (∀ n ∈ ns, nitOk n = true) → 0 ≤ (ns.map (placeOf js l)).sum ∧ (ns.map (placeOf js l)).sum ≤ 100 * ns.length
  | [], _ => by simp
  | n :: r, h => by
    have ih := places_bound (js := js) (l := l) (ns := r) fun x hx => h x (by simp [hx])
    have h1 := h n (by simp)
    unfold nitOk at h1
    simp only [Bool.and_eq_true, inB_iff] at h1
    have h2 : 0 ≤ placeOf js l n ∧ placeOf js l n ≤ 100 := by unfold placeOf; split <;> omega
    rw [List.map_cons, List.sum_cons, List.length_cons]
    omega
theorem any_take {α : Type} {f : α → Bool} {l : List α} {k : Nat} {x : α} (h : l[k]? = some x) : (l.take (k + 1)).any f = ((l.take k).any f || f x) := by
  rw [List.take_add_one, h, List.any_append]; simp
theorem sum_take {α : Type} {f : α → Int} {l : List α} {k : Nat} {x : α} (h : l[k]? = some x) : ((l.take (k + 1)).map f).sum = ((l.take k).map f).sum + f x := by
  rw [List.take_add_one, h, List.map_append, List.sum_append]; simp
set_option maxRecDepth 100000 in
set_option maxHeartbeats 4000000 in
theorem places_any (AJ : Option Addr) (cJ : Nat) (js : List Job) (AN : Option Addr) (cN : Nat) (ns : List Nit) (AL : Option Addr) (cL : Nat) (l : List Int) (w : World) (hJ : Slc Job.enc 8 w w.heap.size AJ js) (hN : Slc Nit.enc 8 w w.heap.size AN ns) (hL : Slc intEnc 1 w w.heap.size AL l)
    (hl2 : ns.length ≤ 1000) (hl3 : l.length ≤ 1000) (hn : ∀ n ∈ ns, nitOk n = true) (hl : idxF js.length (-1) l = true) :
    Calls Try.prog 13 #[.slice AJ js.length cJ, .slice AN ns.length cN, .slice AL l.length cL] w fun e w' => e = .returned (.int .i64 (placesF js ns l)) ∧ Below w.heap.size w w' := by
  have HI := hide (idxF_ok hl (Int.le_refl _)).1
  have HN := hide hn
  have HP : Hid (placesF js ns l = (ns.map (placeOf js l)).sum) := rfl
  clear hl hn
  have hB := Below.refl w.heap.size w
  obtain ⟨W, hWw⟩ : ∃ W : World, W = w := ⟨_, rfl⟩
  go_enter Try.func13, Try.ntmps13
  go_wp2_with fail
  go_loopw [7, 8] (fun x y W => ∃ (k : Nat), x = .int .i64 ((ns.take k).map (placeOf js l)).sum ∧ y = .int .i64 k ∧ k ≤ ns.length ∧ Below w.heap.size w W) (fun x y _ => ns.length - (intOf y).toNat)
  case atStart => exact ⟨0, rfl, rfl, Nat.zero_le _, hB⟩
  case round =>
    clear hB hWw
    clear W
    obtain ⟨W, rfl⟩ : ∃ W : World, W = wr := ⟨_, rfl⟩
    obtain ⟨k, rfl, rfl, hk, hB⟩ := hrel
    by_cases hlt : k < ns.length
    · obtain ⟨n, b, off, hn, hA, hb0, hcn⟩ := nitc_at (hN.below hB) hlt
      have hki : (k : Int) < (ns.length : Int) := by omega
      have HX := hide hn
      have HSUM := hide (sum_take (f := placeOf js l) hn)
      have hsb := places_bound (js := js) (l := l) (ns := ns.take k) (fun x hx => HN.out x (List.mem_of_mem_take hx))
      rw [List.length_take] at hsb
      generalize ((ns.take k).map (placeOf js l)).sum = S at *
      clear hn hcn hA
      go_wp2_with fail
      go_loopw [9, 10] (fun x y W => ∃ (i : Nat), x = .bool ((l.take i).any fun i => fitsF (js.getD i.toNat default) n) ∧ y = .int .i64 i ∧ i ≤ l.length ∧ Below w.heap.size w W) (fun x y _ => l.length - (intOf y).toNat)
      case atStart => exact ⟨0, rfl, rfl, Nat.zero_le _, hB⟩
      case round =>
        clear hB
        obtain ⟨W, rfl⟩ : ∃ W : World, W = wr := ⟨_, rfl⟩
        obtain ⟨i, rfl, rfl, hi, hB⟩ := hrel
        by_cases hlti : i < l.length
        · obtain ⟨v, b2, off2, hv, hA2, hb2, d9⟩ := ints_at' (hL.below hB) hlti
          have hvb := HI.out v (List.mem_of_getElem? hv)
          obtain ⟨q, rfl⟩ : ∃ q : Nat, v = q := ⟨v.toNat, by omega⟩
          have hq : q < js.length := by omega
          obtain ⟨x, b3, off3, hx, hA3, hb3, hcx⟩ := job_at (hJ.below hB) hq
          have HANY := hide (any_take (f := fun i => fitsF (js.getD i.toNat default) n) hv)
          have HXX : Hid (js.getD ((q : Nat) : Int).toNat default = x) := by show _ = _; rw [Int.toNat_natCast, List.getD_eq_getElem?_getD, hx]; rfl
          have hqi : (q : Int) < (js.length : Int) := by omega
          have hii : (i : Int) < (l.length : Int) := by omega
          generalize ((l.take i).any fun i => fitsF (js.getD i.toNat default) n) = o at *
          clear hv hx
          subst hA2 hA3
          cases o with
          | true =>
            have HV : Hid (((l.take (i + 1)).any fun i => fitsF (js.getD i.toNat default) n) = true) := by show _ = _; rw [HANY.out]; rfl
            clear hcx
            go_wp2_with fail
            refine wp_region_quiet (C := fun w' => ∃ u : Since W, w' = u.w) (by kernel_rfl) (by kernel_rfl) (Since.start W) ?_
            dsimp only
            have y_d9 := Since.cell d9
            repeat (go_big_quiet_step ((fail)))
            refine wpQuiet_nil ?_
            rintro W ⟨⟨_, hb⟩, rfl⟩
            try dsimp only at hb ⊢
            replace d9 : W.cell? _ = _ := y_d9 ⟨W, hb⟩
            clear y_d9
            replace hB := hB.trans (hb.mono hB.size)
            clear hb
            go_wp2_with fail
            go_roundw
            case rel => exact ⟨i + 1, by rw [HV.out], by go_num, by omega, hB⟩
            case measure => simp [intOf]; omega
          | false =>
            have HV : Hid (((l.take (i + 1)).any fun i => fitsF (js.getD i.toNat default) n) = fitsF x n) := by show _ = _; rw [HANY.out, HXX.out]; rfl
            have e0 := hcx 0 _ rfl
            rw [Nat.add_zero] at e0
            have e1 := hcx 1 _ rfl
            have e2 := hcx 2 _ rfl
            have e3 := hcx 3 _ rfl
            have e4 := hcx 4 _ rfl
            have e5 := hcx 5 _ rfl
            have e6 := hcx 6 _ rfl
            have e7 := hcx 7 _ rfl
            obtain ⟨n', b', off', hn', hA', _, hcn⟩ := nitc_at (hN.below hB) hlt
            have := HX.out
            rw [hn'] at this
            injection this with this
            subst this
            have d0 := hcn 0 _ rfl
            rw [Nat.add_zero] at d0
            have d1 := hcn 1 _ rfl
            have d2 := hcn 2 _ rfl
            have d3 := hcn 3 _ rfl
            have d4 := hcn 4 _ rfl
            have d5 := hcn 5 _ rfl
            have d6 := hcn 6 _ rfl
            have d7 := hcn 7 _ rfl
            clear hcn
            clear hn' hcx
            subst hA'
            go_wp2_with fail
            refine wp_region_quiet (C := fun w' => ∃ u : Since W, w' = u.w) (by kernel_rfl) (by kernel_rfl) (Since.start W) ?_
            dsimp only
            have y_d0 := Since.cell d0
            have y_d1 := Since.cell d1
            have y_d2 := Since.cell d2
            have y_d3 := Since.cell d3
            have y_d4 := Since.cell d4
            have y_d5 := Since.cell d5
            have y_d6 := Since.cell d6
            have y_d7 := Since.cell d7
            have y_d9 := Since.cell d9
            have y_e0 := Since.cell e0
            have y_e1 := Since.cell e1
            have y_e2 := Since.cell e2
            have y_e3 := Since.cell e3
            have y_e4 := Since.cell e4
            have y_e5 := Since.cell e5
            have y_e6 := Since.cell e6
            have y_e7 := Since.cell e7
            repeat (go_big_quiet_step ((go_at_call 35; exact Since.calls (refFits_any x n' _))))
            refine wpQuiet_nil ?_
            rintro W ⟨⟨_, hb⟩, rfl⟩
            try dsimp only at hb ⊢
            replace d0 : W.cell? _ = _ := y_d0 ⟨W, hb⟩
            replace d1 : W.cell? _ = _ := y_d1 ⟨W, hb⟩
            replace d2 : W.cell? _ = _ := y_d2 ⟨W, hb⟩
            replace d3 : W.cell? _ = _ := y_d3 ⟨W, hb⟩
            replace d4 : W.cell? _ = _ := y_d4 ⟨W, hb⟩
            replace d5 : W.cell? _ = _ := y_d5 ⟨W, hb⟩
            replace d6 : W.cell? _ = _ := y_d6 ⟨W, hb⟩
            replace d7 : W.cell? _ = _ := y_d7 ⟨W, hb⟩
            replace d9 : W.cell? _ = _ := y_d9 ⟨W, hb⟩
            replace e0 : W.cell? _ = _ := y_e0 ⟨W, hb⟩
            replace e1 : W.cell? _ = _ := y_e1 ⟨W, hb⟩
            replace e2 : W.cell? _ = _ := y_e2 ⟨W, hb⟩
            replace e3 : W.cell? _ = _ := y_e3 ⟨W, hb⟩
            replace e4 : W.cell? _ = _ := y_e4 ⟨W, hb⟩
            replace e5 : W.cell? _ = _ := y_e5 ⟨W, hb⟩
            replace e6 : W.cell? _ = _ := y_e6 ⟨W, hb⟩
            replace e7 : W.cell? _ = _ := y_e7 ⟨W, hb⟩
            clear y_d0 y_d1 y_d2 y_d3 y_d4 y_d5 y_d6 y_d7 y_d9 y_e0 y_e1 y_e2 y_e3 y_e4 y_e5 y_e6 y_e7
            replace hB := hB.trans (hb.mono hB.size)
            clear hb
            go_wp2_with fail
            go_roundw
            case rel => exact ⟨i + 1, by rw [HV.out], by go_num, by omega, hB⟩
            case measure => simp [intOf]; omega
        · obtain rfl : i = l.length := by omega
          rw [List.take_length]
          obtain ⟨n', b', off', hn', hA', _, hcn⟩ := nitc_at (hN.below hB) hlt
          have := HX.out
          rw [hn'] at this
          injection this with this
          subst this
          have hok := HN.out n' (List.mem_of_getElem? hn')
          unfold nitOk at hok
          simp only [Bool.and_eq_true, inB_iff] at hok
          have hpb := hok.2
          have d5 := hcn 5 _ rfl
          have e9 : IntKind.i64.wrap (S + n'.pl) = S + n'.pl := IntWalk.i64_in _ (by omega)
          have HPO : Hid (placeOf js l n' = if (l.any fun i => fitsF (js.getD i.toNat default) n') then n'.pl else 0) := rfl
          clear hcn hn' hok
          subst hA'
          cases ho : l.any fun i => fitsF (js.getD i.toNat default) n'
          · have HV : Hid (((ns.take (k + 1)).map (placeOf js l)).sum = S) := by show _ = _; rw [HSUM.out, HPO.out, ho]; simp
            clear ho
            go_wp2_with fail
            go_roundw
            case rel => exact ⟨k + 1, by rw [HV.out], by go_num, by omega, hB⟩
            case measure => simp [intOf]; omega
          · have HV : Hid (((ns.take (k + 1)).map (placeOf js l)).sum = S + n'.pl) := by show _ = _; rw [HSUM.out, HPO.out, ho]; simp
            clear ho
            go_wp2_with fail
            go_roundw
            case rel => exact ⟨k + 1, by rw [HV.out], by go_num, by omega, hB⟩
            case measure => simp [intOf]; omega
    · obtain rfl : k = ns.length := by omega
      rw [List.take_length]
      go_wp2_with fail
      go_ret
      exact ⟨ret_int HP.out.symm, hB⟩
end Go.Proofs.Ytkcfalehebacpaa
