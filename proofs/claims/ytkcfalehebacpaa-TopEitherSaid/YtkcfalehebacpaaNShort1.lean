/- IsShortage of both texts: the walks. -/
import Derived.Test.YtkcfalehebacpaaNShortP
import Derived.Test.YtkcfalehebacpaaNRight
import Derived.Test.YtkcfalehebacpaaNLaw2
namespace Go.Proofs.Ytkcfalehebacpaa
open Go Go.RowKit
set_option maxRecDepth 100000 in
set_option maxHeartbeats 1000000 in
theorem short1_w (i : Nat) (j : Job) (js : List Job) (AJ : Option Addr) (cJ jb : Nat) (n : Nit) (nb : Nat) (w W : World) (hB : Below w.heap.size w W) (hi : i < js.length) (hj : js[i]? = some j) (hJ : Slc Job.enc 8 W W.heap.size AJ js) (hbj : Blk W jb 22 #[.slice AJ js.length cJ]) (hbn : Blk W nb 69 #[.int .i64 n.day, .int .i64 n.road, .int .i64 n.lo, .int .i64 n.hi, .int .i64 n.crew, .int .i64 n.pl, .bool n.rain, .bool n.frost]) (hl : js.length ≤ 1000) :
    Calls Try.prog 33 #[.int .i64 i, .pointer (some ⟨jb, 0, none⟩), .pointer (some ⟨nb, 0, none⟩)] W fun e w' => e = .returned (.bool (fitsF j n)) ∧ Below w.heap.size w w' := by
  obtain ⟨x, b3, off3, hx, hA3, _, hcx⟩ := job_at hJ hi
  obtain rfl : x = j := by rw [hj] at hx; injection hx with hx; exact hx.symm
  have e0 := hcx 0 _ rfl
  rw [Nat.add_zero] at e0
  have e1 := hcx 1 _ rfl
  have e2 := hcx 2 _ rfl
  have e3 := hcx 3 _ rfl
  have e4 := hcx 4 _ rfl
  have e5 := hcx 5 _ rfl
  have e6 := hcx 6 _ rfl
  have e7 := hcx 7 _ rfl
  clear hx hj hcx
  subst hA3
  have q0 := hbj.cell_ 0 rfl
  have d0 := hbn.cell_ 0 rfl
  have d1 := hbn.cell_ 1 rfl
  have d2 := hbn.cell_ 2 rfl
  have d3 := hbn.cell_ 3 rfl
  have d4 := hbn.cell_ 4 rfl
  have d5 := hbn.cell_ 5 rfl
  have d6 := hbn.cell_ 6 rfl
  have d7 := hbn.cell_ 7 rfl
  have hii : (i : Int) < (js.length : Int) := by omega
  cases hf : fitsF x n
  · have HF := hide hf
    clear hf hJ hbj hbn
    go_enter Try.func33, Try.ntmps33
    go_wp2_with fail
    refine wp_region_quiet (C := fun w' => ∃ u : Since W, w' = u.w) (by kernel_rfl) (by kernel_rfl) (Since.start W) ?_
    dsimp only
    have y_q0 := Since.cell q0
    have y_e0 := Since.cell e0
    have y_e1 := Since.cell e1
    have y_e2 := Since.cell e2
    have y_e3 := Since.cell e3
    have y_e4 := Since.cell e4
    have y_e5 := Since.cell e5
    have y_e6 := Since.cell e6
    have y_e7 := Since.cell e7
    have y_d0 := Since.cell d0
    have y_d1 := Since.cell d1
    have y_d2 := Since.cell d2
    have y_d3 := Since.cell d3
    have y_d4 := Since.cell d4
    have y_d5 := Since.cell d5
    have y_d6 := Since.cell d6
    have y_d7 := Since.cell d7
    repeat (go_big_quiet_step ((go_at_call 34; exact Since.calls (fits_is x n _ HF.out))))
    refine wpQuiet_nil ?_
    rintro W ⟨⟨_, hb⟩, rfl⟩
    try dsimp only at hb ⊢
    replace q0 : W.cell? _ = _ := y_q0 ⟨W, hb⟩
    replace e0 : W.cell? _ = _ := y_e0 ⟨W, hb⟩
    replace e1 : W.cell? _ = _ := y_e1 ⟨W, hb⟩
    replace e2 : W.cell? _ = _ := y_e2 ⟨W, hb⟩
    replace e3 : W.cell? _ = _ := y_e3 ⟨W, hb⟩
    replace e4 : W.cell? _ = _ := y_e4 ⟨W, hb⟩
    replace e5 : W.cell? _ = _ := y_e5 ⟨W, hb⟩
    replace e6 : W.cell? _ = _ := y_e6 ⟨W, hb⟩
    replace e7 : W.cell? _ = _ := y_e7 ⟨W, hb⟩
    replace d0 : W.cell? _ = _ := y_d0 ⟨W, hb⟩
    replace d1 : W.cell? _ = _ := y_d1 ⟨W, hb⟩
    replace d2 : W.cell? _ = _ := y_d2 ⟨W, hb⟩
    replace d3 : W.cell? _ = _ := y_d3 ⟨W, hb⟩
    replace d4 : W.cell? _ = _ := y_d4 ⟨W, hb⟩
    replace d5 : W.cell? _ = _ := y_d5 ⟨W, hb⟩
    replace d6 : W.cell? _ = _ := y_d6 ⟨W, hb⟩
    replace d7 : W.cell? _ = _ := y_d7 ⟨W, hb⟩
    clear y_q0 y_e0 y_e1 y_e2 y_e3 y_e4 y_e5 y_e6 y_e7 y_d0 y_d1 y_d2 y_d3 y_d4 y_d5 y_d6 y_d7
    replace hB := hB.trans (hb.mono hB.size)
    clear hb
    go_wp2_with fail
    go_ret
    exact ⟨rfl, hB⟩
  · have HF := hide hf
    clear hf hJ hbj hbn
    go_enter Try.func33, Try.ntmps33
    go_wp2_with fail
    refine wp_region_quiet (C := fun w' => ∃ u : Since W, w' = u.w) (by kernel_rfl) (by kernel_rfl) (Since.start W) ?_
    dsimp only
    have y_q0 := Since.cell q0
    have y_e0 := Since.cell e0
    have y_e1 := Since.cell e1
    have y_e2 := Since.cell e2
    have y_e3 := Since.cell e3
    have y_e4 := Since.cell e4
    have y_e5 := Since.cell e5
    have y_e6 := Since.cell e6
    have y_e7 := Since.cell e7
    have y_d0 := Since.cell d0
    have y_d1 := Since.cell d1
    have y_d2 := Since.cell d2
    have y_d3 := Since.cell d3
    have y_d4 := Since.cell d4
    have y_d5 := Since.cell d5
    have y_d6 := Since.cell d6
    have y_d7 := Since.cell d7
    repeat (go_big_quiet_step ((go_at_call 34; exact Since.calls (fits_is x n _ HF.out))))
    refine wpQuiet_nil ?_
    rintro W ⟨⟨_, hb⟩, rfl⟩
    try dsimp only at hb ⊢
    replace q0 : W.cell? _ = _ := y_q0 ⟨W, hb⟩
    replace e0 : W.cell? _ = _ := y_e0 ⟨W, hb⟩
    replace e1 : W.cell? _ = _ := y_e1 ⟨W, hb⟩
    replace e2 : W.cell? _ = _ := y_e2 ⟨W, hb⟩
    replace e3 : W.cell? _ = _ := y_e3 ⟨W, hb⟩
    replace e4 : W.cell? _ = _ := y_e4 ⟨W, hb⟩
    replace e5 : W.cell? _ = _ := y_e5 ⟨W, hb⟩
    replace e6 : W.cell? _ = _ := y_e6 ⟨W, hb⟩
    replace e7 : W.cell? _ = _ := y_e7 ⟨W, hb⟩
    replace d0 : W.cell? _ = _ := y_d0 ⟨W, hb⟩
    replace d1 : W.cell? _ = _ := y_d1 ⟨W, hb⟩
    replace d2 : W.cell? _ = _ := y_d2 ⟨W, hb⟩
    replace d3 : W.cell? _ = _ := y_d3 ⟨W, hb⟩
    replace d4 : W.cell? _ = _ := y_d4 ⟨W, hb⟩
    replace d5 : W.cell? _ = _ := y_d5 ⟨W, hb⟩
    replace d6 : W.cell? _ = _ := y_d6 ⟨W, hb⟩
    replace d7 : W.cell? _ = _ := y_d7 ⟨W, hb⟩
    clear y_q0 y_e0 y_e1 y_e2 y_e3 y_e4 y_e5 y_e6 y_e7 y_d0 y_d1 y_d2 y_d3 y_d4 y_d5 y_d6 y_d7
    replace hB := hB.trans (hb.mono hB.size)
    clear hb
    go_wp2_with fail
    go_ret
    exact ⟨rfl, hB⟩
/-- job number x does not fit -/
def nfit (js : List Job) (n : Nit) (x : Int) : Bool := !fitsF (js.getD x.toNat default) n
theorem short1_any (x : Int) (js : List Job) (AJ : Option Addr) (cJ jb : Nat) (n : Nit) (nb : Nat) (w : World) (hx : 0 ≤ x ∧ x < js.length) (hJ : Slc Job.enc 8 w w.heap.size AJ js) (hbj : Blk w jb 22 #[.slice AJ js.length cJ]) (hbn : Blk w nb 69 #[.int .i64 n.day, .int .i64 n.road, .int .i64 n.lo, .int .i64 n.hi, .int .i64 n.crew, .int .i64 n.pl, .bool n.rain, .bool n.frost]) (hl : js.length ≤ 1000) :
    Calls Try.prog 33 #[.int .i64 x, .pointer (some ⟨jb, 0, none⟩), .pointer (some ⟨nb, 0, none⟩)] w fun e w' => e = .returned (.bool (!nfit js n x)) ∧ Below w.heap.size w w' := by
  obtain ⟨i, rfl⟩ : ∃ i : Nat, x = i := ⟨x.toNat, by omega⟩
  have hi : i < js.length := by omega
  have e : (!nfit js n (i : Int)) = fitsF js[i] n := by
    unfold nfit
    rw [Bool.not_not, Int.toNat_natCast, List.getD_eq_getElem?_getD, List.getElem?_eq_getElem hi]; rfl
  rw [e]
  exact short1_w i js[i] js AJ cJ jb n nb w w (Below.refl _ _) hi (List.getElem?_eq_getElem hi) hJ hbj hbn hl
set_option maxHeartbeats 1000000 in
theorem indexShort_any (A : Option Addr) (c : Nat) (l : List Int) (js : List Job) (AJ : Option Addr) (cJ jb : Nat) (n : Nit) (nb : Nat) (w : World) (hlen : l.length ≤ 1000) (hl2 : js.length ≤ 1000) (hS : Slc intEnc 1 w w.heap.size A l) (hv : Hid (∀ x ∈ l, 0 ≤ x ∧ x < js.length)) (hJ : Slc Job.enc 8 w w.heap.size AJ js) (hbj : Blk w jb 22 #[.slice AJ js.length cJ]) (hbn : Blk w nb 69 #[.int .i64 n.day, .int .i64 n.road, .int .i64 n.lo, .int .i64 n.hi, .int .i64 n.crew, .int .i64 n.pl, .bool n.rain, .bool n.frost]) :
    Calls Try.prog 70 #[.slice A l.length c, .func (.func 33) #[] #[.pointer (some ⟨jb, 0, none⟩), .pointer (some ⟨nb, 0, none⟩)]] w (IxPost (l.any fun x => !nfit js n x) w) := by
  go_enter Try.func70, Try.ntmps70
  go_wp2_with fail
  go_loopw [8] (fun i wr => ∃ k : Nat, k ≤ l.length ∧ i = .int .i64 k ∧ Hid ((l.any fun x => !nfit js n x) = (l.drop k).any (fun x => !nfit js n x)) ∧ Below w.heap.size w wr) (fun i _ => l.length - (intOf i).toNat)
  case atStart => exact ⟨0, Nat.zero_le _, rfl, hide rfl, Below.refl _ _⟩
  case round =>
    obtain ⟨k, hk, rfl, HS, hbel⟩ := hrel
    by_cases hlt : k < l.length
    · obtain ⟨x, b, off, hx, hA, hb, d0⟩ := ints_at' (hS.below hbel) hlt
      have hki : (k : Int) < (l.length : Int) := by omega
      subst hA
      have HX := hide hx
      clear hx
      go_wp2_with fail
      refine (short1_any x js AJ cJ jb n nb _ (hv.out x (List.mem_of_getElem? HX.out)) ((hJ.below hbel).more hbel.size) (hbj.below hbel hbj.lt) (hbn.below hbel hbn.lt) hl2).mono ?_
      rintro e w2 ⟨rfl, hb2⟩
      clear d0
      cases hok : nfit js n x
      · go_wp2_with fail
        go_ret
        exact ⟨k, rfl, by rw [HS.out, any_drop HX.out, hok]; simp, hbel.trans (hb2.mono hbel.size)⟩
      · go_wp2_with fail
        go_roundw
        case rel => exact ⟨k + 1, by omega, by go_num, hide (by rw [HS.out, any_drop HX.out, hok]; rfl), hbel.trans (hb2.mono hbel.size)⟩
        case measure => simp [intOf]; omega
    · obtain rfl : k = l.length := by omega
      go_wp2_with fail
      go_ret
      exact ⟨-1, rfl, by rw [HS.out, List.drop_length]; rfl, hbel⟩
theorem containsShort_any (A : Option Addr) (c : Nat) (l : List Int) (js : List Job) (AJ : Option Addr) (cJ jb : Nat) (n : Nit) (nb : Nat) (w : World) (hlen : l.length ≤ 1000) (hl2 : js.length ≤ 1000) (hS : Slc intEnc 1 w w.heap.size A l) (hv : Hid (∀ x ∈ l, 0 ≤ x ∧ x < js.length)) (hJ : Slc Job.enc 8 w w.heap.size AJ js) (hbj : Blk w jb 22 #[.slice AJ js.length cJ]) (hbn : Blk w nb 69 #[.int .i64 n.day, .int .i64 n.road, .int .i64 n.lo, .int .i64 n.hi, .int .i64 n.crew, .int .i64 n.pl, .bool n.rain, .bool n.frost]) {v : Bool} (hr : (l.any fun i => fitsF (js.getD i.toNat default) n) = v) :
    Calls Try.prog 32 #[.slice A l.length c, .func (.func 33) #[] #[.pointer (some ⟨jb, 0, none⟩), .pointer (some ⟨nb, 0, none⟩)]] w fun e w' => e = .returned (.bool v) ∧ Below w.heap.size w w' := by
  subst hr
  have HE : Hid ((l.any fun x => !nfit js n x) = l.any fun i => fitsF (js.getD i.toNat default) n) := by
    show _ = _
    unfold nfit
    simp only [Bool.not_not]
  go_enter Try.func32, Try.ntmps32
  go_wp2_with fail
  refine (indexShort_any A c l js AJ cJ jb n nb _ hlen hl2 hS hv hJ hbj hbn).mono ?_
  rintro e w2 ⟨r, rfl, hr, hb2⟩
  have HR := hide hr
  clear hr
  go_wp2_with fail
  go_ret
  exact ⟨ret_bool (by rw [← HE.out]; exact HR.out), hb2⟩
def isSh (js : List Job) (ns : List Nit) (l : List Int) : Bool := if wrongF js ns = 0 then shortB js ns l else false
set_option maxRecDepth 100000 in
set_option maxHeartbeats 4000000 in
theorem isSh_any (AJ : Option Addr) (cJ : Nat) (js : List Job) (AN : Option Addr) (cN : Nat) (ns : List Nit) (A : Option Addr) (c : Nat) (l : List Int) (w : World) (hJ : Slc Job.enc 8 w w.heap.size AJ js) (hN : Slc Nit.enc 8 w w.heap.size AN ns) (hS : Slc intEnc 1 w w.heap.size A l)
    (hl1 : js.length ≤ 1000) (hl2 : ns.length ≤ 1000) (hl3 : l.length ≤ 1000) :
    Calls Try.prog 11 #[.slice AJ js.length cJ, .slice AN ns.length cN, .slice A l.length c] w fun e w' => e = .returned (.tuple #[.bool (isSh js ns l), .int .i64 (wrongF js ns)]) ∧ Below w.heap.size w w' := by
  have hk := Blk.new w 22 #[.slice AJ js.length cJ]
  have hB := (Below.refl w.heap.size w).alloc (Nat.le_refl _) (.cells #[.slice AJ js.length cJ] 22)
  go_enter Try.func11, Try.ntmps11
  go_upto_region 1 with fail
  generalize w.alloc (.cells #[.slice AJ js.length cJ] 22) = W at *
  have c0 := hk.cell_ 0 rfl
  go_wp2_with fail
  refine (checked_any AJ cJ js AN cN ns _ (hJ.on hB) (hN.on hB) hl1 hl2).mono ?_
  rintro e W ⟨rfl, hb⟩
  clear c0
  replace hk := hk.below hb hk.lt
  replace hB := hB.trans (hb.mono hB.size)
  clear hb
  have c0 := hk.cell_ 0 rfl
  rcases wrong_cases js ns with h0 | h0 | h0
  · have HS : Hid (isSh js ns l = false) := by show _ = _; unfold isSh; rw [if_neg (by omega)]
    have HW := hide h0
    rw [h0]
    clear h0
    go_wp2_with fail
    go_ret2
    exact ⟨by rw [HW.out, HS.out]; rfl, hB⟩
  · have HS : Hid (isSh js ns l = false) := by show _ = _; unfold isSh; rw [if_neg (by omega)]
    have HW := hide h0
    rw [h0]
    clear h0
    go_wp2_with fail
    go_ret2
    exact ⟨by rw [HW.out, HS.out]; rfl, hB⟩
  · obtain ⟨_, f1, f2, f3⟩ := wrong_facts h0
    have HW := hide h0
    have HF := hide f3
    have HS0 : Hid (isSh js ns l = shortB js ns l) := by show _ = _; unfold isSh; rw [if_pos h0]
    rw [h0]
    clear h0 f3
    go_wp2_with fail
    go_loopw [9, 23] (fun x y W' => ∃ (last : Int) (i : Nat), x = .int .i64 last ∧ y = .int .i64 i ∧ i ≤ l.length ∧ W = W' ∧ Hid (idxF js.length (-1) l = idxF js.length last (l.drop i))) (fun _ y _ => l.length - (intOf y).toNat)
    case atStart => exact ⟨-1, 0, rfl, rfl, Nat.zero_le _, rfl, hide rfl⟩
    case round =>
      obtain ⟨last, i, rfl, rfl, hi, rfl, HI⟩ := hrel
      by_cases hlt : i < l.length
      · obtain ⟨x, b, off, hx, hA, hb, d9⟩ := ints_at' (hS.below hB) hlt
        have hii : (i : Int) < (l.length : Int) := by omega
        have HX := hide hx
        clear hx
        subst hA
        by_cases h1 : x ≤ last
        · have HV : Hid (isSh js ns l = false) := by show _ = _; rw [HS0.out]; unfold shortB; rw [HI.out, idxF_drop HX.out, decide_eq_true h1]; rfl
          go_wp2_with fail
          go_ret2
          exact ⟨by rw [HW.out, HV.out]; rfl, hB⟩
        · by_cases h2 : (js.length : Int) ≤ x
          · have HV : Hid (isSh js ns l = false) := by show _ = _; rw [HS0.out]; unfold shortB; rw [HI.out, idxF_drop HX.out, decide_eq_true h2]; simp
            go_wp2_with fail
            go_ret2
            exact ⟨by rw [HW.out, HV.out]; rfl, hB⟩
          · have HI2 : Hid (idxF js.length (-1) l = idxF js.length x (l.drop (i + 1))) := by show _ = _; rw [HI.out, idxF_drop HX.out, decide_eq_false h1, decide_eq_false h2]; rfl
            clear HI
            go_wp2_with fail
            go_roundw
            case rel => exact ⟨x, i + 1, rfl, by go_num, by omega, by first | rfl | trivial, HI2⟩
            case measure => simp [intOf]; omega
      · obtain rfl : i = l.length := by omega
        have hidx : idxF js.length (-1) l = true := by rw [HI.out, List.drop_length]; rfl
        have HV : Hid (isSh js ns l = decide (placesF js ns l < l.length)) := by show _ = _; rw [HS0.out]; unfold shortB; rw [hidx]; rfl
        have HL : Hid (∀ x ∈ l, 0 ≤ x ∧ x < js.length) := fun x hx => by have := (idxF_ok hidx (Int.le_refl _)).1 x hx; omega
        have HP : Hid (placesF js ns l = (ns.map (placeOf js l)).sum) := rfl
        clear hidx HI HS0
        go_wp2_with fail
        clear c0
        go_loopw [12, 40] (fun x y W => ∃ (k : Nat), x = .int .i64 ((ns.take k).map (placeOf js l)).sum ∧ y = .int .i64 k ∧ k ≤ ns.length ∧ Blk W w.heap.size 22 #[.slice AJ js.length cJ] ∧ Below w.heap.size w W) (fun x y _ => ns.length - (intOf y).toNat)
        case atStart => exact ⟨0, rfl, rfl, Nat.zero_le _, hk, hB⟩
        case round =>
          clear hk hB
          obtain ⟨W, rfl⟩ : ∃ W : World, W = wr := ⟨_, rfl⟩
          obtain ⟨k, rfl, rfl, hkn, hk, hB⟩ := hrel
          by_cases hlt : k < ns.length
          · obtain ⟨n, b, off, hn, hA, hb0, hcn⟩ := nitc_at (hN.below hB) hlt
            have hki : (k : Int) < (ns.length : Int) := by omega
            have HN := hide hn
            have hnok := HF.out n (List.mem_of_getElem? hn)
            have hpl : 0 ≤ n.pl ∧ n.pl ≤ 100 := by unfold nitOk at hnok; simp only [Bool.and_eq_true, inB_iff] at hnok; exact hnok.2
            have hsb := places_bound (js := js) (l := l) (ns := ns.take k) fun n hn => HF.out n (List.mem_of_mem_take hn)
            have HT := hide (sum_take (f := placeOf js l) hn)
            rw [List.length_take] at hsb
            have hsb2 : ((ns.take k).map (placeOf js l)).sum ≤ 100000 := by omega
            have hsb0 := hsb.1
            clear hsb hnok
            generalize ((ns.take k).map (placeOf js l)).sum = S at *
            have e9 : IntKind.i64.wrap (S + n.pl) = S + n.pl := IntWalk.i64_in _ (by omega)
            have d0 := hcn 0 _ rfl
            rw [Nat.add_zero] at d0
            have d1 := hcn 1 _ rfl
            have d2 := hcn 2 _ rfl
            have d3 := hcn 3 _ rfl
            have d4 := hcn 4 _ rfl
            have d5 := hcn 5 _ rfl
            have d6 := hcn 6 _ rfl
            have d7 := hcn 7 _ rfl
            clear hcn
            clear hn
            subst hA
            go_upto_region 16 with fail
            have hm := Blk.new W 69 #[.int .i64 n.day, .int .i64 n.road, .int .i64 n.lo, .int .i64 n.hi, .int .i64 n.crew, .int .i64 n.pl, .bool n.rain, .bool n.frost]
            replace hk := hk.alloc (.cells #[.int .i64 n.day, .int .i64 n.road, .int .i64 n.lo, .int .i64 n.hi, .int .i64 n.crew, .int .i64 n.pl, .bool n.rain, .bool n.frost] 69)
            have hsz_bm : (W.alloc (.cells #[.int .i64 n.day, .int .i64 n.road, .int .i64 n.lo, .int .i64 n.hi, .int .i64 n.crew, .int .i64 n.pl, .bool n.rain, .bool n.frost] 69)).heap.size = W.heap.size + 1 := by simp
            have bmge := hB.size
            replace hB := hB.alloc hB.size (.cells #[.int .i64 n.day, .int .i64 n.road, .int .i64 n.lo, .int .i64 n.hi, .int .i64 n.crew, .int .i64 n.pl, .bool n.rain, .bool n.frost] 69)
            generalize hbm : W.heap.size = bm at *
            generalize W.alloc (.cells #[.int .i64 n.day, .int .i64 n.road, .int .i64 n.lo, .int .i64 n.hi, .int .i64 n.crew, .int .i64 n.pl, .bool n.rain, .bool n.frost] 69) = W at *
            clear hbm
            have c0 := hk.cell_ 0 rfl
            have m0 := hm.cell_ 0 rfl
            have m1 := hm.cell_ 1 rfl
            have m2 := hm.cell_ 2 rfl
            have m3 := hm.cell_ 3 rfl
            have m4 := hm.cell_ 4 rfl
            have m5 := hm.cell_ 5 rfl
            have m6 := hm.cell_ 6 rfl
            have m7 := hm.cell_ 7 rfl
            clear d0 d1 d2 d3 d4 d5 d6 d7
            cases hf : (l.any fun i => fitsF (js.getD i.toNat default) n)
            · have HT2 : Hid (((ns.take (k + 1)).map (placeOf js l)).sum = S) := by show _ = _; rw [HT.out]; unfold placeOf; rw [hf]; simp
              go_wp2_with fail
              refine (containsShort_any A c l js AJ cJ w.heap.size n bm _ hl3 hl1 (hS.on hB) HL (hJ.on hB) hk hm hf).mono ?_
              rintro e W ⟨rfl, hb⟩
              clear c0 m0 m1 m2 m3 m4 m5 m6 m7
              replace hk := hk.below hb hk.lt
              replace hm := hm.below hb hm.lt
              replace hB := hB.trans (hb.mono hB.size)
              clear hb
              have c0 := hk.cell_ 0 rfl
              have m0 := hm.cell_ 0 rfl
              have m1 := hm.cell_ 1 rfl
              have m2 := hm.cell_ 2 rfl
              have m3 := hm.cell_ 3 rfl
              have m4 := hm.cell_ 4 rfl
              have m5 := hm.cell_ 5 rfl
              have m6 := hm.cell_ 6 rfl
              have m7 := hm.cell_ 7 rfl
              clear hf
              go_wp2_with fail
              go_roundw
              case rel => exact ⟨k + 1, by rw [HT2.out], by go_num, by omega, hk, hB⟩
              case measure => simp [intOf]; omega
            · have HT2 : Hid (((ns.take (k + 1)).map (placeOf js l)).sum = S + n.pl) := by show _ = _; rw [HT.out]; unfold placeOf; rw [hf]; simp
              go_wp2_with fail
              refine (containsShort_any A c l js AJ cJ w.heap.size n bm _ hl3 hl1 (hS.on hB) HL (hJ.on hB) hk hm hf).mono ?_
              rintro e W ⟨rfl, hb⟩
              clear c0 m0 m1 m2 m3 m4 m5 m6 m7
              replace hk := hk.below hb hk.lt
              replace hm := hm.below hb hm.lt
              replace hB := hB.trans (hb.mono hB.size)
              clear hb
              have c0 := hk.cell_ 0 rfl
              have m0 := hm.cell_ 0 rfl
              have m1 := hm.cell_ 1 rfl
              have m2 := hm.cell_ 2 rfl
              have m3 := hm.cell_ 3 rfl
              have m4 := hm.cell_ 4 rfl
              have m5 := hm.cell_ 5 rfl
              have m6 := hm.cell_ 6 rfl
              have m7 := hm.cell_ 7 rfl
              clear hf
              go_wp2_with fail
              go_roundw
              case rel => exact ⟨k + 1, by rw [HT2.out], by go_num, by omega, hk, hB⟩
              case measure => simp [intOf]; omega
          · obtain rfl : k = ns.length := by omega
            rw [List.take_length, ← HP.out]
            generalize placesF js ns l = S at *
            go_wp2_with fail
            go_ret2
            exact ⟨by rw [HW.out, HV.out]; rfl, hB⟩
end Go.Proofs.Ytkcfalehebacpaa
