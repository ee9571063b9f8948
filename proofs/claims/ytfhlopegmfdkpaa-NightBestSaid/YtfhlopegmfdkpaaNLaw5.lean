/- NightBest: the walk. -/
import Derived.Test.YtfhlopegmfdkpaaNPlan
import Derived.Test.YtfhlopegmfdkpaaNLaw3
import Derived.Test.YtfhlopegmfdkpaaOwns
namespace Go.Proofs.Ytfhlopegmfdkpaa
open Go Go.RowKit
theorem refNext_any (AJ : Option Addr) (cJ : Nat) (js : List Job) (AN : Option Addr) (cN : Nat) (ns : List Nit) (A : Option Addr) (c : Nat) (pl : List Int) (w : World) {n : Nat} (hn : pl.length = n) (hJ : Slc Job.enc 8 w w.heap.size AJ js) (hN : Slc Nit.enc 8 w w.heap.size AN ns) (hS : Slc intEnc 1 w w.heap.size A pl)
    (hl1 : js.length ≤ 1000) (hl2 : ns.length ≤ 1000) (hl3 : pl.length ≤ 1000) :
    Calls Try.prog 34 #[.slice AJ js.length cJ, .slice AN ns.length cN, .slice A n c] w fun e w' => e = .returned (.tuple #[.bool (rOk js ns pl), .int .i64 (rErr js ns pl)]) ∧ Below w.heap.size w w' := by
  subst hn; exact refApiRight_any AJ cJ js AN cN ns A c pl w hJ hN hS hl1 hl2 hl3
set_option maxRecDepth 100000 in
set_option maxHeartbeats 4000000 in
theorem nbest_walk (s : Sea) (w : World) (hS : SeaAt w s) :
    Calls Try.prog 9 #[.agg #[.slice s.aJ s.js.length s.cJ, .slice s.aN s.ns.length s.cN]] w fun e w' => e = .returned (.bool true) ∧ Below w.heap.size w w' := by
  obtain ⟨js, ns, aJ, cJ, aN, cN⟩ := s
  obtain ⟨hJ, hN, lj, ln⟩ := hS
  dsimp only at *
  unfold maxLen at lj ln
  have hk := Blk.new w 25 #[.slice aJ js.length cJ, .slice aN ns.length cN]
  have hB := (Below.refl w.heap.size w).alloc (Nat.le_refl _) (.cells #[.slice aJ js.length cJ, .slice aN ns.length cN] 25)
  go_enter Try.func9, Try.ntmps9
  go_wp2_with fail
  generalize w.alloc (.cells #[.slice aJ js.length cJ, .slice aN ns.length cN] 25) = W at *
  have c0 := hk.cell_ 0 rfl
  have c1 := hk.cell_ 1 rfl
  go_wp2_with fail
  refine (wide_any aJ cJ js aN cN ns 30 30 _).mono ?_
  rintro e W ⟨rfl, hb⟩
  clear c0 c1
  replace hk := hk.below hb hk.lt
  replace hB := hB.trans (hb.mono hB.size)
  clear hb
  have c0 := hk.cell_ 0 rfl
  have c1 := hk.cell_ 1 rfl
  cases hw : wideB js ns 30 30
  case true =>
    go_wp2_with fail
    refine (awake_any _).mono ?_
    rintro e W ⟨rfl, hb⟩
    clear c0 c1
    replace hk := hk.below hb hk.lt
    replace hB := hB.trans (hb.mono hB.size)
    clear hb
    have c0 := hk.cell_ 0 rfl
    have c1 := hk.cell_ 1 rfl
    go_wp2_with fail
    go_ret
    exact ⟨rfl, hB⟩
  obtain ⟨w1, w2⟩ := wideB_false (a := 30) (b := 30) hw
  clear hw
  go_wp2_with fail
  refine (refValid_any aJ cJ js aN cN ns _ (hJ.on hB) (hN.on hB) (by omega) (by omega)).mono ?_
  rintro e W ⟨rfl, hb⟩
  clear c0 c1
  replace hk := hk.below hb hk.lt
  replace hB := hB.trans (hb.mono hB.size)
  clear hb
  have c0 := hk.cell_ 0 rfl
  have c1 := hk.cell_ 1 rfl
  cases hv : validB js ns
  case false =>
    go_wp2_with fail
    refine (awake_any _).mono ?_
    rintro e W ⟨rfl, hb⟩
    clear c0 c1
    replace hk := hk.below hb hk.lt
    replace hB := hB.trans (hb.mono hB.size)
    clear hb
    have c0 := hk.cell_ 0 rfl
    have c1 := hk.cell_ 1 rfl
    go_wp2_with fail
    go_ret
    exact ⟨rfl, hB⟩
  have H0 := hide (valid_zero hv)
  clear hv
  go_wp2_with fail
  refine (apiMost_any aJ cJ js aN cN ns _ (hJ.on hB) (hN.on hB) (by omega) (by omega)).mono ?_
  rintro e W ⟨n, rfl, hb, hV⟩
  clear c0 c1
  replace hk := hk.below hb hk.lt
  replace hB := hB.trans (hb.mono hB.size)
  clear hb
  have c0 := hk.cell_ 0 rfl
  have c1 := hk.cell_ 1 rfl
  have HM := hide (hV.1 H0.out)
  clear hV
  rw [H0.out]
  go_wp2_with fail
  refine (apiBest_any aJ cJ js aN cN ns _ (hJ.on hB) (hN.on hB) (by omega) (by omega)).mono ?_
  rintro e W ⟨A, c, N, rfl, hb, hSl, hV⟩
  clear c0 c1
  replace hk := hk.below hb hk.lt
  replace hB := hB.trans (hb.mono hB.size)
  clear hb
  have c0 := hk.cell_ 0 rfl
  have c1 := hk.cell_ 1 rfl
  have HBt := hide (hV.1 H0.out)
  clear hV
  rw [H0.out]
  obtain rfl : n = doneN N := HM.out.one HBt.out.most_
  have hNl : N.length = js.length := by rw [HBt.out.pl.len, choose_len]
  have HNl := hide hNl
  have hN30 : N.length ≤ 30 := by omega
  clear hNl HM
  have HR := hide (pl_errs H0.out HBt.out.pl)
  go_wp2_with fail
  refine (refApiRight_any aJ cJ js aN cN ns A c N _ (hJ.on hB) (hN.on hB) hSl (by omega) (by omega) (by omega)).mono ?_
  rintro e W ⟨rfl, hb⟩
  clear c0 c1
  replace hk := hk.below hb hk.lt
  replace hSl := Slc.on hSl hb
  replace hB := hB.trans (hb.mono hB.size)
  clear hb
  have c0 := hk.cell_ 0 rfl
  have c1 := hk.cell_ 1 rfl
  rw [HR.out.1, HR.out.2.1]
  go_wp2_with fail
  refine (refDone_any aJ cJ js aN cN ns A c N _ (hJ.on hB) (hN.on hB) hSl (by omega) (by omega) (by omega)).mono ?_
  rintro e W ⟨rfl, hb⟩
  clear c0 c1
  replace hk := hk.below hb hk.lt
  replace hSl := Slc.on hSl hb
  replace hB := hB.trans (hb.mono hB.size)
  clear hb
  have c0 := hk.cell_ 0 rfl
  have c1 := hk.cell_ 1 rfl
  rw [HR.out.2.2.1, HR.out.2.2.2]
  have HDN : Hid ((doneN N < js.length ↔ -1 ∈ N) ∧ doneN N ≤ js.length) := by
    show _ ∧ _
    have h := pl_short HBt.out.pl
    rw [choose_len] at h
    exact h
  have hdn : doneN N ≤ 1000 := by have := HDN.out.2; omega
  have HLS : Hid (∀ (i k : Nat) v, N[i]? = some v → (v = -1 ∨ (k : Int) < v) → rOk js ns (N.set i (k : Int)) = false) := fun i k v hv hk => best_less HBt.out hv hk
  have HVB : Hid (∀ (i : Nat) v, N[i]? = some v → -1 ≤ v) := fun i v hv => by
    rcases HBt.out.pl.ok i v hv with h | ⟨k, h, _, _⟩ <;> omega
  have HPV : Hid (∀ L E, PlanV js ns L E → (doneN N < js.length ∧ L = [] ∧ E = 24) ∨ (¬ doneN N < js.length ∧ L = N ∧ E = 0)) := fun L E h => by
    obtain ⟨M, h1, h2⟩ := h.2 H0.out
    obtain rfl := h1.one HBt.out
    rcases h2 with ⟨h3, h4⟩ | ⟨h3, h4⟩
    · exact .inl ⟨HDN.out.1.2 h3, h4⟩
    · exact .inr ⟨fun h5 => h3 (HDN.out.1.1 h5), h4⟩
  clear HR HBt HDN
  generalize doneN N = D at *
  go_wp2_with fail
  clear c0 c1
  go_loopw [11] (fun y W => ∃ (i : Nat), y = .int .i64 i ∧ i ≤ N.length ∧ Blk W w.heap.size 25 #[.slice aJ js.length cJ, .slice aN ns.length cN] ∧ Slc intEnc 1 W W.heap.size A N ∧ Below w.heap.size w W) (fun y _ => N.length - (intOf y).toNat)
  case atStart => exact ⟨0, rfl, Nat.zero_le _, hk, hSl, hB⟩
  case round =>
    clear hk hSl hB
    obtain ⟨W, rfl⟩ : ∃ W : World, W = wr := ⟨_, rfl⟩
    obtain ⟨i, rfl, hi, hk, hSl, hB⟩ := hrel
    by_cases hlt : i < N.length
    · obtain ⟨v, hv⟩ : ∃ v, N[i]? = some v := ⟨_, List.getElem?_eq_getElem hlt⟩
      have HVI := hide hv
      have hv1 := HVB.out i v hv
      have hii : (i : Int) < (N.length : Int) := by omega
      clear hv
      have c0 := hk.cell_ 0 rfl
      have c1 := hk.cell_ 1 rfl
      go_wp2_with fail
      clear c0 c1
      go_loopw [12] (fun y W => ∃ (k : Nat), y = .int .i64 k ∧ k ≤ ns.length ∧ Blk W w.heap.size 25 #[.slice aJ js.length cJ, .slice aN ns.length cN] ∧ Slc intEnc 1 W W.heap.size A N ∧ Below w.heap.size w W) (fun y _ => ns.length - (intOf y).toNat)
      case atStart => exact ⟨0, rfl, Nat.zero_le _, hk, hSl, hB⟩
      case round =>
        clear hk hSl hB
        obtain ⟨W, rfl⟩ : ∃ W : World, W = wr := ⟨_, rfl⟩
        obtain ⟨k, rfl, hkk, hk, hSl, hB⟩ := hrel
        by_cases hkn : k < ns.length
        · have hki : (k : Int) < (ns.length : Int) := by omega
          obtain ⟨v', b, off, hv', hA, _, d9⟩ := ints_at' hSl hlt
          obtain rfl : v' = v := by have h := hv'; rw [HVI.out] at h; injection h with h; exact h.symm
          clear hv'
          subst hA
          by_cases hbr : 0 ≤ v' ∧ v' ≤ (k : Int)
          · obtain ⟨hbr1, hbr2⟩ := hbr
            have c0 := hk.cell_ 0 rfl
            have c1 := hk.cell_ 1 rfl
            go_wp2_with fail
            go_roundw
            case rel => exact ⟨i + 1, by go_num, by omega, hk, hSl, hB⟩
            case measure => simp [intOf]; omega
          · have hvk : v' = -1 ∨ (k : Int) < v' := by omega
            have hne : N ≠ [] := by rintro rfl; simp at hlt
            have hal := (Below.refl W.heap.size W).alloc (Nat.le_refl _) (.cells #[] 3)
            have HSN := hSl
            have HLK := hide (HLS.out i k v' HVI.out hvk)
            have HBR := hide hbr
            have c0 := hk.cell_ 0 rfl
            have c1 := hk.cell_ 1 rfl
            by_cases hv0 : 0 ≤ v'
            · have hvk2 : ¬ v' ≤ (k : Int) := by omega
              clear hvk hbr
              go_upto_region 17 with (at_builtin; refine wpList_app_own _ _ rfl rfl et_ints (Own.empty_ (f := intEnc) (sz := 1) (Blk.new W 3 #[]) (Nat.le_refl W.heap.size)) rfl rfl (HSN.below hal) rfl (fun _ => rfl) intEnc_one (by simp only [List.length_nil, List.nil_append, Nat.zero_add, Nat.mul_one]; omega) hal.size ?_; intro v7 W2 o7 hb7 hgr7; rw [List.nil_append] at o7; obtain ⟨A7, c7, rfl, S7⟩ := o7.form (fun _ => rfl))
              clear c0 c1
              have hb9 := (hal.trans hb7)
              obtain ⟨g, js7, rfl, hge, G6⟩ := own_blk (g := Value.int .i64) o7 hne
              have G7 : Blk W2 g 3 (intJ N js7) := G6
              clear G6
              have HSZ := hide (intJ_lt (l := N) (js := js7) hlt)
              clear HSN hal hb7 hgr7 o7 S7
              go_upto_region 18 with (refine wpList_store_at rfl 3 _ _ rfl (.int .i64 k) G7 rfl rfl (by kernel_rfl) rfl HSZ.out rfl ?_; intro W3 G8 hc8)
              have hbT := hb9.trans (hc8.below1 hb9.size hge)
              rw [intJ_set hlt] at G8
              have S8 := intJ_slc G8
              have hkW := hk.lt
              replace hk := hk.below hbT hkW
              replace hSl := Slc.on hSl hbT
              replace hB := hB.trans (hbT.mono hB.size)
              clear hb9 hge G7 G8 hc8 hbT HSZ d9 hkW
              obtain ⟨W, rfl⟩ : ∃ W : World, W = W3 := ⟨_, rfl⟩
              have hsl : (N.set i (k : Int)).length = N.length := List.length_set
              have hPL := hide (And.intro HLK.out hsl)
              clear HLK hsl
              generalize N.set i (k : Int) = M at *
              have hMl : M.length ≤ 1000 := by have := hPL.out.2; omega
              have c0 := hk.cell_ 0 rfl
              have c1 := hk.cell_ 1 rfl
              go_wp2_with fail
              refine (refNext_any aJ cJ js aN cN ns _ c7 M _ hPL.out.2 (hJ.on hB) (hN.on hB) S8 (by omega) (by omega) (by omega)).mono ?_
              rintro e W ⟨rfl, hb⟩
              clear c0 c1
              replace hk := hk.below hb hk.lt
              replace hSl := Slc.on hSl hb
              replace hB := hB.trans (hb.mono hB.size)
              clear hb
              have c0 := hk.cell_ 0 rfl
              have c1 := hk.cell_ 1 rfl
              rw [hPL.out.1]
              clear S8
              go_wp2_with fail
              go_roundw
              case rel => exact ⟨k + 1, by go_num, by omega, hk, hSl, hB⟩
              case measure => simp [intOf]; omega
            · clear hvk hbr
              go_upto_region 17 with (at_builtin; refine wpList_app_own _ _ rfl rfl et_ints (Own.empty_ (f := intEnc) (sz := 1) (Blk.new W 3 #[]) (Nat.le_refl W.heap.size)) rfl rfl (HSN.below hal) rfl (fun _ => rfl) intEnc_one (by simp only [List.length_nil, List.nil_append, Nat.zero_add, Nat.mul_one]; omega) hal.size ?_; intro v7 W2 o7 hb7 hgr7; rw [List.nil_append] at o7; obtain ⟨A7, c7, rfl, S7⟩ := o7.form (fun _ => rfl))
              clear c0 c1
              have hb9 := (hal.trans hb7)
              obtain ⟨g, js7, rfl, hge, G6⟩ := own_blk (g := Value.int .i64) o7 hne
              have G7 : Blk W2 g 3 (intJ N js7) := G6
              clear G6
              have HSZ := hide (intJ_lt (l := N) (js := js7) hlt)
              clear HSN hal hb7 hgr7 o7 S7
              go_upto_region 18 with (refine wpList_store_at rfl 3 _ _ rfl (.int .i64 k) G7 rfl rfl (by kernel_rfl) rfl HSZ.out rfl ?_; intro W3 G8 hc8)
              have hbT := hb9.trans (hc8.below1 hb9.size hge)
              rw [intJ_set hlt] at G8
              have S8 := intJ_slc G8
              have hkW := hk.lt
              replace hk := hk.below hbT hkW
              replace hSl := Slc.on hSl hbT
              replace hB := hB.trans (hbT.mono hB.size)
              clear hb9 hge G7 G8 hc8 hbT HSZ d9 hkW
              obtain ⟨W, rfl⟩ : ∃ W : World, W = W3 := ⟨_, rfl⟩
              have hsl : (N.set i (k : Int)).length = N.length := List.length_set
              have hPL := hide (And.intro HLK.out hsl)
              clear HLK hsl
              generalize N.set i (k : Int) = M at *
              have hMl : M.length ≤ 1000 := by have := hPL.out.2; omega
              have c0 := hk.cell_ 0 rfl
              have c1 := hk.cell_ 1 rfl
              go_wp2_with fail
              refine (refNext_any aJ cJ js aN cN ns _ c7 M _ hPL.out.2 (hJ.on hB) (hN.on hB) S8 (by omega) (by omega) (by omega)).mono ?_
              rintro e W ⟨rfl, hb⟩
              clear c0 c1
              replace hk := hk.below hb hk.lt
              replace hSl := Slc.on hSl hb
              replace hB := hB.trans (hb.mono hB.size)
              clear hb
              have c0 := hk.cell_ 0 rfl
              have c1 := hk.cell_ 1 rfl
              rw [hPL.out.1]
              clear S8
              go_wp2_with fail
              go_roundw
              case rel => exact ⟨k + 1, by go_num, by omega, hk, hSl, hB⟩
              case measure => simp [intOf]; omega
        · obtain rfl : k = ns.length := by omega
          have c0 := hk.cell_ 0 rfl
          have c1 := hk.cell_ 1 rfl
          go_wp2_with fail
          go_roundw
          case rel => exact ⟨i + 1, by go_num, by omega, hk, hSl, hB⟩
          case measure => simp [intOf]; omega
    · obtain rfl : i = N.length := by omega
      have c0 := hk.cell_ 0 rfl
      have c1 := hk.cell_ 1 rfl
      go_wp2_with fail
      refine (apiPlan_any aJ cJ js aN cN ns _ (hJ.on hB) (hN.on hB) (by omega) (by omega)).mono ?_
      rintro e W ⟨A2, c2, L, E, rfl, hb, hSL, hV⟩
      clear c0 c1
      replace hk := hk.below hb hk.lt
      replace hSl := Slc.on hSl hb
      replace hB := hB.trans (hb.mono hB.size)
      clear hb
      have c0 := hk.cell_ 0 rfl
      have c1 := hk.cell_ 1 rfl
      rcases HPV.out L E hV with ⟨hD, rfl, rfl⟩ | ⟨hD, rfl, rfl⟩
      · have hD' : (D : Int) < (js.length : Int) := by omega
        clear hV hD hSL
        go_wp2_with fail
        refine (awake_any _).mono ?_
        rintro e W ⟨rfl, hb⟩
        clear c0 c1
        replace hk := hk.below hb hk.lt
        replace hSl := Slc.on hSl hb
        replace hB := hB.trans (hb.mono hB.size)
        clear hb
        have c0 := hk.cell_ 0 rfl
        have c1 := hk.cell_ 1 rfl
        go_wp2_with fail
        go_ret
        exact ⟨rfl, hB⟩
      · have hD' : ¬ (D : Int) < (js.length : Int) := by omega
        clear hV hD
        have T1 := hSl
        have T2 := hSL
        clear hSL
        go_wp2_with fail
        refine (same_yes A2 c2 L A c _ _ _ T2 T1 (by omega)).mono ?_
        rintro e W ⟨rfl, hb⟩
        clear c0 c1
        replace hk := hk.below hb hk.lt
        replace hSl := Slc.on hSl hb
        replace hB := hB.trans (hb.mono hB.size)
        clear hb
        have c0 := hk.cell_ 0 rfl
        have c1 := hk.cell_ 1 rfl
        clear T1 T2
        go_wp2_with fail
        refine (awake_any _).mono ?_
        rintro e W ⟨rfl, hb⟩
        clear c0 c1
        replace hk := hk.below hb hk.lt
        replace hSl := Slc.on hSl hb
        replace hB := hB.trans (hb.mono hB.size)
        clear hb
        have c0 := hk.cell_ 0 rfl
        have c1 := hk.cell_ 1 rfl
        go_wp2_with fail
        go_ret
        exact ⟨rfl, hB⟩
end Go.Proofs.Ytfhlopegmfdkpaa
