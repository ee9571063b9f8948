/- The reference's Choices; sameInts; Choices: the walks. -/
import Derived.Test.YtfhlopegmfdkpaaNBounds
namespace Go.Proofs.Ytfhlopegmfdkpaa
open Go Go.RowKit
theorem own_belowB {α : Type} {w w' : World} {base B : Nat} {e : TypeId} {sz : Nat} {f : α → List Value} {v : Value} {l : List α} (h : Own w base e sz f v l) (hb : Below B w w') (hlt : ∀ k, v.ownBlock = some k → k < B) : Own w' base e sz f v l := by
  refine ⟨h.1, ?_⟩
  rcases h.2 with h1 | ⟨g, cap, cur, h1, h2, h3, h4⟩
  · exact .inl h1
  · exact .inr ⟨g, cap, cur, h1, h2, (hb.block g (hlt g (by rw [h1]; rfl))).trans h3, h4⟩
theorem own_grown {α : Type} {w w' : World} {base : Nat} {e : TypeId} {sz : Nat} {f : α → List Value} {v u : Value} {l : List α} (h : Own w base e sz f v l) (hg : w.grownBy w' u.ownBlock) (hne : ∀ k, u.ownBlock = some k → v.ownBlock ≠ some k) : Own w' base e sz f v l :=
  World.ownsRow.kept h hg (by
    cases hv : v.ownBlock with
    | none => exact .inl rfl
    | some q => exact .inr fun he => hne q he.symm hv)
/-- rows that the call owns -/
def RowsOwn (w : World) (base : Nat) (ns : List Nit) (js : List Job) (rs : List Rw) : Prop :=
  ∀ (q : Nat) r, rs[q]? = some r → ∃ j, js[q]? = some j ∧ r.2.1 = (chooseF ns j).length ∧ Own w base 3 1 intEnc (rwV r) (chooseF ns j)
theorem RowsOwn.belowB {w w' : World} {base B : Nat} {ns : List Nit} {js : List Job} {rs : List Rw} (h : RowsOwn w base ns js rs) (hb : Below B w w') (hB : w.heap.size ≤ B) : RowsOwn w' base ns js rs := fun q r hr => by
  obtain ⟨j, h1, h2, h3⟩ := h q r hr
  exact ⟨j, h1, h2, own_belowB h3 hb fun k hk => Nat.lt_of_lt_of_le (own_ge h3 k hk).2 hB⟩
def RefChoosePost (ns : List Nit) (js : List Job) (w : World) (e : Ending) (w' : World) : Prop :=
  ∃ A c, ∃ C : List (List Int), e = .returned (.tuple #[.slice A C.length c, .int .i64 (wrongF js ns)]) ∧ Below w.heap.size w w' ∧ NestIn (fun b => b < w'.heap.size) w' A C ∧ C = if wrongF js ns = 0 then chooseL ns js else []
theorem rows_nest_of {w : World} {base : Nat} {ns : List Nit} {js : List Job} {rs : List Rw} {A : Option Addr} (hS : Slc rwEnc 1 w w.heap.size A rs) (hR : RowsOwn w base ns js rs) (hl : rs.length = js.length) : NestIn (fun b => b < w.heap.size) w A (chooseL ns js) := fun i l hi => by
  obtain ⟨j, hj, rfl⟩ := chooseL_get hi
  have hir : i < rs.length := by rw [hl]; exact (List.getElem?_eq_some_iff.1 hj).1
  obtain ⟨j', h1, h2, h3⟩ := hR i rs[i] (List.getElem?_eq_getElem hir)
  rw [hj] at h1
  injection h1 with h1
  subst h1
  obtain ⟨b, off, hA, hb, hc⟩ := hS i _ (List.getElem?_eq_getElem hir)
  have hcell := hc 0 (rwV rs[i]) rfl
  obtain ⟨A', c', hv, hS'⟩ := h3.form fun _ => rfl
  rw [hv, Nat.mul_one, Nat.add_zero] at hcell
  refine ⟨b, off, A', c', hA, hb, hcell, fun k x hx => ?_⟩
  obtain ⟨b', off', g1, g2, g3⟩ := hS' k x hx
  exact ⟨b', off', g1, g2, by simpa using g3 0 (.int .i64 x) rfl⟩
set_option maxRecDepth 100000 in
set_option maxHeartbeats 4000000 in
theorem refChoices_any (AJ : Option Addr) (cJ : Nat) (js : List Job) (AN : Option Addr) (cN : Nat) (ns : List Nit) (w : World) (hJ : Slc Job.enc 8 w w.heap.size AJ js) (hN : Slc Nit.enc 8 w w.heap.size AN ns) (hl1 : js.length ≤ 1000) (hl2 : ns.length ≤ 1000) :
    Calls Try.prog 26 #[.slice AJ js.length cJ, .slice AN ns.length cN] w (RefChoosePost ns js w) := by
  go_enter Try.func26, Try.ntmps26
  go_wp2_with fail
  refine (refWrong_any AJ cJ js AN cN ns w hJ hN hl1 hl2).mono ?_
  rintro e W ⟨rfl, hB⟩
  rcases wrong_cases js ns with h0 | h0 | h0
  · have HV : Hid (([] : List (List Int)) = if wrongF js ns = 0 then chooseL ns js else []) := by show _ = _; rw [if_neg (by omega)]
    have HW := hide h0
    rw [h0]
    clear h0
    go_wp2_with fail
    go_ret2
    exact ⟨none, 0, [], by rw [HW.out]; rfl, hB, fun i l h => (by cases h), HV.out⟩
  · have HV : Hid (([] : List (List Int)) = if wrongF js ns = 0 then chooseL ns js else []) := by show _ = _; rw [if_neg (by omega)]
    have HW := hide h0
    rw [h0]
    clear h0
    go_wp2_with fail
    go_ret2
    exact ⟨none, 0, [], by rw [HW.out]; rfl, hB, fun i l h => (by cases h), HV.out⟩
  · have HW := hide h0
    rw [h0]
    clear h0
    go_wp2_with fail
    have ET : Hid (ElemT Try.prog 26 3 1) := et_ints
    have ER : Hid (ElemT Try.prog 49 26 1) := et_rows
    have hz : w.heap.size ≤ W.heap.size := hB.size
    go_loopw [7, 8] (fun x y W => ∃ (i : Nat) (v : Value) (rs : List Rw), x = v ∧ y = .int .i64 i ∧ i ≤ js.length ∧ rs.length = i ∧ Own W w.heap.size 26 1 rwEnc v rs ∧ Hid (RowsOwn W w.heap.size ns js rs) ∧ Below w.heap.size w W) (fun _ y _ => js.length - (intOf y).toNat)
    case atStart => exact ⟨0, _, [], rfl, rfl, Nat.zero_le _, rfl, Own.nil_, hide fun q r h => (by cases h), hB⟩
    case round =>
      clear hB hz
      obtain ⟨Wo, rfl⟩ : ∃ W : World, W = wr := ⟨_, rfl⟩
      obtain ⟨i, _, rs, rfl, rfl, hi, hrl, hO, HR, hB⟩ := hrel
      obtain ⟨v, rfl⟩ : ∃ v, v = u7 := ⟨_, rfl⟩
      have HRL := hide hrl
      clear hrl
      by_cases hlt : i < js.length
      · obtain ⟨x, hx⟩ : ∃ x, js[i]? = some x := ⟨_, List.getElem?_eq_getElem hlt⟩
        have hji : (i : Int) < (js.length : Int) := by omega
        have HX := hide hx
        have hBb : w.heap.size ≤ Wo.heap.size := hB.size
        have HOB : Hid (∀ W', Below Wo.heap.size Wo W' → Own W' w.heap.size 26 1 rwEnc v rs) := fun W' hb => own_belowB hO hb fun k hk => (own_ge hO k hk).2
        have HRB : Hid (∀ W', Below Wo.heap.size Wo W' → RowsOwn W' w.heap.size ns js rs) := fun W' hb => HR.out.belowB hb (Nat.le_refl _)
        have HB0 := hide hB
        have hbi : Below Wo.heap.size Wo Wo := Below.refl _ _
        clear hx hO HR hB
        go_wp2_with fail
        go_loopw [9, 10] (fun x' y W => ∃ (k : Nat) (lv : Value), x' = lv ∧ y = .int .i64 k ∧ k ≤ ns.length ∧ Own W Wo.heap.size 3 1 intEnc lv (chooseK ns k x) ∧ Below Wo.heap.size Wo W) (fun _ y _ => ns.length - (intOf y).toNat)
        case atStart => exact ⟨0, _, rfl, rfl, Nat.zero_le _, Own.nil_, hbi⟩
        case round =>
          clear hbi
          obtain ⟨W, rfl⟩ : ∃ W : World, W = wr := ⟨_, rfl⟩
          obtain ⟨k, _, rfl, rfl, hk, hOl, hbi⟩ := hrel
          obtain ⟨lv, rfl⟩ : ∃ v, v = u9 := ⟨_, rfl⟩
          have hBB : Below w.heap.size w W := HB0.out.trans (hbi.mono hBb)
          by_cases hltk : k < ns.length
          · obtain ⟨n, b2, off2, hn, hA2, hb2, hcn⟩ := nitc_at (hN.below hBB) hltk
            obtain ⟨x', b, off, hx', hA, hb0, hcx⟩ := job_at (hJ.below hBB) hlt
            have := HX.out
            rw [hx'] at this
            injection this with this
            subst this
            have hki : (k : Int) < (ns.length : Int) := by omega
            have HNN := hide hn
            have d0 := hcn 0 _ rfl
            rw [Nat.add_zero] at d0
            have d1 := hcn 1 _ rfl
            have d2 := hcn 2 _ rfl
            have d3 := hcn 3 _ rfl
            have d4 := hcn 4 _ rfl
            have d5 := hcn 5 _ rfl
            have d6 := hcn 6 _ rfl
            have d7 := hcn 7 _ rfl
            clear hcn
            have e0 := hcx 0 _ rfl
            rw [Nat.add_zero] at e0
            have e1 := hcx 1 _ rfl
            have e2 := hcx 2 _ rfl
            have e3 := hcx 3 _ rfl
            have e4 := hcx 4 _ rfl
            have e5 := hcx 5 _ rfl
            have e6 := hcx 6 _ rfl
            have e7 := hcx 7 _ rfl
            clear hn hx' hcx hBB
            subst hA hA2
            go_wp2_with fail
            refine wp_region_quiet (C := fun w' => ∃ u : Since W, w' = u.w) (by kernel_rfl) (by kernel_rfl) (Since.start W) ?_
            dsimp only
            have y_d0 := Since.cell d0
            have y_d1 := Since.cell d1
            have y_d2 := Since.cell d2
            have y_d3 := Since.cell d3
            have y_d4 := Since.cell d4
            have y_d5 := Since.cell d5
            have y_d6 := Since.cell d6
            have y_d7 := Since.cell d7
            have y_e0 := Since.cell e0
            have y_e1 := Since.cell e1
            have y_e2 := Since.cell e2
            have y_e3 := Since.cell e3
            have y_e4 := Since.cell e4
            have y_e5 := Since.cell e5
            have y_e6 := Since.cell e6
            have y_e7 := Since.cell e7
            repeat (go_big_quiet_step ((go_at_call 51; exact Since.calls (refFits_any x' n _))))
            refine wpQuiet_nil ?_
            rintro W ⟨⟨_, hb⟩, rfl⟩
            try dsimp only at hb ⊢
            replace d0 : W.cell? _ = _ := y_d0 ⟨W, hb⟩
            replace d1 : W.cell? _ = _ := y_d1 ⟨W, hb⟩
            replace d2 : W.cell? _ = _ := y_d2 ⟨W, hb⟩
            replace d3 : W.cell? _ = _ := y_d3 ⟨W, hb⟩
            replace d4 : W.cell? _ = _ := y_d4 ⟨W, hb⟩
            replace d5 : W.cell? _ = _ := y_d5 ⟨W, hb⟩
            replace d6 : W.cell? _ = _ := y_d6 ⟨W, hb⟩
            replace d7 : W.cell? _ = _ := y_d7 ⟨W, hb⟩
            replace e0 : W.cell? _ = _ := y_e0 ⟨W, hb⟩
            replace e1 : W.cell? _ = _ := y_e1 ⟨W, hb⟩
            replace e2 : W.cell? _ = _ := y_e2 ⟨W, hb⟩
            replace e3 : W.cell? _ = _ := y_e3 ⟨W, hb⟩
            replace e4 : W.cell? _ = _ := y_e4 ⟨W, hb⟩
            replace e5 : W.cell? _ = _ := y_e5 ⟨W, hb⟩
            replace e6 : W.cell? _ = _ := y_e6 ⟨W, hb⟩
            replace e7 : W.cell? _ = _ := y_e7 ⟨W, hb⟩
            clear y_d0 y_d1 y_d2 y_d3 y_d4 y_d5 y_d6 y_d7 y_e0 y_e1 y_e2 y_e3 y_e4 y_e5 y_e6 y_e7
            replace hOl := hOl.below hb
            replace hbi := hbi.trans (hb.mono hbi.size)
            clear hb
            clear d0 d1 d2 d3 d4 d5 d6 d7 e0 e1 e2 e3 e4 e5 e6 e7
            have HC := hide (chooseK_succ HNN.out x')
            cases hf : fitsF x' n
            case false =>
              have HC2 : Hid (chooseK ns (k + 1) x' = chooseK ns k x') := by show _ = _; rw [HC.out, hf]; rfl
              clear hf
              go_wp2_with fail
              go_roundw
              case rel => exact ⟨k + 1, lv, rfl, by go_num, by omega, by rw [HC2.out]; exact hOl, hbi⟩
              case measure => simp [intOf]; omega
            case true =>
              have HC2 : Hid (chooseK ns (k + 1) x' = chooseK ns k x' ++ [(k : Int)]) := by show _ = _; rw [HC.out, hf]; rfl
              have hll : (chooseK ns k x').length ≤ 1000000000 := Nat.le_trans (chooseK_le _ _ _) (by omega)
              have hbs := hbi.size
              clear hf
              go_wp2_with (at_builtin; refine wpList_app _ _ rfl rfl ET.out hOl rfl rfl (y := (k : Int)) rfl rfl rfl hll hbs ?_; intro v' W2 hOl2 hb2 hgt2)
              have hbi2 := hbi.trans hb2
              go_roundw
              case rel => exact ⟨k + 1, v', rfl, by go_num, by omega, by rw [HC2.out]; exact hOl2, hbi2⟩
              case measure => simp [intOf]; omega
          · obtain rfl : k = ns.length := by omega
            rw [chooseK_all] at hOl
            have hOb := HOB.out W hbi
            have hRb := HRB.out W hbi
            obtain ⟨A, c, rfl, _⟩ := hOl.form fun _ => rfl
            have hrlen : rs.length ≤ 1000000000 := by rw [HRL.out]; omega
            have hws : w.heap.size ≤ (W.alloc (.cells #[rwV (A, (chooseF ns x).length, c)] 26)).heap.size := by have := hBB.size; simp; omega
            have HHH := hide (And.intro hOl (And.intro hOb (And.intro hRb hBB)))
            clear hRb hOl hBB
            go_wp2_with (at_builtin; refine wpList_app_lies _ _ rfl rfl ER.out (hOb.alloc (.cells #[rwV (A, (chooseF ns x).length, c)] 26)) rfl rfl (y := (A, (chooseF ns x).length, c)) (Blk.new W 26 #[rwV (A, (chooseF ns x).length, c)]) rfl rfl rfl hrlen hws ?_; intro g cap W2 hO2 hgr hfr hglt)
            have hal := hOb.alloc (.cells #[rwV (A, (chooseF ns x).length, c)] 26)
            have hOx : Own W2 w.heap.size 3 1 intEnc (rwV (A, (chooseF ns x).length, c)) (chooseF ns x) := by
              have h1 : Own W w.heap.size 3 1 intEnc (rwV (A, (chooseF ns x).length, c)) (chooseF ns x) := HHH.out.1.mono_base hBb
              have h2 := h1.alloc (.cells #[rwV (A, (chooseF ns x).length, c)] 26)
              exact own_grown h2 hgr (own_ne_own hal h2 (by decide))
            have HR2 : Hid (RowsOwn W2 w.heap.size ns js (rs ++ [(A, (chooseF ns x).length, c)])) := fun q r hr => by
              rcases Nat.lt_or_ge q rs.length with hq | hq
              · rw [List.getElem?_append_left hq] at hr
                obtain ⟨j, h1, h2, h3⟩ := HHH.out.2.2.1 q r hr
                have h4 := h3.alloc (.cells #[rwV (A, (chooseF ns x).length, c)] 26)
                exact ⟨j, h1, h2, own_grown h4 hgr (own_ne_own hal h4 (by decide))⟩
              · rw [List.getElem?_append_right hq] at hr
                have hq2 : q - rs.length = 0 := by
                  have := (List.getElem?_eq_some_iff.1 hr).1
                  simp at this; omega
                rw [hq2] at hr
                simp at hr
                subst hr
                refine ⟨x, ?_, rfl, hOx⟩
                rw [show q = i by rw [HRL.out] at hq hq2; omega]
                exact HX.out
            have hB2 : Below w.heap.size w W2 := (HHH.out.2.2.2.alloc HHH.out.2.2.2.size (.cells #[rwV (A, (chooseF ns x).length, c)] 26)).trans (grownv_below hgr hws fun k hk => (own_ge hal k hk).1)
            clear hOb hal hgr hfr hglt hOx
            go_roundw
            case rel => exact ⟨i + 1, _, rs ++ [(A, (chooseF ns x).length, c)], rfl, by go_num, by omega, by rw [List.length_append, HRL.out]; rfl, hO2, HR2, hB2⟩
            case measure => simp [intOf]; omega
      · obtain rfl : i = js.length := by omega
        obtain ⟨A, c, rfl, hSr⟩ := hO.form rwEnc_len
        have HN2 := hide (rows_nest_of hSr HR.out HRL.out)
        have HL : Hid ((chooseL ns js).length = rs.length) := by show _ = _; rw [HRL.out]; simp [chooseL]
        have HV : Hid (chooseL ns js = if wrongF js ns = 0 then chooseL ns js else []) := by show _ = _; rw [if_pos HW.out]
        clear hO hSr HR
        go_wp2_with fail
        go_ret2
        exact ⟨A, c, chooseL ns js, by rw [HL.out, HW.out]; rfl, hB, HN2.out, HV.out⟩
set_option maxRecDepth 100000 in
set_option maxHeartbeats 1000000 in
theorem apiChoices_any (AJ : Option Addr) (cJ : Nat) (js : List Job) (AN : Option Addr) (cN : Nat) (ns : List Nit) (w : World) (hJ : Slc Job.enc 8 w w.heap.size AJ js) (hN : Slc Nit.enc 8 w w.heap.size AN ns) (hl1 : js.length ≤ 1000) (hl2 : ns.length ≤ 1000) :
    Calls Try.prog 25 #[.slice AJ js.length cJ, .slice AN ns.length cN] w (RefChoosePost ns js w) := by
  go_enter Try.func25, Try.ntmps25
  go_wp2_with fail
  refine (checked_any AJ cJ js AN cN ns w hJ hN hl1 hl2).mono ?_
  rintro e W ⟨rfl, hB⟩
  rcases wrong_cases js ns with h0 | h0 | h0
  · have HV : Hid (([] : List (List Int)) = if wrongF js ns = 0 then chooseL ns js else []) := by show _ = _; rw [if_neg (by omega)]
    have HW := hide h0
    rw [h0]
    clear h0
    go_wp2_with fail
    go_ret2
    exact ⟨none, 0, [], by rw [HW.out]; rfl, hB, fun i l h => (by cases h), HV.out⟩
  · have HV : Hid (([] : List (List Int)) = if wrongF js ns = 0 then chooseL ns js else []) := by show _ = _; rw [if_neg (by omega)]
    have HW := hide h0
    rw [h0]
    clear h0
    go_wp2_with fail
    go_ret2
    exact ⟨none, 0, [], by rw [HW.out]; rfl, hB, fun i l h => (by cases h), HV.out⟩
  · have HW := hide h0
    rw [h0]
    clear h0
    go_wp2_with fail
    refine (choices_any AJ cJ js AN cN ns W ((hJ.below hB).more hB.size) ((hN.below hB).more hB.size) hl1 hl2).mono ?_
    rintro e W2 ⟨A, c, rfl, hB2, hNest⟩
    have HV : Hid (chooseL ns js = if wrongF js ns = 0 then chooseL ns js else []) := by show _ = _; rw [if_pos HW.out]
    have hBB : Below w.heap.size w W2 := hB.trans (hB2.mono hB.size)
    have HN := hide hNest
    clear hNest
    go_wp2_with fail
    go_ret2
    exact ⟨A, c, chooseL ns js, by rw [HW.out]; rfl, hBB, HN.out, HV.out⟩
theorem validApi_any (AJ : Option Addr) (cJ : Nat) (js : List Job) (AN : Option Addr) (cN : Nat) (ns : List Nit) (w : World) (hJ : Slc Job.enc 8 w w.heap.size AJ js) (hN : Slc Nit.enc 8 w w.heap.size AN ns) (hl1 : js.length ≤ 1000) (hl2 : ns.length ≤ 1000) :
    Calls Try.prog 27 #[.slice AJ js.length cJ, .slice AN ns.length cN] w fun e w' => e = .returned (.bool (validB js ns)) ∧ Below w.heap.size w w' := by
  have HV : Hid (validB js ns = decide (wrongF js ns = 0)) := rfl
  go_enter Try.func27, Try.ntmps27
  go_wp2_with fail
  refine (checked_any AJ cJ js AN cN ns w hJ hN hl1 hl2).mono ?_
  rintro e W ⟨rfl, hB⟩
  go_wp2_with fail
  go_ret
  exact ⟨ret_bool (by rw [HV.out]; rfl), hB⟩
/-- the same lists -/
def sameB (a b : List Int) : Bool := decide (a = b)
set_option maxRecDepth 100000 in
set_option maxHeartbeats 1000000 in
theorem same_any (A : Option Addr) (c : Nat) (l : List Int) (A' : Option Addr) (c' : Nat) (m : List Int) (B B' : Nat) (w : World) (hS : Slc intEnc 1 w B A l) (hS' : Slc intEnc 1 w B' A' m) (hl : l.length ≤ 100000) (hm : m.length ≤ 100000) :
    Calls Try.prog 28 #[.slice A l.length c, .slice A' m.length c'] w fun e w' => e = .returned (.bool (sameB l m)) ∧ Below w.heap.size w w' := by
  have HV : Hid (sameB l m = decide (l = m)) := rfl
  have hB := Below.refl w.heap.size w
  obtain ⟨W, hWw⟩ : ∃ W : World, W = w := ⟨_, rfl⟩
  by_cases h : l.length = m.length
  · have HL := hide h
    have h' : ((l.length : Int) == (m.length : Int)) = true := by simp [h]
    go_enter Try.func28, Try.ntmps28
    clear h
    go_wp2_with fail
    go_loopw [5] (fun y W => ∃ (i : Nat), y = .int .i64 i ∧ i ≤ l.length ∧ Hid (∀ j, j < i → l[j]? = m[j]?) ∧ Below w.heap.size w W) (fun y _ => l.length - (intOf y).toNat)
    case atStart => exact ⟨0, rfl, Nat.zero_le _, hide fun j h => absurd h (Nat.not_lt_zero _), hB⟩
    case round =>
      clear hB hWw
      clear W
      obtain ⟨W, rfl⟩ : ∃ W : World, W = wr := ⟨_, rfl⟩
      obtain ⟨i, rfl, hi, HS, hB⟩ := hrel
      by_cases hlt : i < l.length
      · have hltm : i < m.length := by have := HL.out; omega
        obtain ⟨x, b, off, hx, hA, hb, d0⟩ := ints_at' hS hlt
        obtain ⟨y, b1, off1, hy, hA1, hb1, e0⟩ := ints_at' hS' hltm
        have d1 : W.cell? ⟨b, off + i, none⟩ = some (.int .i64 x) := Since.cell d0 ⟨W, hB⟩
        have e1 : W.cell? ⟨b1, off1 + i, none⟩ = some (.int .i64 y) := Since.cell e0 ⟨W, hB⟩
        have hii : (i : Int) < (l.length : Int) := by omega
        have him : (i : Int) < (m.length : Int) := by omega
        have HX := hide (And.intro hx hy)
        clear hx hy d0 e0
        subst hA hA1
        by_cases he : x = y
        · subst he
          have HS2 : Hid (∀ j, j < i + 1 → l[j]? = m[j]?) := fun j hj => by
            by_cases e : j = i
            · subst e; rw [HX.out.1, HX.out.2]
            · exact HS.out j (by omega)
          go_wp2_with fail
          refine wp_region_quiet (C := fun w' => ∃ u : Since W, w' = u.w) (by kernel_rfl) (by kernel_rfl) (Since.start W) ?_
          dsimp only
          have y_d1 := Since.cell d1
          have y_e1 := Since.cell e1
          repeat (go_big_quiet_step ((fail)))
          refine wpQuiet_nil ?_
          rintro W ⟨⟨_, hb⟩, rfl⟩
          try dsimp only at hb ⊢
          replace d1 : W.cell? _ = _ := y_d1 ⟨W, hb⟩
          replace e1 : W.cell? _ = _ := y_e1 ⟨W, hb⟩
          clear y_d1 y_e1
          replace hB := hB.trans (hb.mono hB.size)
          clear hb
          go_wp2_with fail
          go_roundw
          case rel => exact ⟨i + 1, by go_num, by omega, HS2, hB⟩
          case measure => simp [intOf]; omega
        · have he' : (x == y) = false := by simpa using he
          have HNE : Hid (sameB l m = false) := by
            show _ = _
            rw [HV.out, decide_eq_false]
            intro hlm
            have h1 := HX.out.1
            rw [hlm, HX.out.2] at h1
            injection h1 with h1
            exact he h1.symm
          clear he
          go_wp2_with fail
          refine wp_region_quiet (C := fun w' => ∃ u : Since W, w' = u.w) (by kernel_rfl) (by kernel_rfl) (Since.start W) ?_
          dsimp only
          have y_d1 := Since.cell d1
          have y_e1 := Since.cell e1
          repeat (go_big_quiet_step ((fail)))
          refine wpQuiet_nil ?_
          rintro W ⟨⟨_, hb⟩, rfl⟩
          try dsimp only at hb ⊢
          replace d1 : W.cell? _ = _ := y_d1 ⟨W, hb⟩
          replace e1 : W.cell? _ = _ := y_e1 ⟨W, hb⟩
          clear y_d1 y_e1
          replace hB := hB.trans (hb.mono hB.size)
          clear hb
          go_wp2_with fail
          go_ret
          exact ⟨ret_bool HNE.out.symm, hB⟩
      · obtain rfl : i = l.length := by omega
        have HEQ : Hid (sameB l m = true) := by
          show _ = _
          rw [HV.out, decide_eq_true]
          refine List.ext_getElem? fun j => ?_
          rcases Nat.lt_or_ge j l.length with h1 | h1
          · exact HS.out j h1
          · rw [List.getElem?_eq_none h1, List.getElem?_eq_none (by have := HL.out; omega)]
        go_wp2_with fail
        go_ret
        exact ⟨ret_bool HEQ.out.symm, hB⟩
  · have HNE : Hid (sameB l m = false) := by
      show _ = _
      rw [HV.out, decide_eq_false]
      intro hlm
      exact h (by rw [hlm])
    have h' : ((l.length : Int) == (m.length : Int)) = false := by simp; omega
    go_enter Try.func28, Try.ntmps28
    go_wp2_with fail
    go_ret
    exact ⟨ret_bool HNE.out.symm, hB⟩
theorem same_yes (A : Option Addr) (c : Nat) (l : List Int) (A' : Option Addr) (c' : Nat) (B B' : Nat) (w : World) (hS : Slc intEnc 1 w B A l) (hS' : Slc intEnc 1 w B' A' l) (hl : l.length ≤ 100000) :
    Calls Try.prog 28 #[.slice A l.length c, .slice A' l.length c'] w fun e w' => e = .returned (.bool true) ∧ Below w.heap.size w w' := by
  have h := same_any A c l A' c' l B B' w hS hS' hl hl
  rw [show sameB l l = true from decide_eq_true rfl] at h
  exact h
end Go.Proofs.Ytfhlopegmfdkpaa
