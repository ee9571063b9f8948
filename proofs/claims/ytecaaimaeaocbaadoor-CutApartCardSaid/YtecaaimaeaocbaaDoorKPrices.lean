/- priced, Dearest, Bound of package cut: the walks. -/
import Derived.Test.YtecaaimaeaocbaaDoorKDear
namespace Go.Proofs.YtecaaimaeaocbaaDoor
open Go Go.RowKit
def pricesB (ps : List Int) : Bool := ps.all fun p => inB 0 p 1000000
def pricedB (l : List Ask) (ps : List Int) : Bool := pricesB ps && decide (ps.length = l.length)
theorem pricedB_iff {l : List Ask} {ps : List Int} : pricedB l ps = true ↔ (∀ p ∈ ps, 0 ≤ p ∧ p ≤ 1000000) ∧ ps.length = l.length := by
  unfold pricedB pricesB
  simp only [Bool.and_eq_true, List.all_eq_true, inB_iff, decide_eq_true_eq]
def dE (L K : Int) (l : List Ask) (ps : List Int) : Int := if validK L K l then (if pricedB l ps then 0 else 2) else 40
def dD (L K : Int) (l : List Ask) (ps : List Int) : Int := if dE L K l ps = 0 then dearF L K l ps else 0
theorem dE_zero {L K : Int} {l : List Ask} {ps : List Int} (h : dE L K l ps = 0) : validK L K l = true ∧ pricedB l ps = true := by
  unfold dE at h
  split at h
  · split at h
    · exact ⟨by assumption, by assumption⟩
    · cases h
  · cases h
def addF (s : Int) (q : Ask × Int) : Int := s + q.1.cnt * q.2
def allTo (l : List Ask) (ps : List Int) (i : Nat) : Int := ((l.zip ps).take i).foldl addF 0
def allF (l : List Ask) (ps : List Int) : Int := allTo l ps l.length
def bB (L K : Int) (l : List Ask) (ps : List Int) : Int := if dE L K l ps = 0 ∧ dD L K l ps ≠ 0 then (allF l ps + dD L K l ps - 1) / dD L K l ps else 0
set_option maxRecDepth 100000 in
set_option maxHeartbeats 1000000 in
theorem priced_any (L K : Int) (A : Option Addr) (c : Nat) (l : List Ask) (AP : Option Addr) (cP : Nat) (ps : List Int) (w : World) (hP : Slc intEnc 1 w w.heap.size AP ps) (hl : ps.length ≤ 100000) :
    Calls Tryd.prog 55 #[.agg #[.int .i64 L, .int .i64 K, .slice A l.length c], .slice AP ps.length cP] w fun e w' => e = .returned (.bool (pricedB l ps)) ∧ Below w.heap.size w w' := by
  have HD : Hid (pricedB l ps = (ps.all (fun p => inB 0 p 1000000) && decide (ps.length = l.length))) := rfl
  have hk := Blk.new w 24 #[.int .i64 L, .int .i64 K, .slice A l.length c]
  have hB := (Below.refl w.heap.size w).alloc (Nat.le_refl _) (.cells #[.int .i64 L, .int .i64 K, .slice A l.length c] 24)
  go_enter Tryd.func55, Tryd.ntmps55
  go_upto_region 1 with fail
  generalize w.alloc (.cells #[.int .i64 L, .int .i64 K, .slice A l.length c] 24) = W at *
  have c0 := hk.cell_ 0 rfl
  have c1 := hk.cell_ 1 rfl
  have c2 := hk.cell_ 2 rfl
  go_wp2_with fail
  clear c0 c1 c2
  go_loopw [9] (fun y W => ∃ (i : Nat), y = .int .i64 i ∧ i ≤ ps.length ∧ Hid ((ps.all fun p => inB 0 p 1000000) = (ps.drop i).all fun p => inB 0 p 1000000) ∧ Blk W w.heap.size 24 #[.int .i64 L, .int .i64 K, .slice A l.length c] ∧ Below w.heap.size w W) (fun y _ => ps.length - (intOf y).toNat)
  case atStart => exact ⟨0, rfl, Nat.zero_le _, hide rfl, hk, hB⟩
  case round =>
    clear hk hB
    obtain ⟨W, rfl⟩ : ∃ W : World, W = wr := ⟨_, rfl⟩
    obtain ⟨i, rfl, hi, HA, hk, hB⟩ := hrel
    by_cases hlt : i < ps.length
    · obtain ⟨p, b, off, hp, hA, _, d0⟩ := ints_at' (hP.below hB) hlt
      have hii : (i : Int) < (ps.length : Int) := by omega
      have HX := hide hp
      clear hp
      subst hA
      have c0 := hk.cell_ 0 rfl
      have c1 := hk.cell_ 1 rfl
      have c2 := hk.cell_ 2 rfl
      cases q1 : inB 0 p 1000000
      case false =>
        have HV : Hid (pricedB l ps = false) := by show _ = _; rw [HD.out, HA.out, all_drop HX.out, q1]; rfl
        go_wp2_with fail
        refine (kwithin_is 0 p 1000000 _ q1).mono ?_
        rintro e W' ⟨rfl, rfl⟩
        clear q1
        go_wp2_with fail
        go_ret
        exact ⟨ret_bool HV.out.symm, hB⟩
      case true =>
        have HA2 : Hid ((ps.all fun p => inB 0 p 1000000) = (ps.drop (i + 1)).all fun p => inB 0 p 1000000) := by show _ = _; rw [HA.out, all_drop HX.out, q1, Bool.true_and]
        go_wp2_with fail
        refine (kwithin_is 0 p 1000000 _ q1).mono ?_
        rintro e W' ⟨rfl, rfl⟩
        clear q1
        go_wp2_with fail
        go_roundw
        case rel => exact ⟨i + 1, by go_num, by omega, HA2, hk, hB⟩
        case measure => simp [intOf]; omega
    · obtain rfl : i = ps.length := by omega
      have HV : Hid (pricedB l ps = decide (ps.length = l.length)) := by show _ = _; rw [HD.out, HA.out, List.drop_length]; rfl
      have c0 := hk.cell_ 0 rfl
      have c1 := hk.cell_ 1 rfl
      have c2 := hk.cell_ 2 rfl
      by_cases hq : ps.length = l.length
      · have hq2 : ((ps.length : Int) == (l.length : Int)) = true := by simp [hq]
        have HV2 : Hid (pricedB l ps = true) := by show _ = _; rw [HV.out]; exact decide_eq_true hq
        clear hq
        go_wp2_with fail
        go_ret
        exact ⟨ret_bool HV2.out.symm, hB⟩
      · have hq2 : ((ps.length : Int) == (l.length : Int)) = false := by simp; omega
        have HV2 : Hid (pricedB l ps = false) := by show _ = _; rw [HV.out]; exact decide_eq_false hq
        clear hq
        go_wp2_with fail
        go_ret
        exact ⟨ret_bool HV2.out.symm, hB⟩
set_option maxRecDepth 100000 in
set_option maxHeartbeats 1000000 in
theorem apiDear_any (L K : Int) (A : Option Addr) (c : Nat) (l : List Ask) (AP : Option Addr) (cP : Nat) (ps : List Int) (w : World) (hS : Slc Ask.enc 2 w w.heap.size A l) (hP : Slc intEnc 1 w w.heap.size AP ps) (hl : ps.length ≤ 100000) :
    Calls Tryd.prog 19 #[.agg #[.int .i64 L, .int .i64 K, .slice A l.length c], .slice AP ps.length cP] w fun e w' => e = .returned (.tuple #[.int .i64 (dD L K l ps), .int .i64 (dE L K l ps)]) ∧ Below w.heap.size w w' := by
  have hk := Blk.new w 24 #[.int .i64 L, .int .i64 K, .slice A l.length c]
  have hB := (Below.refl w.heap.size w).alloc (Nat.le_refl _) (.cells #[.int .i64 L, .int .i64 K, .slice A l.length c] 24)
  go_enter Tryd.func19, Tryd.ntmps19
  go_upto_region 1 with fail
  generalize w.alloc (.cells #[.int .i64 L, .int .i64 K, .slice A l.length c] 24) = W at *
  have c0 := hk.cell_ 0 rfl
  have c1 := hk.cell_ 1 rfl
  have c2 := hk.cell_ 2 rfl
  go_wp2_with fail
  refine (kvalid_any L K A c l _ (hS.on hB)).mono ?_
  rintro e W ⟨rfl, hb⟩
  clear c0 c1 c2
  replace hk := hk.below hb hk.lt
  replace hB := hB.trans (hb.mono hB.size)
  clear hb
  have c0 := hk.cell_ 0 rfl
  have c1 := hk.cell_ 1 rfl
  have c2 := hk.cell_ 2 rfl
  cases hv : validK L K l
  case false =>
    have HE : Hid (dE L K l ps = 40) := by show _ = _; unfold dE; rw [hv]; rfl
    have HV : Hid (dD L K l ps = 0) := by show _ = _; unfold dD; rw [if_neg (by rw [HE.out]; omega)]
    clear hv
    go_wp2_with fail
    go_ret2
    exact ⟨by rw [HE.out, HV.out]; rfl, hB⟩
  have HVK := hide hv
  clear hv
  go_wp2_with fail
  refine (priced_any L K A c l AP cP ps _ (hP.on hB) hl).mono ?_
  rintro e W ⟨rfl, hb⟩
  clear c0 c1 c2
  replace hk := hk.below hb hk.lt
  replace hB := hB.trans (hb.mono hB.size)
  clear hb
  have c0 := hk.cell_ 0 rfl
  have c1 := hk.cell_ 1 rfl
  have c2 := hk.cell_ 2 rfl
  cases hp : pricedB l ps
  case false =>
    have HE : Hid (dE L K l ps = 2) := by show _ = _; unfold dE; rw [HVK.out, hp]; rfl
    have HV : Hid (dD L K l ps = 0) := by show _ = _; unfold dD; rw [if_neg (by rw [HE.out]; omega)]
    clear hp
    go_wp2_with fail
    go_ret2
    exact ⟨by rw [HE.out, HV.out]; rfl, hB⟩
  have HE : Hid (dE L K l ps = 0) := by show _ = _; unfold dE; rw [HVK.out, hp]; rfl
  have HV : Hid (dD L K l ps = dearF L K l ps) := by show _ = _; unfold dD; rw [if_pos HE.out]
  have HPI := hide (pricedB_iff.1 hp)
  clear hp
  go_wp2_with fail
  refine (dearest_any L K A c l AP cP ps _ (hS.on hB) (hP.on hB) (validK_iff.1 HVK.out) HPI.out.2 HPI.out.1).mono ?_
  rintro e W ⟨rfl, hb⟩
  clear c0 c1 c2
  replace hk := hk.below hb hk.lt
  replace hB := hB.trans (hb.mono hB.size)
  clear hb
  have c0 := hk.cell_ 0 rfl
  have c1 := hk.cell_ 1 rfl
  have c2 := hk.cell_ 2 rfl
  go_wp2_with fail
  go_ret2
  exact ⟨by rw [HE.out, HV.out]; rfl, hB⟩
theorem allTo_snoc {l : List Ask} {ps : List Int} {i : Nat} {a : Ask} {p : Int} (ha : l[i]? = some a) (hp : ps[i]? = some p) : allTo l ps (i + 1) = allTo l ps i + a.cnt * p := by
  have h : (l.zip ps)[i]? = some (a, p) := by rw [List.getElem?_zip_eq_some]; exact ⟨ha, hp⟩
  unfold allTo
  rw [List.take_add_one, h, Option.toList_some, List.foldl_append]; rfl
theorem allTo_low {l : List Ask} {ps : List Int} (hl : ∀ a ∈ l, 0 ≤ a.cnt ∧ a.cnt ≤ 50) (hp : ∀ p ∈ ps, 0 ≤ p ∧ p ≤ 1000000) : ∀ i : Nat, 0 ≤ allTo l ps i ∧ allTo l ps i ≤ i * 50000000
  | 0 => by unfold allTo; simp
  | i + 1 => by
    have ih := allTo_low hl hp i
    cases h : (l.zip ps)[i]? with
    | none =>
      have e : allTo l ps (i + 1) = allTo l ps i := by unfold allTo; rw [List.take_add_one, h]; simp
      rw [e]; push_cast; omega
    | some q =>
      obtain ⟨a, p⟩ := q
      obtain ⟨h1, h2⟩ := List.getElem?_zip_eq_some.1 h
      have h1 : l[i]? = some a := h1
      have h2 : ps[i]? = some p := h2
      rw [allTo_snoc h1 h2]
      have h3 := hl a (List.mem_of_getElem? h1)
      have h4 := hp p (List.mem_of_getElem? h2)
      have h5 : 0 ≤ a.cnt * p := Int.mul_nonneg h3.1 h4.1
      have h6 : a.cnt * p ≤ 50 * 1000000 := Int.mul_le_mul h3.2 h4.2 h4.1 (by omega)
      push_cast
      omega
theorem dD_low {L K : Int} {l : List Ask} {ps : List Int} (h : dE L K l ps = 0) : 0 ≤ dD L K l ps ∧ dD L K l ps ≤ 1000000000 := by
  obtain ⟨h1, h2⟩ := dE_zero h
  have hv := validK_iff.1 h1
  have hp := pricedB_iff.1 h2
  have key : ∀ (l : List Ask) (ps b : List Int) (M : Int), 0 ≤ M → Low b M → (∀ a ∈ l, 0 ≤ a.cnt ∧ a.cnt ≤ 50) → (∀ p ∈ ps, 0 ≤ p ∧ p ≤ 1000000) → Low (bestL K l ps b) (M + l.length * 50000000) := fun l => by
    induction l with
    | nil => intro ps b M hM hb _ _; simpa [bestL] using hb
    | cons a l ih =>
      intro ps b M hM hb ha hp
      cases ps with
      | nil => exact fun q v hq => by have := hb q v hq; simp only [List.length_cons]; push_cast; omega
      | cons p ps =>
        have h3 := ha a (by simp)
        have h4 := ih ps _ (M + 50000000) (by omega) (rowK_low (wd := (a.len + K).toNat) (cnt := a.cnt.toNat) hb hM (hp p (by simp)) (by omega)) (fun x hx => ha x (List.mem_cons_of_mem _ hx)) fun x hx => hp x (List.mem_cons_of_mem _ hx)
        refine fun q v hq => ?_
        have := h4 q v hq
        simp only [List.length_cons]
        push_cast
        omega
  have h5 := (key l ps (List.replicate ((L + K).toNat + 1) 0) 0 (by omega) (low_zero _) (fun a ha => (hv.ask a ha).2) hp.1).getD_ (by omega) (L + K).toNat
  have h6 := hv.few
  unfold dD
  rw [if_pos h]
  unfold dearF
  omega
set_option maxRecDepth 100000 in
set_option maxHeartbeats 1000000 in
theorem apiBound_any (L K : Int) (A : Option Addr) (c : Nat) (l : List Ask) (AP : Option Addr) (cP : Nat) (ps : List Int) (w : World) (hS : Slc Ask.enc 2 w w.heap.size A l) (hP : Slc intEnc 1 w w.heap.size AP ps) (hl : ps.length ≤ 100000) :
    Calls Tryd.prog 21 #[.agg #[.int .i64 L, .int .i64 K, .slice A l.length c], .slice AP ps.length cP] w fun e w' => e = .returned (.tuple #[.int .i64 (bB L K l ps), .int .i64 (dE L K l ps)]) ∧ Below w.heap.size w w' := by
  have hk := Blk.new w 24 #[.int .i64 L, .int .i64 K, .slice A l.length c]
  have hB := (Below.refl w.heap.size w).alloc (Nat.le_refl _) (.cells #[.int .i64 L, .int .i64 K, .slice A l.length c] 24)
  go_enter Tryd.func21, Tryd.ntmps21
  go_upto_region 1 with fail
  generalize w.alloc (.cells #[.int .i64 L, .int .i64 K, .slice A l.length c] 24) = W at *
  have c0 := hk.cell_ 0 rfl
  have c1 := hk.cell_ 1 rfl
  have c2 := hk.cell_ 2 rfl
  go_wp2_with fail
  refine (apiDear_any L K A c l AP cP ps _ (hS.on hB) (hP.on hB) hl).mono ?_
  rintro e W ⟨rfl, hb⟩
  clear c0 c1 c2
  replace hk := hk.below hb hk.lt
  replace hB := hB.trans (hb.mono hB.size)
  clear hb
  have c0 := hk.cell_ 0 rfl
  have c1 := hk.cell_ 1 rfl
  have c2 := hk.cell_ 2 rfl
  by_cases he : dE L K l ps = 0
  · have HE := hide he
    by_cases h0 : dD L K l ps = 0
    · have HV : Hid (bB L K l ps = 0) := by show _ = _; unfold bB; rw [if_neg (by rw [h0]; simp)]
      rw [he, h0]
      clear he h0
      go_wp2_with fail
      go_ret2
      exact ⟨by rw [HE.out, HV.out]; rfl, hB⟩
    · have hd1 := dD_low HE.out
      have hd2 : dD L K l ps ≠ 0 := h0
      have HB : Hid (bB L K l ps = (allTo l ps l.length + dD L K l ps - 1) / dD L K l ps) := by show _ = _; unfold bB allF; rw [if_pos ⟨HE.out, hd2⟩]
      obtain ⟨h1, h2⟩ := dE_zero he
      have HVK := hide (validK_iff.1 h1)
      have HPI := hide (pricedB_iff.1 h2)
      have h0' : (dD L K l ps == 0) = false := by simpa using h0
      rw [he]
      clear he h1 h2 h0 hd2
      generalize dD L K l ps = d at *
      have hd0 : ¬ d = 0 := by simpa using h0'
      go_wp2_with fail
      clear c0 c1 c2
      go_loopw [8, 27] (fun x y W => ∃ (i : Nat), x = .int .i64 (allTo l ps i) ∧ y = .int .i64 i ∧ i ≤ l.length ∧ Blk W w.heap.size 24 #[.int .i64 L, .int .i64 K, .slice A l.length c] ∧ Below w.heap.size w W) (fun x y _ => l.length - (intOf y).toNat)
      case atStart => exact ⟨0, rfl, rfl, Nat.zero_le _, hk, hB⟩
      case round =>
        clear hk hB
        obtain ⟨W, rfl⟩ : ∃ W : World, W = wr := ⟨_, rfl⟩
        obtain ⟨i, rfl, rfl, hi, hk, hB⟩ := hrel
        have hsl := allTo_low (fun a ha => (HVK.out.ask a ha).2) HPI.out.1 i
        have hlf := HVK.out.few
        by_cases hlt : i < l.length
        · obtain ⟨⟨ln, cn⟩, b, off, hx, hA, _, d0, d1⟩ := ask_at (hS.below hB) hlt
          obtain ⟨p, bq, offq, hp, hAP, _, hcp⟩ := ints_at' (hP.below hB) (show i < ps.length by rw [HPI.out.2]; exact hlt)
          have hii : (i : Int) < (l.length : Int) := by omega
          have hip : (i : Int) < (ps.length : Int) := by rw [HPI.out.2]; exact hii
          have hxo := (HVK.out.ask _ (List.mem_of_getElem? hx)).2
          have hpo := HPI.out.1 p (List.mem_of_getElem? hp)
          have HS := hide (allTo_snoc hx hp)
          dsimp only at d0 d1 hxo
          obtain ⟨pp, hpp, hpp2⟩ : ∃ pp : Int, cn * p = pp ∧ 0 ≤ pp ∧ pp ≤ 50000000 := by
            refine ⟨_, rfl, Int.mul_nonneg hxo.1 hpo.1, ?_⟩
            calc cn * p ≤ 50 * 1000000 := Int.mul_le_mul hxo.2 hpo.2 hpo.1 (by omega)
              _ ≤ 50000000 := by omega
          have e4 : IntKind.i64.wrap (cn * p) = pp := by rw [hpp]; exact IntWalk.i64_in _ (by omega)
          have HS2 : Hid (allTo l ps (i + 1) = allTo l ps i + pp) := by show _ = _; rw [HS.out, hpp]
          have HP := hide hp
          clear hx hp hpp HS hcp
          subst hA hAP
          generalize allTo l ps i = S at *
          have c0 := hk.cell_ 0 rfl
          have c1 := hk.cell_ 1 rfl
          have c2 := hk.cell_ 2 rfl
          have q_c0 := (hk.alloc (.cells #[.int .i64 ln, .int .i64 cn] 45)).cell_ 0 rfl
          have q_c1 := (hk.alloc (.cells #[.int .i64 ln, .int .i64 cn] 45)).cell_ 1 rfl
          have q_c2 := (hk.alloc (.cells #[.int .i64 ln, .int .i64 cn] 45)).cell_ 2 rfl
          go_upto_region 8 with fail
          clear q_c0 q_c1 q_c2
          clear c0 c1 c2
          have hm := Blk.new W 45 #[.int .i64 ln, .int .i64 cn]
          replace hk := hk.alloc (.cells #[.int .i64 ln, .int .i64 cn] 45)
          have hsz_bx : (W.alloc (.cells #[.int .i64 ln, .int .i64 cn] 45)).heap.size = W.heap.size + 1 := by simp
          have bxge := hB.size
          replace hB := hB.alloc hB.size (.cells #[.int .i64 ln, .int .i64 cn] 45)
          generalize hbx : W.heap.size = bx at *
          generalize W.alloc (.cells #[.int .i64 ln, .int .i64 cn] 45) = W at *
          clear hbx
          have c0 := hk.cell_ 0 rfl
          have c1 := hk.cell_ 1 rfl
          have c2 := hk.cell_ 2 rfl
          have m0 := hm.cell_ 0 rfl
          have m1 := hm.cell_ 1 rfl
          clear d0 d1
          obtain ⟨p', bq', offq', hp', hAP', _, hcp⟩ := ints_at' (hP.below hB) (show i < ps.length by omega)
          obtain ⟨rfl, rfl⟩ : bq = bq' ∧ offq = offq' := by simpa using hAP'
          obtain rfl : p' = p := by have h := HP.out; rw [hp'] at h; injection h
          clear hp' hAP'
          go_wp2_with fail
          refine wp_region_quiet (C := fun w' => ∃ u : Since W, w' = u.w) (by kernel_rfl) (by kernel_rfl) (Since.start W) ?_
          dsimp only
          have y_c0 := Since.cell c0
          have y_c1 := Since.cell c1
          have y_c2 := Since.cell c2
          have y_m0 := Since.cell m0
          have y_m1 := Since.cell m1
          have y_hcp := Since.cell hcp
          clear c0 c1 c2 m0 m1
          repeat (go_big_quiet_step ((fail)))
          refine wpQuiet_nil ?_
          rintro W ⟨⟨_, hb⟩, rfl⟩
          try dsimp only at hb ⊢
          replace hcp : W.cell? _ = _ := y_hcp ⟨W, hb⟩
          clear y_c0 y_c1 y_c2 y_m0 y_m1 y_hcp
          replace hk := hk.below hb hk.lt
          replace hm := hm.below hb hm.lt
          replace hB := hB.trans (hb.mono hB.size)
          clear hb
          have c0 := hk.cell_ 0 rfl
          have c1 := hk.cell_ 1 rfl
          have c2 := hk.cell_ 2 rfl
          have m0 := hm.cell_ 0 rfl
          have m1 := hm.cell_ 1 rfl
          go_wp2_with fail
          go_roundw
          case rel => exact ⟨i + 1, by rw [HS2.out], by go_num, by omega, hk, hB⟩
          case measure => simp [intOf]; omega
        · obtain rfl : i = l.length := by omega
          generalize allTo l ps l.length = S at *
          have e5 : (S + d - 1).tdiv d = (S + d - 1) / d := Int.tdiv_eq_ediv_of_nonneg (by omega)
          have hqb : 0 ≤ (S + d - 1) / d ∧ (S + d - 1) / d ≤ S + d - 1 := ⟨Int.ediv_nonneg (by omega) (by omega), Int.ediv_le_self _ (by omega)⟩
          have e6 : IntKind.i64.wrap ((S + d - 1) / d) = (S + d - 1) / d := IntWalk.i64_in _ (by omega)
          have c0 := hk.cell_ 0 rfl
          have c1 := hk.cell_ 1 rfl
          have c2 := hk.cell_ 2 rfl
          go_wp2_with fail
          go_ret2
          exact ⟨by rw [HE.out, HB.out]; rfl, hB⟩
  · have HV : Hid (bB L K l ps = 0) := by show _ = _; unfold bB; rw [if_neg (fun h => he h.1)]
    have h0' : (dE L K l ps == 0) = false := by simpa using he
    have h1' : (dE L K l ps != 0) = true := by simp [he]
    clear he
    obtain ⟨E, hE⟩ : ∃ E, E = dE L K l ps := ⟨_, rfl⟩
    have HE := hide hE
    rw [← hE] at h0' h1'
    rw [← hE]
    clear hE
    go_wp2_with fail
    go_ret2
    exact ⟨by rw [HV.out, ← HE.out]; rfl, hB⟩
end Go.Proofs.YtecaaimaeaocbaaDoor
