/- size, fits, Fits of both texts: the walks. -/
import Derived.Test.YtecaaimaeaocbaaDoorKLaw1
namespace Go.Proofs.YtecaaimaeaocbaaDoor
open Go Go.RowKit
def sizF (K : Int) (s : Int) (q : Ask × Int) : Int := s + q.2 * (q.1.len + K)
def sizeTo (K : Int) (l : List Ask) (ps : List Int) (i : Nat) : Int := ((l.zip ps).take i).foldl (sizF K) 0
def okP (ps : List Int) : Bool := ps.all fun p => inB 0 p 50
def fitsB (L K : Int) (l : List Ask) (ps : List Int) : Bool := okP ps && decide (sizeTo K l ps ps.length ≤ L + K)
theorem okP_iff {ps : List Int} : okP ps = true ↔ ∀ p ∈ ps, 0 ≤ p ∧ p ≤ 50 := by
  unfold okP
  simp only [List.all_eq_true, inB_iff]
theorem sizeTo_snoc {K : Int} {l : List Ask} {ps : List Int} {i : Nat} {a : Ask} {p : Int} (ha : l[i]? = some a) (hp : ps[i]? = some p) : sizeTo K l ps (i + 1) = sizeTo K l ps i + p * (a.len + K) := by
  have h : (l.zip ps)[i]? = some (a, p) := by rw [List.getElem?_zip_eq_some]; exact ⟨ha, hp⟩
  unfold sizeTo
  rw [List.take_add_one, h, Option.toList_some, List.foldl_append]; rfl
theorem term_low {L K p : Int} {l : List Ask} {a : Ask} (hv : VK L K l) (ha : a ∈ l) (hp : 0 ≤ p ∧ p ≤ 50) : 0 ≤ p * (a.len + K) ∧ p * (a.len + K) ≤ 51000 := by
  obtain ⟨h1, h2⟩ := hv.hL
  obtain ⟨h3, h4⟩ := hv.hK
  obtain ⟨h5, _⟩ := hv.ask a ha
  refine ⟨Int.mul_nonneg hp.1 (by omega), ?_⟩
  calc p * (a.len + K) ≤ 50 * 1020 := Int.mul_le_mul hp.2 (by omega) (by omega) (by omega)
    _ ≤ 51000 := by omega
theorem sizeTo_low {L K : Int} {l : List Ask} {ps : List Int} (hv : VK L K l) : ∀ i : Nat, (∀ (j : Nat) p, j < i → ps[j]? = some p → 0 ≤ p ∧ p ≤ 50) → 0 ≤ sizeTo K l ps i ∧ sizeTo K l ps i ≤ i * 51000
  | 0, _ => by unfold sizeTo; simp
  | i + 1, hp => by
    have ih := sizeTo_low hv i fun j p hj => hp j p (by omega)
    cases h : (l.zip ps)[i]? with
    | none =>
      have e : sizeTo K l ps (i + 1) = sizeTo K l ps i := by unfold sizeTo; rw [List.take_add_one, h]; simp
      rw [e]; push_cast; omega
    | some q =>
      obtain ⟨a, p⟩ := q
      obtain ⟨h1, h2⟩ := List.getElem?_zip_eq_some.1 h
      have h1 : l[i]? = some a := h1
      have h2 : ps[i]? = some p := h2
      rw [sizeTo_snoc h1 h2]
      have := term_low hv (List.mem_of_getElem? h1) (hp i p (by omega) h2)
      push_cast
      omega
set_option maxRecDepth 100000 in
set_option maxHeartbeats 1000000 in
theorem size_any (L K : Int) (A : Option Addr) (c : Nat) (l : List Ask) (AP : Option Addr) (cP : Nat) (ps : List Int) (w : World) (hS : Slc Ask.enc 2 w w.heap.size A l) (hP : Slc intEnc 1 w w.heap.size AP ps) (hv : VK L K l) (hpl : ps.length = l.length) (hpb : ∀ p ∈ ps, 0 ≤ p ∧ p ≤ 50) :
    Calls Tryd.prog 88 #[.agg #[.int .i64 L, .int .i64 K, .slice A l.length c], .slice AP ps.length cP] w fun e w' => e = .returned (.int .i64 (sizeTo K l ps ps.length)) ∧ Below w.heap.size w w' := by
  have HVK := hide hv
  have HPI := hide (And.intro hpb hpl)
  obtain ⟨vL, vK, vF, _⟩ := hv
  clear hpl hpb
  have hk := Blk.new w 24 #[.int .i64 L, .int .i64 K, .slice A l.length c]
  have hB := (Below.refl w.heap.size w).alloc (Nat.le_refl _) (.cells #[.int .i64 L, .int .i64 K, .slice A l.length c] 24)
  go_enter Tryd.func88, Tryd.ntmps88
  go_upto_region 1 with fail
  generalize w.alloc (.cells #[.int .i64 L, .int .i64 K, .slice A l.length c] 24) = W at *
  have c0 := hk.cell_ 0 rfl
  have c1 := hk.cell_ 1 rfl
  have c2 := hk.cell_ 2 rfl
  go_wp2_with fail
  clear c0 c1 c2
  go_loopw [5, 10] (fun x y W => ∃ (i : Nat), x = .int .i64 (sizeTo K l ps i) ∧ y = .int .i64 i ∧ i ≤ ps.length ∧ Blk W w.heap.size 24 #[.int .i64 L, .int .i64 K, .slice A l.length c] ∧ Below w.heap.size w W) (fun x y _ => ps.length - (intOf y).toNat)
  case atStart => exact ⟨0, rfl, rfl, Nat.zero_le _, hk, hB⟩
  case round =>
    clear hk hB
    obtain ⟨W, rfl⟩ : ∃ W : World, W = wr := ⟨_, rfl⟩
    obtain ⟨i, rfl, rfl, hi, hk, hB⟩ := hrel
    have hsl := sizeTo_low (ps := ps) HVK.out i fun j p _ hp => HPI.out.1 p (List.mem_of_getElem? hp)
    have hil : i ≤ l.length := by rw [← HPI.out.2]; exact hi
    by_cases hlt : i < ps.length
    · obtain ⟨p, bq, offq, hp, hAP, _, hcp⟩ := ints_at' (hP.below hB) hlt
      have hll : i < l.length := by rw [← HPI.out.2]; exact hlt
      obtain ⟨⟨ln, cn⟩, b, off, hx, hA, _, d0, _⟩ := ask_at (hS.below hB) hll
      have hii : (i : Int) < (l.length : Int) := by omega
      have hip : (i : Int) < (ps.length : Int) := by omega
      have hpo := HPI.out.1 p (List.mem_of_getElem? hp)
      have hxo := HVK.out.ask _ (List.mem_of_getElem? hx)
      have htl := term_low HVK.out (List.mem_of_getElem? hx) hpo
      have HS := hide (sizeTo_snoc (K := K) hx hp)
      dsimp only at d0 hxo htl
      obtain ⟨pp, hpp⟩ : ∃ pp : Int, p * (ln + K) = pp := ⟨_, rfl⟩
      rw [hpp] at htl
      have e4 : IntKind.i64.wrap (p * (ln + K)) = pp := by rw [hpp]; exact IntWalk.i64_in _ (by omega)
      have HS2 : Hid (sizeTo K l ps (i + 1) = sizeTo K l ps i + pp) := by show _ = _; rw [HS.out, hpp]
      clear hx hp hpp HS
      subst hA hAP
      generalize sizeTo K l ps i = S at *
      have c0 := hk.cell_ 0 rfl
      have c1 := hk.cell_ 1 rfl
      have c2 := hk.cell_ 2 rfl
      go_wp2_with fail
      go_wp2_with fail
      refine wp_region_quiet (C := fun w' => ∃ u : Since W, w' = u.w) (by kernel_rfl) (by kernel_rfl) (Since.start W) ?_
      dsimp only
      have y_c0 := Since.cell c0
      have y_c1 := Since.cell c1
      have y_c2 := Since.cell c2
      have y_hcp := Since.cell hcp
      have y_d0 := Since.cell d0
      clear c0 c1 c2
      repeat (go_big_quiet_step ((fail)))
      refine wpQuiet_nil ?_
      rintro W ⟨⟨_, hb⟩, rfl⟩
      try dsimp only at hb ⊢
      replace hcp : W.cell? _ = _ := y_hcp ⟨W, hb⟩
      replace d0 : W.cell? _ = _ := y_d0 ⟨W, hb⟩
      clear y_c0 y_c1 y_c2 y_hcp y_d0
      replace hk := hk.below hb hk.lt
      replace hB := hB.trans (hb.mono hB.size)
      clear hb
      have c0 := hk.cell_ 0 rfl
      have c1 := hk.cell_ 1 rfl
      have c2 := hk.cell_ 2 rfl
      go_wp2_with fail
      go_roundw
      case rel => exact ⟨i + 1, by rw [HS2.out], by go_num, by omega, hk, hB⟩
      case measure => simp [intOf]; omega
    · obtain rfl : i = ps.length := by omega
      have c0 := hk.cell_ 0 rfl
      have c1 := hk.cell_ 1 rfl
      have c2 := hk.cell_ 2 rfl
      go_wp2_with fail
      go_ret
      exact ⟨rfl, hB⟩
theorem size_is (L K : Int) (A : Option Addr) (c : Nat) (l : List Ask) (AP : Option Addr) (cP : Nat) (ps : List Int) (w : World) (hS : Slc Ask.enc 2 w w.heap.size A l) (hP : Slc intEnc 1 w w.heap.size AP ps) (hv : VK L K l) (hpl : ps.length = l.length) (hpb : ∀ p ∈ ps, 0 ≤ p ∧ p ≤ 50) {v : Int} (h : sizeTo K l ps ps.length = v) :
    Calls Tryd.prog 88 #[.agg #[.int .i64 L, .int .i64 K, .slice A l.length c], .slice AP ps.length cP] w fun e w' => e = .returned (.int .i64 v) ∧ Below w.heap.size w w' := by
  subst h; exact size_any L K A c l AP cP ps w hS hP hv hpl hpb
set_option maxRecDepth 100000 in
set_option maxHeartbeats 1000000 in
theorem kfits_any (L K : Int) (A : Option Addr) (c : Nat) (l : List Ask) (AP : Option Addr) (cP : Nat) (ps : List Int) (w : World) (hS : Slc Ask.enc 2 w w.heap.size A l) (hP : Slc intEnc 1 w w.heap.size AP ps) (hv : VK L K l) (hpl : ps.length = l.length) :
    Calls Tryd.prog 58 #[.agg #[.int .i64 L, .int .i64 K, .slice A l.length c], .slice AP ps.length cP] w fun e w' => e = .returned (.bool (fitsB L K l ps)) ∧ Below w.heap.size w w' := by
  have HVK := hide hv
  have HPL := hide hpl
  have HD : Hid (fitsB L K l ps = (okP ps && decide (sizeTo K l ps ps.length ≤ L + K))) := rfl
  obtain ⟨vL, vK, vF, _⟩ := hv
  have hp8 : ps.length ≤ 8 := by omega
  clear hpl
  have hk := Blk.new w 24 #[.int .i64 L, .int .i64 K, .slice A l.length c]
  have hB := (Below.refl w.heap.size w).alloc (Nat.le_refl _) (.cells #[.int .i64 L, .int .i64 K, .slice A l.length c] 24)
  go_enter Tryd.func58, Tryd.ntmps58
  go_upto_region 1 with fail
  generalize w.alloc (.cells #[.int .i64 L, .int .i64 K, .slice A l.length c] 24) = W at *
  have c0 := hk.cell_ 0 rfl
  have c1 := hk.cell_ 1 rfl
  have c2 := hk.cell_ 2 rfl
  go_wp2_with fail
  clear c0 c1 c2
  go_loopw [9] (fun y W => ∃ (i : Nat), y = .int .i64 i ∧ i ≤ ps.length ∧ Hid (okP ps = (ps.drop i).all fun p => inB 0 p 50) ∧ Blk W w.heap.size 24 #[.int .i64 L, .int .i64 K, .slice A l.length c] ∧ Below w.heap.size w W) (fun y _ => ps.length - (intOf y).toNat)
  case atStart => exact ⟨0, rfl, Nat.zero_le _, hide rfl, hk, hB⟩
  case round =>
    clear hk hB
    obtain ⟨W, rfl⟩ : ∃ W : World, W = wr := ⟨_, rfl⟩
    obtain ⟨i, rfl, hi, HA, hk, hB⟩ := hrel
    by_cases hlt : i < ps.length
    · obtain ⟨p, b, off, hp, hA, _, d0⟩ := ints_at' (hP.below hB) hlt
      have hii : (i : Int) < (ps.length : Int) := by omega
      have HX := hide hp
      clear hp
      subst hA
      have c0 := hk.cell_ 0 rfl
      have c1 := hk.cell_ 1 rfl
      have c2 := hk.cell_ 2 rfl
      cases q1 : inB 0 p 50
      case false =>
        have HV : Hid (fitsB L K l ps = false) := by show _ = _; rw [HD.out, HA.out, all_drop HX.out, q1]; rfl
        go_wp2_with fail
        refine (kwithin_is 0 p 50 _ q1).mono ?_
        rintro e W' ⟨rfl, rfl⟩
        clear q1
        go_wp2_with fail
        go_ret
        exact ⟨ret_bool HV.out.symm, hB⟩
      case true =>
        have HA2 : Hid (okP ps = (ps.drop (i + 1)).all fun p => inB 0 p 50) := by show _ = _; rw [HA.out, all_drop HX.out, q1, Bool.true_and]
        go_wp2_with fail
        refine (kwithin_is 0 p 50 _ q1).mono ?_
        rintro e W' ⟨rfl, rfl⟩
        clear q1
        go_wp2_with fail
        go_roundw
        case rel => exact ⟨i + 1, by go_num, by omega, HA2, hk, hB⟩
        case measure => simp [intOf]; omega
    · obtain rfl : i = ps.length := by omega
      have hok : okP ps = true := by rw [HA.out, List.drop_length]; rfl
      have HPB := hide (okP_iff.1 hok)
      have HV : Hid (fitsB L K l ps = decide (sizeTo K l ps ps.length ≤ L + K)) := by show _ = _; rw [HD.out, hok]; rfl
      obtain ⟨S, hS9⟩ : ∃ S, sizeTo K l ps ps.length = S := ⟨_, rfl⟩
      have HS9 := hide hS9
      have HV2 : Hid (fitsB L K l ps = decide (S ≤ L + K)) := by show _ = _; rw [HV.out, hS9]
      have T1 := hide (hS.on hB)
      have T2 := hide (hP.on hB)
      clear hok hS9 HA HV
      have c0 := hk.cell_ 0 rfl
      have c1 := hk.cell_ 1 rfl
      have c2 := hk.cell_ 2 rfl
      go_wp2_with fail
      refine wp_region_quiet (C := fun w' => ∃ u : Since W, w' = u.w) (by kernel_rfl) (by kernel_rfl) (Since.start W) ?_
      dsimp only
      have y_c0 := Since.cell c0
      have y_c1 := Since.cell c1
      have y_c2 := Since.cell c2
      clear c0 c1 c2
      repeat (go_big_quiet_step ((go_at_call 88; exact Since.calls (size_is L K A c l AP cP ps _ (Slc.on T1.out (Since.h _)) (Slc.on T2.out (Since.h _)) HVK.out HPL.out HPB.out HS9.out))))
      refine wpQuiet_nil ?_
      rintro W ⟨⟨_, hb⟩, rfl⟩
      try dsimp only at hb ⊢
      clear y_c0 y_c1 y_c2
      replace hk := hk.below hb hk.lt
      replace hB := hB.trans (hb.mono hB.size)
      clear hb
      have c0 := hk.cell_ 0 rfl
      have c1 := hk.cell_ 1 rfl
      have c2 := hk.cell_ 2 rfl
      go_wp2_with fail
      go_ret
      exact ⟨ret_bool HV2.out.symm, hB⟩
set_option maxRecDepth 100000 in
set_option maxHeartbeats 1000000 in
theorem refKFits_any (L K : Int) (A : Option Addr) (c : Nat) (l : List Ask) (AP : Option Addr) (cP : Nat) (ps : List Int) (w : World) (hS : Slc Ask.enc 2 w w.heap.size A l) (hP : Slc intEnc 1 w w.heap.size AP ps) (hv : VK L K l) (hpl : ps.length = l.length) :
    Calls Tryd.prog 59 #[.agg #[.int .i64 L, .int .i64 K, .slice A l.length c], .slice AP ps.length cP] w fun e w' => e = .returned (.bool (fitsB L K l ps)) ∧ Below w.heap.size w w' := by
  have HVK := hide hv
  have HPL := hide hpl
  have HD : Hid (fitsB L K l ps = (okP ps && decide (sizeTo K l ps ps.length ≤ L + K))) := rfl
  obtain ⟨vL, vK, vF, _⟩ := hv
  have hp8 : ps.length ≤ 8 := by omega
  clear hpl
  have hk := Blk.new w 24 #[.int .i64 L, .int .i64 K, .slice A l.length c]
  have hB := (Below.refl w.heap.size w).alloc (Nat.le_refl _) (.cells #[.int .i64 L, .int .i64 K, .slice A l.length c] 24)
  go_enter Tryd.func59, Tryd.ntmps59
  go_upto_region 1 with fail
  generalize w.alloc (.cells #[.int .i64 L, .int .i64 K, .slice A l.length c] 24) = W at *
  have c0 := hk.cell_ 0 rfl
  have c1 := hk.cell_ 1 rfl
  have c2 := hk.cell_ 2 rfl
  go_wp2_with fail
  clear c0 c1 c2
  go_loopw [5, 6] (fun x y W => ∃ (i : Nat), x = .int .i64 (sizeTo K l ps i) ∧ y = .int .i64 i ∧ i ≤ ps.length ∧ Hid (okP ps = (ps.drop i).all fun p => inB 0 p 50) ∧ Hid (∀ (j : Nat) p, j < i → ps[j]? = some p → 0 ≤ p ∧ p ≤ 50) ∧ Blk W w.heap.size 24 #[.int .i64 L, .int .i64 K, .slice A l.length c] ∧ Below w.heap.size w W) (fun x y _ => ps.length - (intOf y).toNat)
  case atStart => exact ⟨0, rfl, rfl, Nat.zero_le _, hide rfl, hide fun j p hj => absurd hj (Nat.not_lt_zero _), hk, hB⟩
  case round =>
    clear hk hB
    obtain ⟨W, rfl⟩ : ∃ W : World, W = wr := ⟨_, rfl⟩
    obtain ⟨i, rfl, rfl, hi, HA, HJ, hk, hB⟩ := hrel
    have hsl := sizeTo_low (ps := ps) HVK.out i HJ.out
    by_cases hlt : i < ps.length
    · obtain ⟨p, bq, offq, hp, hAP, _, hcp⟩ := ints_at' (hP.below hB) hlt
      have hip : (i : Int) < (ps.length : Int) := by omega
      have HX := hide hp
      clear hp
      subst hAP
      have c0 := hk.cell_ 0 rfl
      have c1 := hk.cell_ 1 rfl
      have c2 := hk.cell_ 2 rfl
      cases q1 : inB 0 p 50
      case false =>
        have HV : Hid (fitsB L K l ps = false) := by show _ = _; rw [HD.out, HA.out, all_drop HX.out, q1]; rfl
        generalize sizeTo K l ps i = S at *
        go_wp2_with fail
        refine (kfrom_is 0 p 50 _ q1).mono ?_
        rintro e W' ⟨rfl, rfl⟩
        clear q1
        go_wp2_with fail
        go_ret
        exact ⟨ret_bool HV.out.symm, hB⟩
      case true =>
        have hpo := inB_iff.1 q1
        have HA2 : Hid (okP ps = (ps.drop (i + 1)).all fun p => inB 0 p 50) := by show _ = _; rw [HA.out, all_drop HX.out, q1, Bool.true_and]
        have HJ2 : Hid (∀ (j : Nat) p, j < i + 1 → ps[j]? = some p → 0 ≤ p ∧ p ≤ 50) := fun j p' hj hp' => by
          rcases Nat.lt_or_ge j i with h | h
          · exact HJ.out j p' h hp'
          · obtain rfl : j = i := by omega
            rw [HX.out] at hp'
            injection hp' with hp'
            subst hp'; exact hpo
        have hll : i < l.length := by rw [← HPL.out]; exact hlt
        obtain ⟨⟨ln, cn⟩, b, off, hx, hA, _, d0, _⟩ := ask_at (hS.below hB) hll
        have hii : (i : Int) < (l.length : Int) := by omega
        have hxo := HVK.out.ask _ (List.mem_of_getElem? hx)
        have htl := term_low HVK.out (List.mem_of_getElem? hx) hpo
        have HS := hide (sizeTo_snoc (K := K) hx HX.out)
        dsimp only at d0 hxo htl
        obtain ⟨pp, hpp⟩ : ∃ pp : Int, p * (ln + K) = pp := ⟨_, rfl⟩
        rw [hpp] at htl
        have e4 : IntKind.i64.wrap (p * (ln + K)) = pp := by rw [hpp]; exact IntWalk.i64_in _ (by omega)
        have HS2 : Hid (sizeTo K l ps (i + 1) = sizeTo K l ps i + pp) := by show _ = _; rw [HS.out, hpp]
        clear hx hpp HS
        subst hA
        generalize sizeTo K l ps i = S at *
        go_wp2_with fail
        refine (kfrom_is 0 p 50 _ q1).mono ?_
        rintro e W' ⟨rfl, rfl⟩
        clear q1
        go_wp2_with fail
        refine wp_region_quiet (C := fun w' => ∃ u : Since W, w' = u.w) (by kernel_rfl) (by kernel_rfl) (Since.start W) ?_
        dsimp only
        have y_c0 := Since.cell c0
        have y_c1 := Since.cell c1
        have y_c2 := Since.cell c2
        have y_hcp := Since.cell hcp
        have y_d0 := Since.cell d0
        clear c0 c1 c2
        repeat (go_big_quiet_step ((fail)))
        refine wpQuiet_nil ?_
        rintro W ⟨⟨_, hb⟩, rfl⟩
        try dsimp only at hb ⊢
        replace hcp : W.cell? _ = _ := y_hcp ⟨W, hb⟩
        replace d0 : W.cell? _ = _ := y_d0 ⟨W, hb⟩
        clear y_c0 y_c1 y_c2 y_hcp y_d0
        replace hk := hk.below hb hk.lt
        replace hB := hB.trans (hb.mono hB.size)
        clear hb
        have c0 := hk.cell_ 0 rfl
        have c1 := hk.cell_ 1 rfl
        have c2 := hk.cell_ 2 rfl
        go_wp2_with fail
        go_roundw
        case rel => exact ⟨i + 1, by rw [HS2.out], by go_num, by omega, HA2, HJ2, hk, hB⟩
        case measure => simp [intOf]; omega
    · obtain rfl : i = ps.length := by omega
      have hok : okP ps = true := by rw [HA.out, List.drop_length]; rfl
      have HV : Hid (fitsB L K l ps = decide (sizeTo K l ps ps.length ≤ L + K)) := by show _ = _; rw [HD.out, hok]; rfl
      clear hok
      generalize sizeTo K l ps ps.length = S at *
      have c0 := hk.cell_ 0 rfl
      have c1 := hk.cell_ 1 rfl
      have c2 := hk.cell_ 2 rfl
      go_wp2_with fail
      go_ret
      exact ⟨ret_bool HV.out.symm, hB⟩
def fE (L K : Int) (l : List Ask) (ps : List Int) : Int := if validK L K l then (if ps.length = l.length then 0 else 2) else 40
def fB (L K : Int) (l : List Ask) (ps : List Int) : Bool := if fE L K l ps = 0 then fitsB L K l ps else false
set_option maxRecDepth 100000 in
set_option maxHeartbeats 1000000 in
theorem apiFits_any (L K : Int) (A : Option Addr) (c : Nat) (l : List Ask) (AP : Option Addr) (cP : Nat) (ps : List Int) (w : World) (hS : Slc Ask.enc 2 w w.heap.size A l) (hP : Slc intEnc 1 w w.heap.size AP ps) :
    Calls Tryd.prog 23 #[.agg #[.int .i64 L, .int .i64 K, .slice A l.length c], .slice AP ps.length cP] w fun e w' => e = .returned (.tuple #[.bool (fB L K l ps), .int .i64 (fE L K l ps)]) ∧ Below w.heap.size w w' := by
  have hk := Blk.new w 24 #[.int .i64 L, .int .i64 K, .slice A l.length c]
  have hB := (Below.refl w.heap.size w).alloc (Nat.le_refl _) (.cells #[.int .i64 L, .int .i64 K, .slice A l.length c] 24)
  go_enter Tryd.func23, Tryd.ntmps23
  go_upto_region 1 with fail
  generalize w.alloc (.cells #[.int .i64 L, .int .i64 K, .slice A l.length c] 24) = W at *
  have c0 := hk.cell_ 0 rfl
  have c1 := hk.cell_ 1 rfl
  have c2 := hk.cell_ 2 rfl
  go_wp2_with fail
  refine (kvalid_any L K A c l _ (hS.on hB)).mono ?_
  rintro e W ⟨rfl, hb⟩
  clear c0 c1 c2
  replace hk := hk.below hb hk.lt
  replace hB := hB.trans (hb.mono hB.size)
  clear hb
  have c0 := hk.cell_ 0 rfl
  have c1 := hk.cell_ 1 rfl
  have c2 := hk.cell_ 2 rfl
  cases hv : validK L K l
  case false =>
    have HE : Hid (fE L K l ps = 40) := by show _ = _; unfold fE; rw [hv]; rfl
    have HV : Hid (fB L K l ps = false) := by show _ = _; unfold fB; rw [if_neg (by rw [HE.out]; omega)]
    clear hv
    go_wp2_with fail
    go_ret2
    exact ⟨by rw [HE.out, HV.out]; rfl, hB⟩
  by_cases hq : ps.length = l.length
  · have HE : Hid (fE L K l ps = 0) := by show _ = _; unfold fE; rw [hv, if_pos hq]; rfl
    have HV : Hid (fB L K l ps = fitsB L K l ps) := by show _ = _; unfold fB; rw [if_pos HE.out]
    have HVK := hide (validK_iff.1 hv)
    have HQ := hide hq
    have hq3 : ((ps.length : Int) != (l.length : Int)) = false := by simp [hq]
    have hq2 : ((ps.length : Int) == (l.length : Int)) = true := by simp [hq]
    clear hv hq
    go_wp2_with fail
    refine (kfits_any L K A c l AP cP ps _ (hS.on hB) (hP.on hB) HVK.out HQ.out).mono ?_
    rintro e W ⟨rfl, hb⟩
    clear c0 c1 c2
    replace hk := hk.below hb hk.lt
    replace hB := hB.trans (hb.mono hB.size)
    clear hb
    have c0 := hk.cell_ 0 rfl
    have c1 := hk.cell_ 1 rfl
    have c2 := hk.cell_ 2 rfl
    go_wp2_with fail
    go_ret2
    exact ⟨by rw [HE.out, HV.out]; rfl, hB⟩
  · have HE : Hid (fE L K l ps = 2) := by show _ = _; unfold fE; rw [hv, if_neg hq]; rfl
    have HV : Hid (fB L K l ps = false) := by show _ = _; unfold fB; rw [if_neg (by rw [HE.out]; omega)]
    have hq3 : ((ps.length : Int) != (l.length : Int)) = true := by simp; omega
    have hq2 : ((ps.length : Int) == (l.length : Int)) = false := by simp; omega
    clear hv hq
    go_wp2_with fail
    go_ret2
    exact ⟨by rw [HE.out, HV.out]; rfl, hB⟩
set_option maxRecDepth 100000 in
set_option maxHeartbeats 1000000 in
theorem refApiFits_any (L K : Int) (A : Option Addr) (c : Nat) (l : List Ask) (AP : Option Addr) (cP : Nat) (ps : List Int) (w : World) (hS : Slc Ask.enc 2 w w.heap.size A l) (hP : Slc intEnc 1 w w.heap.size AP ps) :
    Calls Tryd.prog 24 #[.agg #[.int .i64 L, .int .i64 K, .slice A l.length c], .slice AP ps.length cP] w fun e w' => e = .returned (.tuple #[.bool (fB L K l ps), .int .i64 (fE L K l ps)]) ∧ Below w.heap.size w w' := by
  have hk := Blk.new w 24 #[.int .i64 L, .int .i64 K, .slice A l.length c]
  have hB := (Below.refl w.heap.size w).alloc (Nat.le_refl _) (.cells #[.int .i64 L, .int .i64 K, .slice A l.length c] 24)
  go_enter Tryd.func24, Tryd.ntmps24
  go_upto_region 1 with fail
  generalize w.alloc (.cells #[.int .i64 L, .int .i64 K, .slice A l.length c] 24) = W at *
  have c0 := hk.cell_ 0 rfl
  have c1 := hk.cell_ 1 rfl
  have c2 := hk.cell_ 2 rfl
  go_wp2_with fail
  refine (refKValid_any L K A c l _ (hS.on hB)).mono ?_
  rintro e W ⟨rfl, hb⟩
  clear c0 c1 c2
  replace hk := hk.below hb hk.lt
  replace hB := hB.trans (hb.mono hB.size)
  clear hb
  have c0 := hk.cell_ 0 rfl
  have c1 := hk.cell_ 1 rfl
  have c2 := hk.cell_ 2 rfl
  cases hv : validK L K l
  case false =>
    have HE : Hid (fE L K l ps = 40) := by show _ = _; unfold fE; rw [hv]; rfl
    have HV : Hid (fB L K l ps = false) := by show _ = _; unfold fB; rw [if_neg (by rw [HE.out]; omega)]
    clear hv
    go_wp2_with fail
    go_ret2
    exact ⟨by rw [HE.out, HV.out]; rfl, hB⟩
  by_cases hq : ps.length = l.length
  · have HE : Hid (fE L K l ps = 0) := by show _ = _; unfold fE; rw [hv, if_pos hq]; rfl
    have HV : Hid (fB L K l ps = fitsB L K l ps) := by show _ = _; unfold fB; rw [if_pos HE.out]
    have HVK := hide (validK_iff.1 hv)
    have HQ := hide hq
    have hq3 : ((ps.length : Int) != (l.length : Int)) = false := by simp [hq]
    have hq2 : ((ps.length : Int) == (l.length : Int)) = true := by simp [hq]
    clear hv hq
    go_wp2_with fail
    refine (refKFits_any L K A c l AP cP ps _ (hS.on hB) (hP.on hB) HVK.out HQ.out).mono ?_
    rintro e W ⟨rfl, hb⟩
    clear c0 c1 c2
    replace hk := hk.below hb hk.lt
    replace hB := hB.trans (hb.mono hB.size)
    clear hb
    have c0 := hk.cell_ 0 rfl
    have c1 := hk.cell_ 1 rfl
    have c2 := hk.cell_ 2 rfl
    go_wp2_with fail
    go_ret2
    exact ⟨by rw [HE.out, HV.out]; rfl, hB⟩
  · have HE : Hid (fE L K l ps = 2) := by show _ = _; unfold fE; rw [hv, if_neg hq]; rfl
    have HV : Hid (fB L K l ps = false) := by show _ = _; unfold fB; rw [if_neg (by rw [HE.out]; omega)]
    have hq3 : ((ps.length : Int) != (l.length : Int)) = true := by simp; omega
    have hq2 : ((ps.length : Int) == (l.length : Int)) = false := by simp; omega
    clear hv hq
    go_wp2_with fail
    go_ret2
    exact ⟨by rw [HE.out, HV.out]; rfl, hB⟩
theorem kvalid_is (L K : Int) (A : Option Addr) (c : Nat) (l : List Ask) (w : World) (hS : Slc Ask.enc 2 w w.heap.size A l) {v : Bool} (h : validK L K l = v) :
    Calls Tryd.prog 25 #[.agg #[.int .i64 L, .int .i64 K, .slice A l.length c]] w fun e w' => e = .returned (.bool v) ∧ Below w.heap.size w w' := by
  subst h; exact kvalid_any L K A c l w hS
theorem refKValid_is (L K : Int) (A : Option Addr) (c : Nat) (l : List Ask) (w : World) (hS : Slc Ask.enc 2 w w.heap.size A l) {v : Bool} (h : validK L K l = v) :
    Calls Tryd.prog 26 #[.agg #[.int .i64 L, .int .i64 K, .slice A l.length c]] w fun e w' => e = .returned (.bool v) ∧ Below w.heap.size w w' := by
  subst h; exact refKValid_any L K A c l w hS
set_option maxRecDepth 100000 in
set_option maxHeartbeats 2000000 in
theorem fits_walk (L K : Int) (A : Option Addr) (c : Nat) (l : List Ask) (AP : Option Addr) (cP : Nat) (ps : List Int) (w : World) (hS : Slc Ask.enc 2 w w.heap.size A l) (hP : Slc intEnc 1 w w.heap.size AP ps) (hl : l.length ≤ maxLen) (hl2 : ps.length ≤ maxLen) :
    Calls Tryd.prog 4 #[.agg #[.int .i64 L, .int .i64 K, .slice A l.length c], .slice AP ps.length cP] w fun e w' => e = .returned (.bool true) ∧ Below w.heap.size w w' := by
  have hk := Blk.new w 24 #[.int .i64 L, .int .i64 K, .slice A l.length c]
  have hB := (Below.refl w.heap.size w).alloc (Nat.le_refl _) (.cells #[.int .i64 L, .int .i64 K, .slice A l.length c] 24)
  go_enter Tryd.func4, Tryd.ntmps4
  go_upto_region 1 with fail
  generalize w.alloc (.cells #[.int .i64 L, .int .i64 K, .slice A l.length c] 24) = W at *
  have c0 := hk.cell_ 0 rfl
  have c1 := hk.cell_ 1 rfl
  have c2 := hk.cell_ 2 rfl
  go_wp2_with fail
  refine (wideNil_any L K A c l _ hl).mono ?_
  rintro e W ⟨rfl, hb⟩
  clear c0 c1 c2
  replace hk := hk.below hb hk.lt
  replace hB := hB.trans (hb.mono hB.size)
  clear hb
  have c0 := hk.cell_ 0 rfl
  have c1 := hk.cell_ 1 rfl
  have c2 := hk.cell_ 2 rfl
  cases hw : decide (30 < l.length)
  case true =>
    clear hw
    go_wp2_with fail
    refine (kawake_any _).mono ?_
    rintro e W ⟨rfl, hb⟩
    clear c0 c1 c2
    replace hk := hk.below hb hk.lt
    replace hB := hB.trans (hb.mono hB.size)
    clear hb
    have c0 := hk.cell_ 0 rfl
    have c1 := hk.cell_ 1 rfl
    have c2 := hk.cell_ 2 rfl
    go_wp2_with fail
    go_ret
    exact ⟨rfl, hB⟩
  clear hw hl
  unfold maxLen at hl2
  by_cases hp : (30 : Int) < (ps.length : Int)
  · go_wp2_with fail
    refine (kawake_any _).mono ?_
    rintro e W ⟨rfl, hb⟩
    clear c0 c1 c2
    replace hk := hk.below hb hk.lt
    replace hB := hB.trans (hb.mono hB.size)
    clear hb
    have c0 := hk.cell_ 0 rfl
    have c1 := hk.cell_ 1 rfl
    have c2 := hk.cell_ 2 rfl
    go_wp2_with fail
    go_ret
    exact ⟨rfl, hB⟩
  go_wp2_with fail
  refine (apiFits_any L K A c l AP cP ps _ (hS.on hB) (hP.on hB)).mono ?_
  rintro e W ⟨rfl, hb⟩
  clear c0 c1 c2
  replace hk := hk.below hb hk.lt
  replace hB := hB.trans (hb.mono hB.size)
  clear hb
  have c0 := hk.cell_ 0 rfl
  have c1 := hk.cell_ 1 rfl
  have c2 := hk.cell_ 2 rfl
  go_wp2_with fail
  refine (refApiFits_any L K A c l AP cP ps _ (hS.on hB) (hP.on hB)).mono ?_
  rintro e W ⟨rfl, hb⟩
  clear c0 c1 c2
  replace hk := hk.below hb hk.lt
  replace hB := hB.trans (hb.mono hB.size)
  clear hb
  have c0 := hk.cell_ 0 rfl
  have c1 := hk.cell_ 1 rfl
  have c2 := hk.cell_ 2 rfl
  generalize fB L K l ps = d at *
  generalize fE L K l ps = E at *
  obtain ⟨v, hv⟩ : ∃ v, validK L K l = v := ⟨_, rfl⟩
  have HV := hide hv
  have T1 := hide (hS.on hB)
  have hvv : (v == v) = true := by simp
  have hdd : (d == d) = true := by simp
  have hee : (E == E) = true := by simp
  clear hv
  go_wp2_with fail
  refine wp_region_quiet (C := fun w' => ∃ u : Since W, w' = u.w) (by kernel_rfl) (by kernel_rfl) (Since.start W) ?_
  dsimp only
  have y_c0 := Since.cell c0
  have y_c1 := Since.cell c1
  have y_c2 := Since.cell c2
  clear c0 c1 c2
  repeat (go_big_quiet_step ((first | (go_at_call 25; exact Since.calls (kvalid_is L K A c l _ (Slc.on T1.out (Since.h _)) HV.out)) | (go_at_call 26; exact Since.calls (refKValid_is L K A c l _ (Slc.on T1.out (Since.h _)) HV.out)) | (go_at_call 18; exact Since.calls (kawake_any _)))))
  refine wpQuiet_nil ?_
  rintro W ⟨⟨_, hb⟩, rfl⟩
  try dsimp only at hb ⊢
  clear y_c0 y_c1 y_c2
  replace hk := hk.below hb hk.lt
  replace hB := hB.trans (hb.mono hB.size)
  clear hb
  have c0 := hk.cell_ 0 rfl
  have c1 := hk.cell_ 1 rfl
  have c2 := hk.cell_ 2 rfl
  go_wp2_with fail
  go_ret
  exact ⟨rfl, hB⟩
end Go.Proofs.YtecaaimaeaocbaaDoor
