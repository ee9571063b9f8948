/- above, ContainsFunc of counts and batches, samePlan, Clone of a plan: the walks. -/
import Derived.Test.YtecaaimaeaocbaaDoorKCompare
namespace Go.Proofs.YtecaaimaeaocbaaDoor
open Go Go.RowKit
set_option maxRecDepth 100000 in
set_option maxHeartbeats 1000000 in
theorem above_any (A : Option Addr) (cA : Nat) (a : List Int) (B : Option Addr) (cB : Nat) (b : List Int) (w : World) (hA : Slc intEnc 1 w w.heap.size A a) (hB : Slc intEnc 1 w w.heap.size B b) (hl : a.length ≤ 100000) (hlb : a.length = b.length) :
    Calls Tryd.prog 116 #[.slice A a.length cA, .slice B b.length cB] w fun e w' => e = .returned (.int .i64 (cmpL a b)) ∧ Below w.heap.size w w' := by
  have HLL := hide hlb
  clear hlb
  have G : ∀ W, Below w.heap.size w W → Calls Tryd.prog 116 #[.slice A a.length cA, .slice B b.length cB] W fun e w' => e = .returned (.int .i64 (cmpL a b)) ∧ Below w.heap.size w w' := by
    intro W hBl
    go_enter Tryd.func116, Tryd.ntmps116
    go_wp2_with fail
    go_loopw [5] (fun y W => ∃ (i : Nat), y = .int .i64 i ∧ i ≤ a.length ∧ Hid (cmpL a b = cmpL (a.drop i) (b.drop i)) ∧ Below w.heap.size w W) (fun y _ => a.length - (intOf y).toNat)
    case atStart => exact ⟨0, rfl, Nat.zero_le _, hide rfl, hBl⟩
    case round =>
      clear hBl
      obtain ⟨W, rfl⟩ : ∃ W : World, W = wr := ⟨_, rfl⟩
      obtain ⟨i, rfl, hi, HC, hBl⟩ := hrel
      by_cases hlt : i < a.length
      · obtain ⟨x, b1, off1, hx, hA1, _, d0⟩ := ints_at' (hA.below hBl) hlt
        obtain ⟨y, b2, off2, hy, hB1, _, d1⟩ := ints_at' (hB.below hBl) (show i < b.length by rw [← HLL.out]; exact hlt)
        have hii : (i : Int) < (a.length : Int) := by omega
        have hjj : (i : Int) < (b.length : Int) := by have := HLL.out; omega
        have HD := hide (cmpL_drop hx hy)
        clear hx hy
        subst hA1 hB1
        rcases Int.lt_trichotomy x y with h0 | h0 | h0
        · have HC2 : Hid (cmpL a b = -1) := by 
            show _ = _
            have hv : cmpN x y = -1 := by unfold cmpN; rw [if_pos h0]
            rw [HC.out, HD.out, hv]; rfl
          have hn : ¬ y < x := by omega
          go_wp2_with fail
          refine wp_region_quiet (C := fun w' => ∃ u : Since W, w' = u.w) (by kernel_rfl) (by kernel_rfl) (Since.start W) ?_
          dsimp only
          have y_d0 := Since.cell d0
          have y_d1 := Since.cell d1
          repeat (go_big_quiet_step ((fail)))
          refine wpQuiet_nil ?_
          rintro W ⟨⟨_, hb⟩, rfl⟩
          try dsimp only at hb ⊢
          replace d0 : W.cell? _ = _ := y_d0 ⟨W, hb⟩
          replace d1 : W.cell? _ = _ := y_d1 ⟨W, hb⟩
          clear y_d0 y_d1
          replace hBl := hBl.trans (hb.mono hBl.size)
          clear hb
          go_wp2_with fail
          go_wp2_with fail
          refine wp_region_quiet (C := fun w' => ∃ u : Since W, w' = u.w) (by kernel_rfl) (by kernel_rfl) (Since.start W) ?_
          dsimp only
          have y_d0 := Since.cell d0
          have y_d1 := Since.cell d1
          repeat (go_big_quiet_step ((fail)))
          refine wpQuiet_nil ?_
          rintro W ⟨⟨_, hb⟩, rfl⟩
          try dsimp only at hb ⊢
          replace d0 : W.cell? _ = _ := y_d0 ⟨W, hb⟩
          replace d1 : W.cell? _ = _ := y_d1 ⟨W, hb⟩
          clear y_d0 y_d1
          replace hBl := hBl.trans (hb.mono hBl.size)
          clear hb
          go_wp2_with fail
          go_ret
          exact ⟨ret_int HC2.out.symm, hBl⟩
        · have HC2 : Hid (cmpL a b = cmpL (a.drop (i + 1)) (b.drop (i + 1))) := by
            show _ = _
            have hv : cmpN x y = 0 := by unfold cmpN; rw [if_neg (by omega), if_neg (by omega)]
            rw [HC.out, HD.out, hv]; rfl
          have hn : ¬ y < x := by omega
          have hn2 : ¬ x < y := by omega
          clear h0
          go_wp2_with fail
          refine wp_region_quiet (C := fun w' => ∃ u : Since W, w' = u.w) (by kernel_rfl) (by kernel_rfl) (Since.start W) ?_
          dsimp only
          have y_d0 := Since.cell d0
          have y_d1 := Since.cell d1
          repeat (go_big_quiet_step ((fail)))
          refine wpQuiet_nil ?_
          rintro W ⟨⟨_, hb⟩, rfl⟩
          try dsimp only at hb ⊢
          replace d0 : W.cell? _ = _ := y_d0 ⟨W, hb⟩
          replace d1 : W.cell? _ = _ := y_d1 ⟨W, hb⟩
          clear y_d0 y_d1
          replace hBl := hBl.trans (hb.mono hBl.size)
          clear hb
          go_wp2_with fail
          go_wp2_with fail
          refine wp_region_quiet (C := fun w' => ∃ u : Since W, w' = u.w) (by kernel_rfl) (by kernel_rfl) (Since.start W) ?_
          dsimp only
          have y_d0 := Since.cell d0
          have y_d1 := Since.cell d1
          repeat (go_big_quiet_step ((fail)))
          refine wpQuiet_nil ?_
          rintro W ⟨⟨_, hb⟩, rfl⟩
          try dsimp only at hb ⊢
          replace d0 : W.cell? _ = _ := y_d0 ⟨W, hb⟩
          replace d1 : W.cell? _ = _ := y_d1 ⟨W, hb⟩
          clear y_d0 y_d1
          replace hBl := hBl.trans (hb.mono hBl.size)
          clear hb
          go_wp2_with fail
          go_roundw
          case rel => exact ⟨i + 1, by go_num, by omega, HC2, hBl⟩
          case measure => simp [intOf]; omega
        · have HC2 : Hid (cmpL a b = 1) := by
            show _ = _
            have hv : cmpN x y = 1 := by unfold cmpN; rw [if_neg (by omega), if_pos h0]
            rw [HC.out, HD.out, hv]; rfl
          go_wp2_with fail
          refine wp_region_quiet (C := fun w' => ∃ u : Since W, w' = u.w) (by kernel_rfl) (by kernel_rfl) (Since.start W) ?_
          dsimp only
          have y_d0 := Since.cell d0
          have y_d1 := Since.cell d1
          repeat (go_big_quiet_step ((fail)))
          refine wpQuiet_nil ?_
          rintro W ⟨⟨_, hb⟩, rfl⟩
          try dsimp only at hb ⊢
          replace d0 : W.cell? _ = _ := y_d0 ⟨W, hb⟩
          replace d1 : W.cell? _ = _ := y_d1 ⟨W, hb⟩
          clear y_d0 y_d1
          replace hBl := hBl.trans (hb.mono hBl.size)
          clear hb
          go_wp2_with fail
          go_ret
          exact ⟨ret_int HC2.out.symm, hBl⟩
      · obtain rfl : i = a.length := by omega
        have HC2 : Hid (cmpL a b = 0) := by
          show _ = _
          rw [HC.out, List.drop_length, show b.drop a.length = [] from List.drop_of_length_le (by rw [HLL.out]; exact Nat.le_refl _)]; rfl
        go_wp2_with fail
        go_ret
        exact ⟨ret_int HC2.out.symm, hBl⟩
  exact G w (Below.refl _ _)
/-- no piece is asked for -/
def npos (x : Int) : Bool := !decide (0 < x)
theorem pos1_any (x : Int) (w : World) : Calls Tryd.prog 109 #[.int .i64 x] w fun e w' => e = .returned (.bool (!npos x)) ∧ Below w.heap.size w w' := by
  have HV : Hid (npos x = !decide (0 < x)) := rfl
  by_cases h : 0 < x
  · have HV2 : Hid ((!npos x) = true) := by show _ = _; rw [HV.out, decide_eq_true h]; rfl
    go_enter Tryd.func109, Tryd.ntmps109
    go_wp2_with fail
    go_ret
    exact ⟨ret_bool HV2.out.symm, Below.refl _ _⟩
  · have HV2 : Hid ((!npos x) = false) := by show _ = _; rw [HV.out, decide_eq_false h]; rfl
    go_enter Tryd.func109, Tryd.ntmps109
    go_wp2_with fail
    go_ret
    exact ⟨ret_bool HV2.out.symm, Below.refl _ _⟩
def IxPost (bad : Bool) (w : World) (e : Ending) (w' : World) : Prop := ∃ r : Int, e = .returned (.int .i64 r) ∧ decide (0 ≤ r) = bad ∧ Below w.heap.size w w'
theorem any_drop {α : Type} {f : α → Bool} {l : List α} {k : Nat} {x : α} (h : l[k]? = some x) : (l.drop k).any f = (f x || (l.drop (k + 1)).any f) := by
  obtain ⟨hk, he⟩ := List.getElem?_eq_some_iff.1 h
  rw [List.drop_eq_getElem_cons hk, he]; rfl
set_option maxHeartbeats 1000000 in
theorem indexPos_any (A : Option Addr) (c : Nat) (l : List Int) (w : World) (hlen : l.length ≤ 100000) (hS : Slc intEnc 1 w w.heap.size A l) :
    Calls Tryd.prog 124 #[.slice A l.length c, .func (.func 109) #[] #[]] w (IxPost (l.any fun x => !npos x) w) := by
  go_enter Tryd.func124, Tryd.ntmps124
  go_wp2_with fail
  go_loopw [8] (fun i wr => ∃ k : Nat, k ≤ l.length ∧ i = .int .i64 k ∧ Hid ((l.any fun x => !npos x) = (l.drop k).any (fun x => !npos x)) ∧ Below w.heap.size w wr) (fun i _ => l.length - (intOf i).toNat)
  case atStart => exact ⟨0, Nat.zero_le _, rfl, hide rfl, Below.refl _ _⟩
  case round =>
    obtain ⟨k, hk, rfl, HS, hbel⟩ := hrel
    by_cases hlt : k < l.length
    · obtain ⟨x, b, off, hx, hA, hb, d0⟩ := ints_at' (hS.below hbel) hlt
      have hki : (k : Int) < (l.length : Int) := by omega
      subst hA
      have HX := hide hx
      clear hx
      go_wp2_with fail
      refine (pos1_any x _).mono ?_
      rintro e w2 ⟨rfl, hb2⟩
      clear d0
      cases hok : npos x
      · go_wp2_with fail
        go_ret
        exact ⟨k, rfl, by rw [HS.out, any_drop HX.out, hok]; simp, hbel.trans (hb2.mono hbel.size)⟩
      · go_wp2_with fail
        go_roundw
        case rel => exact ⟨k + 1, by omega, by go_num, hide (by rw [HS.out, any_drop HX.out, hok]; rfl), hbel.trans (hb2.mono hbel.size)⟩
        case measure => simp [intOf]; omega
    · obtain rfl : k = l.length := by omega
      go_wp2_with fail
      go_ret
      exact ⟨-1, rfl, by rw [HS.out, List.drop_length]; rfl, hbel⟩
theorem containsPos_any (A : Option Addr) (c : Nat) (l : List Int) (w : World) (hlen : l.length ≤ 100000) (hS : Slc intEnc 1 w w.heap.size A l) :
    Calls Tryd.prog 108 #[.slice A l.length c, .func (.func 109) #[] #[]] w fun e w' => e = .returned (.bool (l.any fun x => !npos x)) ∧ Below w.heap.size w w' := by
  go_enter Tryd.func108, Tryd.ntmps108
  go_wp2_with fail
  refine (indexPos_any A c l _ hlen hS).mono ?_
  rintro e w2 ⟨r, rfl, hr, hb2⟩
  have HR := hide hr
  clear hr
  go_wp2_with fail
  go_ret
  exact ⟨ret_bool HR.out, hb2⟩
theorem pos_empty {l : List Int} (h : ∀ p ∈ l, 0 ≤ p) : (l.any fun x => !npos x) = !emptyB l := by
  unfold emptyB npos
  rw [Bool.eq_iff_iff]
  simp only [Bool.not_not, List.any_eq_true, decide_eq_true_eq, Bool.not_eq_true', List.all_eq_false]
  constructor
  · rintro ⟨x, hx, h0⟩; exact ⟨x, hx, by omega⟩
  · rintro ⟨x, hx, h0⟩; exact ⟨x, hx, by have := h x hx; omega⟩
set_option maxRecDepth 100000 in
set_option maxHeartbeats 1000000 in
theorem samePlan_any (A : Option Addr) (cA : Nat) (ba : List Bt) (B : Option Addr) (cB : Nat) (bb : List Bt) (pl : List Bat) (w : World) (hA : PlanAt w A ba pl) (hB : PlanAt w B bb pl) (hl : pl.length ≤ 100000) (hp : ∀ b ∈ pl, b.ps.length ≤ 100000) :
    Calls Tryd.prog 48 #[.slice A pl.length cA, .slice B pl.length cB] w fun e w' => e = .returned (.bool true) ∧ Below w.heap.size w w' := by
  have G : ∀ W, Below w.heap.size w W → Calls Tryd.prog 48 #[.slice A pl.length cA, .slice B pl.length cB] W fun e w' => e = .returned (.bool true) ∧ Below w.heap.size w w' := by
    intro W hBl
    have hne : ((pl.length : Int) != (pl.length : Int)) = false := by simp
    go_enter Tryd.func48, Tryd.ntmps48
    go_wp2_with fail
    go_loopw [5] (fun y W => ∃ (i : Nat), y = .int .i64 i ∧ i ≤ pl.length ∧ Below w.heap.size w W) (fun y _ => pl.length - (intOf y).toNat)
    case atStart => exact ⟨0, rfl, Nat.zero_le _, hBl⟩
    case round =>
      clear hBl
      obtain ⟨W, rfl⟩ : ∃ W : World, W = wr := ⟨_, rfl⟩
      obtain ⟨i, rfl, hi, hBl⟩ := hrel
      by_cases hlt : i < pl.length
      · obtain ⟨p, b1, off1, A1, c1, hx, hA1, _, d0, d1, S1⟩ := plan_at (hA.on hBl) hlt
        obtain ⟨p', b2, off2, A2, c2, hy, hB1, _, e0, e1, S2⟩ := plan_at (hB.on hBl) hlt
        obtain rfl : p = p' := by rw [hx] at hy; injection hy
        have hii : (i : Int) < (pl.length : Int) := by omega
        have hpl := hp p (List.mem_of_getElem? hx)
        have T1 := hide S1
        have T2 := hide S2
        have HE : Hid (eqL p.ps p.ps = true) := by show _ = _; unfold eqL; simp
        have hn2 : (p.t != p.t) = false := by simp
        clear hx hy S1 S2
        subst hA1 hB1
        go_wp2_with fail
        refine wp_region_quiet (C := fun w' => ∃ u : Since W, w' = u.w) (by kernel_rfl) (by kernel_rfl) (Since.start W) ?_
        dsimp only
        have y_d0 := Since.cell d0
        have y_d1 := Since.cell d1
        have y_e0 := Since.cell e0
        have y_e1 := Since.cell e1
        repeat (go_big_quiet_step ((go_at_call 34; exact Since.calls ((sameInts_any A1 c1 p.ps A2 c2 p.ps _ (Slc.on T1.out (Since.h _)) (Slc.on T2.out (Since.h _)) hpl).mono fun e w' ⟨he, hb⟩ => ⟨by rw [he, HE.out], hb⟩))))
        refine wpQuiet_nil ?_
        rintro W ⟨⟨_, hb⟩, rfl⟩
        try dsimp only at hb ⊢
        replace d0 : W.cell? _ = _ := y_d0 ⟨W, hb⟩
        replace d1 : W.cell? _ = _ := y_d1 ⟨W, hb⟩
        replace e0 : W.cell? _ = _ := y_e0 ⟨W, hb⟩
        replace e1 : W.cell? _ = _ := y_e1 ⟨W, hb⟩
        clear y_d0 y_d1 y_e0 y_e1
        replace hBl := hBl.trans (hb.mono hBl.size)
        clear hb
        go_wp2_with fail
        go_roundw
        case rel => exact ⟨i + 1, by go_num, by omega, hBl⟩
        case measure => simp [intOf]; omega
      · obtain rfl : i = pl.length := by omega
        go_wp2_with fail
        go_ret
        exact ⟨rfl, hBl⟩
  exact G w (Below.refl _ _)
set_option maxRecDepth 100000 in
theorem cloneBt_any (A : Option Addr) (c : Nat) (l : List Bt) (w : World) (hl : l.length ≤ 100000) (hS : Slc Bt.enc 2 w w.heap.size A l) :
    Calls Tryd.prog 104 #[.slice A l.length c] w (ClonePost 73 Bt.enc 2 l w) := by
  have q22 : ∀ (w : World) (a : Option Addr) (n c n' c' : Nat), (binOp .eql 74 (.slice a n c) (.slice none n' c')).run Tryd.prog w = .ok (.bool a.isNone) w := fun w a n c n' c' => Lib.run_eql_slice_nil w _ _ a n c n' c' Tryd.underlying74
  cases A with
  | none =>
    have hn : l = [] := by
      cases l with
      | nil => rfl
      | cons x r => obtain ⟨b, off, h, _⟩ := hS 0 x rfl; cases h
    subst hn
    go_enter Tryd.func104, Tryd.ntmps104
    go_wp2_with fail
    go_ret
    exact ⟨none, 0, rfl, Below.refl _ _, Slc.nil_, fun h => absurd rfl h⟩
  | some a =>
    have HS := hide hS
    have hsz : (w.alloc (.cells #[] 73)).heap.size = w.heap.size + 1 := by simp
    have HSZ := hide hsz
    have HB0 := hide ((Below.refl w.heap.size w).alloc (Nat.le_refl _) (.cells #[] 73))
    clear hS hsz
    go_enter Tryd.func104, Tryd.ntmps104
    go_wp2_with (at_builtin; refine wpList_app_full (xs := []) (ys := l) (B1 := 0) (B2 := w.heap.size) _ _ rfl rfl et_batch rfl rfl Slc.nil_ rfl (HS.out.below HB0.out) rfl (Nat.zero_le _) (fun _ => rfl) (fun x v hv => by simp [Bt.enc] at hv; rcases hv with rfl | rfl <;> rfl) (by omega) ?_; intro A' c' W' hb hS' hc' hO')
    go_ret
    have hb2 := HB0.out.trans (hb.mono HB0.out.size)
    refine ⟨A', c', by simp, hb2, by simpa using hS', fun hne => ?_⟩
    have h := (hO' hne).mono_base (b' := w.heap.size) HB0.out.size
    simpa using h
end Go.Proofs.YtecaaimaeaocbaaDoor
