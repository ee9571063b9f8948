/- rolls, Lengths, Rolls, Waste of both texts: the walks. -/
import Derived.Test.YtecaaimaeaocbaaDoorKRefCheck
namespace Go.Proofs.YtecaaimaeaocbaaDoor
open Go Go.RowKit
def rollsI (pl : List Bat) : Int := (pl.map (·.t)).sum
def lenI (l : List Ask) : Int := (l.map fun a => a.cnt * a.len).sum
theorem rollsI_snoc {pl : List Bat} {i : Nat} {b : Bat} (h : pl[i]? = some b) : rollsI (pl.take (i + 1)) = rollsI (pl.take i) + b.t := by
  unfold rollsI
  rw [List.take_add_one, h, Option.toList_some, List.map_append, List.sum_append]; simp
theorem lenI_snoc {l : List Ask} {i : Nat} {a : Ask} (h : l[i]? = some a) : lenI (l.take (i + 1)) = lenI (l.take i) + a.cnt * a.len := by
  unfold lenI
  rw [List.take_add_one, h, Option.toList_some, List.map_append, List.sum_append]; simp
theorem rollsI_low : ∀ pl : List Bat, (∀ b ∈ pl, 1 ≤ b.t ∧ b.t ≤ 1000) → 0 ≤ rollsI pl ∧ rollsI pl ≤ pl.length * 1000
  | [], _ => by simp [rollsI]
  | b :: pl, h => by
    have ih := rollsI_low pl fun b hb => h b (List.mem_cons_of_mem _ hb)
    have h1 := h b (List.mem_cons_self ..)
    have e : rollsI (b :: pl) = b.t + rollsI pl := by simp [rollsI]
    rw [e, List.length_cons]; push_cast; omega
theorem rollsI_take {n : Nat} {pl : List Bat} (h : shapedP n pl = true) (i : Nat) : 0 ≤ rollsI (pl.take i) ∧ rollsI (pl.take i) ≤ 1000000 := by
  have h1 := rollsI_low (pl.take i) fun b hb => by
    obtain ⟨q, hq⟩ := List.getElem?_of_mem (List.mem_of_mem_take hb)
    exact (shaped_at h hq).1
  have h2 := shaped_few h
  have h3 : (pl.take i).length ≤ 1000 := by simp; omega
  omega
theorem aterm_ok {L K : Int} {l : List Ask} (hv : VK L K l) {a : Ask} (ha : a ∈ l) : 0 ≤ a.cnt * a.len ∧ a.cnt * a.len ≤ 50000 := by
  obtain ⟨h1, h2⟩ := hv.hL
  obtain ⟨h3, h4, h5⟩ := hv.ask a ha
  refine ⟨Int.mul_nonneg h4 (by omega), ?_⟩
  calc a.cnt * a.len ≤ 50 * 1000 := Int.mul_le_mul h5 (by omega) (by omega) (by omega)
    _ ≤ 50000 := by omega
theorem lenI_low {L K : Int} {l : List Ask} (hv : VK L K l) : ∀ m : List Ask, (∀ a ∈ m, a ∈ l) → 0 ≤ lenI m ∧ lenI m ≤ m.length * 50000
  | [], _ => by simp [lenI]
  | a :: m, h => by
    have ih := lenI_low hv m fun b hb => h b (List.mem_cons_of_mem _ hb)
    have h1 := aterm_ok hv (h a (List.mem_cons_self ..))
    have e : lenI (a :: m) = a.cnt * a.len + lenI m := by simp [lenI]
    rw [e, List.length_cons]; push_cast; omega
theorem lenI_take {L K : Int} {l : List Ask} (hv : VK L K l) (i : Nat) : 0 ≤ lenI (l.take i) ∧ lenI (l.take i) ≤ 400000 := by
  have h1 := lenI_low hv (l.take i) fun a ha => List.mem_of_mem_take ha
  have h2 := hv.few
  have h3 : (l.take i).length ≤ 8 := by simp; omega
  omega
theorem chk_zero {L K : Int} {l : List Ask} {pl : List Bat} (h : chkE L K l pl = 0) : validK L K l = true ∧ shapedP l.length pl = true ∧ (∀ (i : Nat) b, pl[i]? = some b → fitsB L K l b.ps = true) := by
  unfold chkE at h
  by_cases h1 : validK L K l = true
  · rw [if_pos h1] at h
    by_cases h2 : shapedP l.length pl = true
    · rw [if_pos h2] at h
      by_cases h3 : pl.all (fun b => fitsB L K l b.ps) = true
      · exact ⟨h1, h2, fun i b hb => all_at.1 h3 i b hb⟩
      · rw [if_neg h3] at h; omega
    · rw [if_neg h2] at h; omega
  · rw [if_neg h1] at h; omega
set_option maxRecDepth 100000 in
theorem rolls_any (n : Nat) (AB : Option Addr) (cB : Nat) (bs : List Bt) (pl : List Bat) (w : World) (hP : PlanAt w AB bs pl) (hs : shapedP n pl = true) :
    Calls Tryd.prog 84 #[.slice AB pl.length cB] w fun e w' => e = .returned (.int .i64 (rollsI pl)) ∧ Below w.heap.size w w' := by
  have HTL := hide (rollsI_take hs)
  have HS := hide hs
  have hpl := shaped_few hs
  clear hs
  have G : ∀ W, Below w.heap.size w W → Calls Tryd.prog 84 #[.slice AB pl.length cB] W fun e w' => e = .returned (.int .i64 (rollsI pl)) ∧ Below w.heap.size w w' := by
    intro W hB
    go_enter Tryd.func84, Tryd.ntmps84
    go_wp2_with fail
    go_loopw [3, 8] (fun x y W => ∃ (i : Nat), x = .int .i64 (rollsI (pl.take i)) ∧ y = .int .i64 i ∧ i ≤ pl.length ∧ Below w.heap.size w W) (fun x y _ => pl.length - (intOf y).toNat)
    case atStart => exact ⟨0, rfl, rfl, Nat.zero_le _, hB⟩
    case round =>
      clear hB
      obtain ⟨W, rfl⟩ : ∃ W : World, W = wr := ⟨_, rfl⟩
      obtain ⟨i, rfl, rfl, hi, hB⟩ := hrel
      by_cases hlt : i < pl.length
      · obtain ⟨p, b, off, A', c', hp, hA, hbl, d0, d1, hQ0⟩ := plan_at (hP.on hB) hlt
        have hii : (i : Int) < (pl.length : Int) := by omega
        have hpt := (shaped_at HS.out hp).1
        have HX := hide (rollsI_snoc hp)
        have htl := HTL.out i
        clear hp hQ0
        subst hA
        generalize rollsI (pl.take i) = S at *
        go_upto_region 5 with fail
        have hm := Blk.new W 73 #[.int .i64 p.t, .slice A' p.ps.length c']
        have hsz_bx : (W.alloc (.cells #[.int .i64 p.t, .slice A' p.ps.length c'] 73)).heap.size = W.heap.size + 1 := by simp
        have bxge := hB.size
        replace hB := hB.alloc hB.size (.cells #[.int .i64 p.t, .slice A' p.ps.length c'] 73)
        generalize hbx : W.heap.size = bx at *
        generalize W.alloc (.cells #[.int .i64 p.t, .slice A' p.ps.length c'] 73) = W at *
        clear hbx
        have m0 := hm.cell_ 0 rfl
        have m1 := hm.cell_ 1 rfl
        clear d0 d1
        go_wp2_with fail
        go_roundw
        case rel => exact ⟨i + 1, by rw [HX.out], by go_num, by omega, hB⟩
        case measure => simp [intOf]; omega
      · obtain rfl : i = pl.length := by omega
        rw [show rollsI (pl.take pl.length) = rollsI pl by rw [List.take_length]]
        go_wp2_with fail
        go_ret
        exact ⟨rfl, hB⟩
  exact G w (Below.refl _ _)
set_option maxRecDepth 100000 in
theorem refRolls_any (n : Nat) (AB : Option Addr) (cB : Nat) (bs : List Bt) (pl : List Bat) (w : World) (hP : PlanAt w AB bs pl) (hs : shapedP n pl = true) :
    Calls Tryd.prog 90 #[.slice AB pl.length cB] w fun e w' => e = .returned (.int .i64 (rollsI pl)) ∧ Below w.heap.size w w' := by
  have HTL := hide (rollsI_take hs)
  have HS := hide hs
  have hpl := shaped_few hs
  clear hs
  have G : ∀ W, Below w.heap.size w W → Calls Tryd.prog 90 #[.slice AB pl.length cB] W fun e w' => e = .returned (.int .i64 (rollsI pl)) ∧ Below w.heap.size w w' := by
    intro W hB
    go_enter Tryd.func90, Tryd.ntmps90
    go_wp2_with fail
    go_loopw [3, 4] (fun x y W => ∃ (i : Nat), x = .int .i64 (rollsI (pl.take i)) ∧ y = .int .i64 i ∧ i ≤ pl.length ∧ Below w.heap.size w W) (fun x y _ => pl.length - (intOf y).toNat)
    case atStart => exact ⟨0, rfl, rfl, Nat.zero_le _, hB⟩
    case round =>
      clear hB
      obtain ⟨W, rfl⟩ : ∃ W : World, W = wr := ⟨_, rfl⟩
      obtain ⟨i, rfl, rfl, hi, hB⟩ := hrel
      by_cases hlt : i < pl.length
      · obtain ⟨p, b, off, A', c', hp, hA, hbl, d0, d1, hQ0⟩ := plan_at (hP.on hB) hlt
        have hii : (i : Int) < (pl.length : Int) := by omega
        have hpt := (shaped_at HS.out hp).1
        have HX := hide (rollsI_snoc hp)
        have htl := HTL.out i
        clear hp hQ0
        subst hA
        generalize rollsI (pl.take i) = S at *
        go_wp2_with fail
        go_roundw
        case rel => exact ⟨i + 1, by rw [HX.out], by go_num, by omega, hB⟩
        case measure => simp [intOf]; omega
      · obtain rfl : i = pl.length := by omega
        rw [show rollsI (pl.take pl.length) = rollsI pl by rw [List.take_length]]
        go_wp2_with fail
        go_ret
        exact ⟨rfl, hB⟩
  exact G w (Below.refl _ _)
set_option maxRecDepth 100000 in
theorem lengths_any (L K : Int) (A : Option Addr) (c : Nat) (l : List Ask) (w : World) (hS : Slc Ask.enc 2 w w.heap.size A l) (hv : VK L K l) :
    Calls Tryd.prog 91 #[.agg #[.int .i64 L, .int .i64 K, .slice A l.length c]] w fun e w' => e = .returned (.int .i64 (lenI l)) ∧ Below w.heap.size w w' := by
  have HVK := hide hv
  have hl8 := hv.few
  have HTL := hide (lenI_take hv)
  clear hv
  have hk := Blk.new w 24 #[.int .i64 L, .int .i64 K, .slice A l.length c]
  have hB := (Below.refl w.heap.size w).alloc (Nat.le_refl _) (.cells #[.int .i64 L, .int .i64 K, .slice A l.length c] 24)
  go_enter Tryd.func91, Tryd.ntmps91
  go_upto_region 1 with fail
  generalize w.alloc (.cells #[.int .i64 L, .int .i64 K, .slice A l.length c] 24) = W at *
  have c0 := hk.cell_ 0 rfl
  have c1 := hk.cell_ 1 rfl
  have c2 := hk.cell_ 2 rfl
  go_wp2_with fail
  clear c0 c1 c2
  go_loopw [3, 4] (fun x y W => ∃ (i : Nat), x = .int .i64 (lenI (l.take i)) ∧ y = .int .i64 i ∧ i ≤ l.length ∧ Blk W w.heap.size 24 #[.int .i64 L, .int .i64 K, .slice A l.length c] ∧ Below w.heap.size w W) (fun x y _ => l.length - (intOf y).toNat)
  case atStart => exact ⟨0, rfl, rfl, Nat.zero_le _, hk, hB⟩
  case round =>
    clear hk hB
    obtain ⟨W, rfl⟩ : ∃ W : World, W = wr := ⟨_, rfl⟩
    obtain ⟨i, rfl, rfl, hi, hk, hB⟩ := hrel
    by_cases hlt : i < l.length
    · obtain ⟨⟨ln, cn⟩, b, off, hx, hA, _, d0, d1⟩ := ask_at (hS.below hB) hlt
      have hii : (i : Int) < (l.length : Int) := by omega
      have hat := aterm_ok HVK.out (List.mem_of_getElem? hx)
      have HX := hide (lenI_snoc hx)
      dsimp only at d0 d1 hat
      obtain ⟨pr, hpre⟩ : ∃ pr, cn * ln = pr := ⟨_, rfl⟩
      rw [hpre] at hat
      have e1 : IntKind.i64.wrap (cn * ln) = pr := by rw [hpre]; exact IntWalk.i64_in _ (by omega)
      have HX2 : Hid (lenI (l.take (i + 1)) = lenI (l.take i) + pr) := by show _ = _; rw [HX.out, hpre]
      have htl := HTL.out i
      clear hx HX hpre
      subst hA
      generalize lenI (l.take i) = S at *
      have c0 := hk.cell_ 0 rfl
      have c1 := hk.cell_ 1 rfl
      have c2 := hk.cell_ 2 rfl
      go_wp2_with fail
      refine wp_region_quiet (C := fun w' => ∃ u : Since W, w' = u.w) (by kernel_rfl) (by kernel_rfl) (Since.start W) ?_
      dsimp only
      have y_c0 := Since.cell c0
      have y_c1 := Since.cell c1
      have y_c2 := Since.cell c2
      have y_d0 := Since.cell d0
      have y_d1 := Since.cell d1
      clear c0 c1 c2
      repeat (go_big_quiet_step ((fail)))
      refine wpQuiet_nil ?_
      rintro W ⟨⟨_, hb⟩, rfl⟩
      try dsimp only at hb ⊢
      replace d0 : W.cell? _ = _ := y_d0 ⟨W, hb⟩
      replace d1 : W.cell? _ = _ := y_d1 ⟨W, hb⟩
      clear y_c0 y_c1 y_c2 y_d0 y_d1
      replace hk := hk.below hb hk.lt
      replace hB := hB.trans (hb.mono hB.size)
      clear hb
      have c0 := hk.cell_ 0 rfl
      have c1 := hk.cell_ 1 rfl
      have c2 := hk.cell_ 2 rfl
      go_wp2_with fail
      go_roundw
      case rel => exact ⟨i + 1, by rw [HX2.out], by go_num, by omega, hk, hB⟩
      case measure => simp [intOf]; omega
    · obtain rfl : i = l.length := by omega
      rw [show lenI (l.take l.length) = lenI l by rw [List.take_length]]
      have c0 := hk.cell_ 0 rfl
      have c1 := hk.cell_ 1 rfl
      have c2 := hk.cell_ 2 rfl
      go_wp2_with fail
      go_ret
      exact ⟨rfl, hB⟩
def rlE (L K : Int) (l : List Ask) (pl : List Bat) : Int := if chkE L K l pl = 0 then rollsI pl else 0
def wsE (L K : Int) (l : List Ask) (pl : List Bat) : Int := if chkE L K l pl = 0 then rollsI pl * L - lenI l else 0
theorem check_is (L K : Int) (A : Option Addr) (c : Nat) (l : List Ask) (AB : Option Addr) (cB : Nat) (bs : List Bt) (pl : List Bat) (w : World) (hS : Slc Ask.enc 2 w w.heap.size A l) (hP : PlanAt w AB bs pl) (hl : pl.length ≤ 100000) {v : Int} (h : chkE L K l pl = v) :
    Calls Tryd.prog 46 #[.agg #[.int .i64 L, .int .i64 K, .slice A l.length c], .slice AB pl.length cB] w fun e w' => e = .returned (.int .i64 v) ∧ Below w.heap.size w w' := by
  subst h; exact check_any L K A c l AB cB bs pl w hS hP hl
theorem refCheck_is (L K : Int) (A : Option Addr) (c : Nat) (l : List Ask) (AB : Option Addr) (cB : Nat) (bs : List Bt) (pl : List Bat) (w : World) (hS : Slc Ask.enc 2 w w.heap.size A l) (hP : PlanAt w AB bs pl) (hl : pl.length ≤ 100000) {v : Int} (h : chkE L K l pl = v) :
    Calls Tryd.prog 47 #[.agg #[.int .i64 L, .int .i64 K, .slice A l.length c], .slice AB pl.length cB] w fun e w' => e = .returned (.int .i64 v) ∧ Below w.heap.size w w' := by
  subst h; exact refCheck_any L K A c l AB cB bs pl w hS hP
set_option maxRecDepth 100000 in
theorem apiRolls_any (L K : Int) (A : Option Addr) (c : Nat) (l : List Ask) (AB : Option Addr) (cB : Nat) (bs : List Bt) (pl : List Bat) (w : World) (hS : Slc Ask.enc 2 w w.heap.size A l) (hP : PlanAt w AB bs pl) (hl : pl.length ≤ 100000) :
    Calls Tryd.prog 44 #[.agg #[.int .i64 L, .int .i64 K, .slice A l.length c], .slice AB pl.length cB] w fun e w' => e = .returned (.tuple #[.int .i64 (rlE L K l pl), .int .i64 (chkE L K l pl)]) ∧ Below w.heap.size w w' := by
  have hk := Blk.new w 24 #[.int .i64 L, .int .i64 K, .slice A l.length c]
  have hB := (Below.refl w.heap.size w).alloc (Nat.le_refl _) (.cells #[.int .i64 L, .int .i64 K, .slice A l.length c] 24)
  go_enter Tryd.func44, Tryd.ntmps44
  go_upto_region 1 with fail
  generalize w.alloc (.cells #[.int .i64 L, .int .i64 K, .slice A l.length c] 24) = W at *
  have c0 := hk.cell_ 0 rfl
  have c1 := hk.cell_ 1 rfl
  have c2 := hk.cell_ 2 rfl
  obtain ⟨E, hE⟩ : ∃ E, chkE L K l pl = E := ⟨_, rfl⟩
  have HE := hide hE
  clear hE
  go_wp2_with fail
  refine (check_is L K A c l AB cB bs pl _ (hS.on hB) (hP.on hB) hl HE.out).mono ?_
  rintro e W ⟨rfl, hb⟩
  clear c0 c1 c2
  replace hk := hk.below hb hk.lt
  replace hB := hB.trans (hb.mono hB.size)
  clear hb
  have c0 := hk.cell_ 0 rfl
  have c1 := hk.cell_ 1 rfl
  have c2 := hk.cell_ 2 rfl
  by_cases h0 : E = 0
  · subst h0
    have HZ := hide (chk_zero HE.out)
    have HR : Hid (rlE L K l pl = rollsI pl) := by show _ = _; unfold rlE; rw [if_pos HE.out]
    go_wp2_with fail
    refine (rolls_any l.length AB cB bs pl _ (hP.on hB) HZ.out.2.1).mono ?_
    rintro e W ⟨rfl, hb⟩
    clear c0 c1 c2
    replace hk := hk.below hb hk.lt
    replace hB := hB.trans (hb.mono hB.size)
    clear hb
    have c0 := hk.cell_ 0 rfl
    have c1 := hk.cell_ 1 rfl
    have c2 := hk.cell_ 2 rfl
    go_wp2_with fail
    go_ret2
    exact ⟨by rw [HE.out, HR.out]; rfl, hB⟩
  · have HR : Hid (rlE L K l pl = 0) := by show _ = _; unfold rlE; rw [if_neg (by rw [HE.out]; exact h0)]
    have hne : (E != 0) = true := by simp [h0]
    clear h0
    go_wp2_with fail
    go_ret2
    exact ⟨by rw [HE.out, HR.out]; rfl, hB⟩
set_option maxRecDepth 100000 in
theorem refApiRolls_any (L K : Int) (A : Option Addr) (c : Nat) (l : List Ask) (AB : Option Addr) (cB : Nat) (bs : List Bt) (pl : List Bat) (w : World) (hS : Slc Ask.enc 2 w w.heap.size A l) (hP : PlanAt w AB bs pl) (hl : pl.length ≤ 100000) :
    Calls Tryd.prog 51 #[.agg #[.int .i64 L, .int .i64 K, .slice A l.length c], .slice AB pl.length cB] w fun e w' => e = .returned (.tuple #[.int .i64 (rlE L K l pl), .int .i64 (chkE L K l pl)]) ∧ Below w.heap.size w w' := by
  have hk := Blk.new w 24 #[.int .i64 L, .int .i64 K, .slice A l.length c]
  have hB := (Below.refl w.heap.size w).alloc (Nat.le_refl _) (.cells #[.int .i64 L, .int .i64 K, .slice A l.length c] 24)
  go_enter Tryd.func51, Tryd.ntmps51
  go_upto_region 1 with fail
  generalize w.alloc (.cells #[.int .i64 L, .int .i64 K, .slice A l.length c] 24) = W at *
  have c0 := hk.cell_ 0 rfl
  have c1 := hk.cell_ 1 rfl
  have c2 := hk.cell_ 2 rfl
  obtain ⟨E, hE⟩ : ∃ E, chkE L K l pl = E := ⟨_, rfl⟩
  have HE := hide hE
  clear hE
  go_wp2_with fail
  refine (refCheck_is L K A c l AB cB bs pl _ (hS.on hB) (hP.on hB) hl HE.out).mono ?_
  rintro e W ⟨rfl, hb⟩
  clear c0 c1 c2
  replace hk := hk.below hb hk.lt
  replace hB := hB.trans (hb.mono hB.size)
  clear hb
  have c0 := hk.cell_ 0 rfl
  have c1 := hk.cell_ 1 rfl
  have c2 := hk.cell_ 2 rfl
  by_cases h0 : E = 0
  · subst h0
    have HZ := hide (chk_zero HE.out)
    have HR : Hid (rlE L K l pl = rollsI pl) := by show _ = _; unfold rlE; rw [if_pos HE.out]
    go_wp2_with fail
    refine (refRolls_any l.length AB cB bs pl _ (hP.on hB) HZ.out.2.1).mono ?_
    rintro e W ⟨rfl, hb⟩
    clear c0 c1 c2
    replace hk := hk.below hb hk.lt
    replace hB := hB.trans (hb.mono hB.size)
    clear hb
    have c0 := hk.cell_ 0 rfl
    have c1 := hk.cell_ 1 rfl
    have c2 := hk.cell_ 2 rfl
    go_wp2_with fail
    go_ret2
    exact ⟨by rw [HE.out, HR.out]; rfl, hB⟩
  · have HR : Hid (rlE L K l pl = 0) := by show _ = _; unfold rlE; rw [if_neg (by rw [HE.out]; exact h0)]
    have hne : (E != 0) = true := by simp [h0]
    clear h0
    go_wp2_with fail
    go_ret2
    exact ⟨by rw [HE.out, HR.out]; rfl, hB⟩
end Go.Proofs.YtecaaimaeaocbaaDoor
