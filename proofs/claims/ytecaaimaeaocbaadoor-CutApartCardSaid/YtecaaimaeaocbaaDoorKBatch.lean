/- Batches, seen from outside; a plan of more than 1000 batches is no plan. -/
import Derived.Test.YtecaaimaeaocbaaDoorKAwake
import Derived.Test.YtecaaimaeaocbaaDoorApp
namespace Go.Proofs.YtecaaimaeaocbaaDoor
open Go Go.RowKit
structure Bt where
  t : Int
  A : Option Addr
  n : Nat
  c : Nat
instance : Inhabited Bt := ⟨⟨0, none, 0, 0⟩⟩
def Bt.enc (b : Bt) : List Value := [.int .i64 b.t, .slice b.A b.n b.c]
theorem et_batch : ElemT Tryd.prog 74 73 2 := elemT_mk Tryd.underlying74 (z := .agg #[.int .i64 0, .slice none 0 0]) (bytes := 32) (by kernel_rfl) rfl (by omega) (by omega)
theorem bt_at {w : World} {B : Nat} {A : Option Addr} {xs : List Bt} {k : Nat} (h : Slc Bt.enc 2 w B A xs) (hk : k < xs.length) :
    ∃ n b off, xs[k]? = some n ∧ A = some ⟨b, off, none⟩ ∧ b < B ∧ w.cell? ⟨b, off + k * 2, none⟩ = some (.int .i64 n.t) ∧ w.cell? ⟨b, off + k * 2 + 1, none⟩ = some (.slice n.A n.n n.c) := by
  have hx : xs[k]? = some xs[k] := List.getElem?_eq_getElem hk
  obtain ⟨b, off, ha, hb, h0⟩ := h k _ hx
  exact ⟨xs[k], b, off, hx, ha, hb, h0 0 _ rfl, h0 1 _ rfl⟩
/-- Wide: more than 30 asks, more than 60 batches, or a batch of more than 30 counts -/
def wideP (n : Nat) (bs : List Bt) : Bool := decide (30 < n) || decide (60 < bs.length) || bs.any fun b => decide (30 < b.n)
set_option maxRecDepth 100000 in
theorem wide_any (L K : Int) (A : Option Addr) (c : Nat) (l : List Ask) (AB : Option Addr) (cB : Nat) (bs : List Bt) (w : World) (hS : Slc Bt.enc 2 w w.heap.size AB bs) :
    Calls Tryd.prog 17 #[.agg #[.int .i64 L, .int .i64 K, .slice A l.length c], .slice AB bs.length cB] w fun e w' => e = .returned (.bool (wideP l.length bs)) ∧ Below w.heap.size w w' := by
  have HD : Hid (wideP l.length bs = (decide (30 < l.length) || decide (60 < bs.length) || bs.any fun b => decide (30 < b.n))) := rfl
  have hk := Blk.new w 24 #[.int .i64 L, .int .i64 K, .slice A l.length c]
  have hB := (Below.refl w.heap.size w).alloc (Nat.le_refl _) (.cells #[.int .i64 L, .int .i64 K, .slice A l.length c] 24)
  go_enter Tryd.func17, Tryd.ntmps17
  go_upto_region 1 with fail
  generalize w.alloc (.cells #[.int .i64 L, .int .i64 K, .slice A l.length c] 24) = W at *
  have c0 := hk.cell_ 0 rfl
  have c1 := hk.cell_ 1 rfl
  have c2 := hk.cell_ 2 rfl
  by_cases h1 : (30 : Int) < (l.length : Int)
  · have HV : Hid (wideP l.length bs = true) := by show _ = _; rw [HD.out, decide_eq_true (by omega)]; rfl
    go_wp2_with fail
    go_ret
    exact ⟨ret_bool HV.out.symm, hB⟩
  by_cases h2 : (60 : Int) < (bs.length : Int)
  · have HV : Hid (wideP l.length bs = true) := by show _ = _; rw [HD.out, decide_eq_true (p := 60 < bs.length) (by omega)]; simp
    go_wp2_with fail
    go_ret
    exact ⟨ret_bool HV.out.symm, hB⟩
  have HA : Hid (wideP l.length bs = !((bs.drop 0).all fun b => !decide (30 < b.n))) := by
    show _ = _
    rw [HD.out, decide_eq_false (p := 30 < l.length) (by omega), decide_eq_false (p := 60 < bs.length) (by omega), Bool.false_or, Bool.false_or, List.drop_zero]
    simp [List.all_eq_not_any_not]
  clear HD
  go_wp2_with fail
  clear c0 c1 c2
  go_loopw [5] (fun y W => ∃ (i : Nat), y = .int .i64 i ∧ i ≤ bs.length ∧ Hid (wideP l.length bs = !((bs.drop i).all fun b => !decide (30 < b.n))) ∧ Blk W w.heap.size 24 #[.int .i64 L, .int .i64 K, .slice A l.length c] ∧ Below w.heap.size w W) (fun y _ => bs.length - (intOf y).toNat)
  case atStart => exact ⟨0, rfl, Nat.zero_le _, HA, hk, hB⟩
  case round =>
    clear hk hB HA
    obtain ⟨W, rfl⟩ : ∃ W : World, W = wr := ⟨_, rfl⟩
    obtain ⟨i, rfl, hi, HA, hk, hB⟩ := hrel
    by_cases hlt : i < bs.length
    · obtain ⟨x, b, off, hx, hA, _, d0, d1⟩ := bt_at (hS.below hB) hlt
      have hii : (i : Int) < (bs.length : Int) := by omega
      have HX := hide hx
      clear hx
      subst hA
      by_cases h3 : (30 : Int) < (x.n : Int)
      · have HV : Hid (wideP l.length bs = true) := by show _ = _; rw [HA.out, all_drop HX.out, decide_eq_true (by omega)]; rfl
        go_wp2_with fail
        go_ret
        exact ⟨ret_bool HV.out.symm, hB⟩
      · have HA2 : Hid (wideP l.length bs = !((bs.drop (i + 1)).all fun b => !decide (30 < b.n))) := by show _ = _; rw [HA.out, all_drop HX.out, decide_eq_false (by omega)]; rfl
        go_wp2_with fail
        go_roundw
        case rel => exact ⟨i + 1, by go_num, by omega, HA2, hk, hB⟩
        case measure => simp [intOf]; omega
    · obtain rfl : i = bs.length := by omega
      have HV : Hid (wideP l.length bs = false) := by show _ = _; rw [HA.out, List.drop_length]; rfl
      go_wp2_with fail
      go_ret
      exact ⟨ret_bool HV.out.symm, hB⟩
/-- cut.shaped -/
def shapedB (n : Nat) (bs : List Bt) : Bool := decide (bs.length ≤ 1000) && bs.all fun b => inB 1 b.t 1000 && decide (b.n = n)
set_option maxRecDepth 100000 in
theorem shaped_any (L K : Int) (A : Option Addr) (c : Nat) (l : List Ask) (AB : Option Addr) (cB : Nat) (bs : List Bt) (w : World) (hS : Slc Bt.enc 2 w w.heap.size AB bs) (hl : bs.length ≤ 100000) :
    Calls Tryd.prog 86 #[.agg #[.int .i64 L, .int .i64 K, .slice A l.length c], .slice AB bs.length cB] w fun e w' => e = .returned (.bool (shapedB l.length bs)) ∧ Below w.heap.size w w' := by
  have HD : Hid (shapedB l.length bs = (decide (bs.length ≤ 1000) && bs.all fun b => inB 1 b.t 1000 && decide (b.n = l.length))) := rfl
  have hk := Blk.new w 24 #[.int .i64 L, .int .i64 K, .slice A l.length c]
  have hB := (Below.refl w.heap.size w).alloc (Nat.le_refl _) (.cells #[.int .i64 L, .int .i64 K, .slice A l.length c] 24)
  go_enter Tryd.func86, Tryd.ntmps86
  go_upto_region 1 with fail
  generalize w.alloc (.cells #[.int .i64 L, .int .i64 K, .slice A l.length c] 24) = W at *
  have c0 := hk.cell_ 0 rfl
  have c1 := hk.cell_ 1 rfl
  have c2 := hk.cell_ 2 rfl
  have HA : Hid (shapedB l.length bs = (decide (bs.length ≤ 1000) && (bs.drop 0).all fun b => inB 1 b.t 1000 && decide (b.n = l.length))) := HD
  clear HD
  go_wp2_with fail
  clear c0 c1 c2
  go_loopw [9] (fun y W => ∃ (i : Nat), y = .int .i64 i ∧ i ≤ bs.length ∧ Hid (shapedB l.length bs = (decide (bs.length ≤ 1000) && (bs.drop i).all fun b => inB 1 b.t 1000 && decide (b.n = l.length))) ∧ Blk W w.heap.size 24 #[.int .i64 L, .int .i64 K, .slice A l.length c] ∧ Below w.heap.size w W) (fun y _ => bs.length - (intOf y).toNat)
  case atStart => exact ⟨0, rfl, Nat.zero_le _, HA, hk, hB⟩
  case round =>
    clear hk hB HA
    obtain ⟨W, rfl⟩ : ∃ W : World, W = wr := ⟨_, rfl⟩
    obtain ⟨i, rfl, hi, HA, hk, hB⟩ := hrel
    by_cases hlt : i < bs.length
    · obtain ⟨x, b, off, hx, hA, _, d0, d1⟩ := bt_at (hS.below hB) hlt
      have hii : (i : Int) < (bs.length : Int) := by omega
      have HX := hide hx
      clear hx
      subst hA
      have c0 := hk.cell_ 0 rfl
      have c1 := hk.cell_ 1 rfl
      have c2 := hk.cell_ 2 rfl
      have q_c0 := (hk.alloc (.cells #[.int .i64 x.t, .slice x.A x.n x.c] 73)).cell_ 0 rfl
      have q_c1 := (hk.alloc (.cells #[.int .i64 x.t, .slice x.A x.n x.c] 73)).cell_ 1 rfl
      have q_c2 := (hk.alloc (.cells #[.int .i64 x.t, .slice x.A x.n x.c] 73)).cell_ 2 rfl
      go_upto_region 4 with fail
      clear q_c0 q_c1 q_c2
      clear c0 c1 c2
      have hm := Blk.new W 73 #[.int .i64 x.t, .slice x.A x.n x.c]
      replace hk := hk.alloc (.cells #[.int .i64 x.t, .slice x.A x.n x.c] 73)
      have hsz_bx : (W.alloc (.cells #[.int .i64 x.t, .slice x.A x.n x.c] 73)).heap.size = W.heap.size + 1 := by simp
      have bxge := hB.size
      replace hB := hB.alloc hB.size (.cells #[.int .i64 x.t, .slice x.A x.n x.c] 73)
      generalize hbx : W.heap.size = bx at *
      generalize W.alloc (.cells #[.int .i64 x.t, .slice x.A x.n x.c] 73) = W at *
      clear hbx
      have c0 := hk.cell_ 0 rfl
      have c1 := hk.cell_ 1 rfl
      have c2 := hk.cell_ 2 rfl
      have m0 := hm.cell_ 0 rfl
      have m1 := hm.cell_ 1 rfl
      clear d0 d1
      cases q1 : inB 1 x.t 1000
      case false =>
        have HV : Hid (shapedB l.length bs = false) := by show _ = _; rw [HA.out, all_drop HX.out, q1]; simp
        go_wp2_with fail
        refine (kwithin_is 1 x.t 1000 _ q1).mono ?_
        rintro e W' ⟨rfl, rfl⟩
        clear q1
        go_wp2_with fail
        go_ret
        exact ⟨ret_bool HV.out.symm, hB⟩
      case true =>
        by_cases h3 : x.n = l.length
        · have HA2 : Hid (shapedB l.length bs = (decide (bs.length ≤ 1000) && (bs.drop (i + 1)).all fun b => inB 1 b.t 1000 && decide (b.n = l.length))) := by show _ = _; rw [HA.out, all_drop HX.out, q1, decide_eq_true h3]; rfl
          have hne : ((x.n : Int) != (l.length : Int)) = false := by simp [h3]
          clear h3
          go_wp2_with fail
          refine (kwithin_is 1 x.t 1000 _ q1).mono ?_
          rintro e W' ⟨rfl, rfl⟩
          clear q1
          go_wp2_with fail
          go_roundw
          case rel => exact ⟨i + 1, by go_num, by omega, HA2, hk, hB⟩
          case measure => simp [intOf]; omega
        · have HV : Hid (shapedB l.length bs = false) := by show _ = _; rw [HA.out, all_drop HX.out, q1, decide_eq_false h3]; simp
          have hne : ((x.n : Int) != (l.length : Int)) = true := by simp; omega
          clear h3
          go_wp2_with fail
          refine (kwithin_is 1 x.t 1000 _ q1).mono ?_
          rintro e W' ⟨rfl, rfl⟩
          clear q1
          go_wp2_with fail
          go_ret
          exact ⟨ret_bool HV.out.symm, hB⟩
    · obtain rfl : i = bs.length := by omega
      have HV : Hid (shapedB l.length bs = decide (bs.length ≤ 1000)) := by show _ = _; rw [HA.out, List.drop_length]; simp
      by_cases h4 : (bs.length : Int) ≤ 1000
      · rw [decide_eq_true (by omega)] at HV
        go_wp2_with fail
        go_ret
        exact ⟨ret_bool HV.out.symm, hB⟩
      · rw [decide_eq_false (by omega)] at HV
        go_wp2_with fail
        go_ret
        exact ⟨ret_bool HV.out.symm, hB⟩
theorem shaped_is (L K : Int) (A : Option Addr) (c : Nat) (l : List Ask) (AB : Option Addr) (cB : Nat) (bs : List Bt) (w : World) (hS : Slc Bt.enc 2 w w.heap.size AB bs) (hl : bs.length ≤ 100000) {v : Bool} (h : shapedB l.length bs = v) :
    Calls Tryd.prog 86 #[.agg #[.int .i64 L, .int .i64 K, .slice A l.length c], .slice AB bs.length cB] w fun e w' => e = .returned (.bool v) ∧ Below w.heap.size w w' := by
  subst h; exact shaped_any L K A c l AB cB bs w hS hl
theorem kvalidB_is (L K : Int) (A : Option Addr) (c : Nat) (l : List Ask) (w : World) (hS : Slc Ask.enc 2 w w.heap.size A l) {v : Bool} (h : validK L K l = v) :
    Calls Tryd.prog 25 #[.agg #[.int .i64 L, .int .i64 K, .slice A l.length c]] w fun e w' => e = .returned (.bool v) ∧ Below w.heap.size w w' := by
  subst h; exact kvalid_any L K A c l w hS
set_option maxRecDepth 100000 in
theorem checkLong_any (L K : Int) (A : Option Addr) (c : Nat) (l : List Ask) (AB : Option Addr) (cB : Nat) (bs : List Bt) (w : World) (hK : Slc Ask.enc 2 w w.heap.size A l) (hS : Slc Bt.enc 2 w w.heap.size AB bs) (hl : bs.length ≤ 100000) (hv : validK L K l = true) (hs : shapedB l.length bs = false) :
    Calls Tryd.prog 46 #[.agg #[.int .i64 L, .int .i64 K, .slice A l.length c], .slice AB bs.length cB] w fun e w' => e = .returned (.int .i64 2) ∧ Below w.heap.size w w' := by
  have HV := hide hv
  have HS := hide hs
  clear hv hs
  have hk := Blk.new w 24 #[.int .i64 L, .int .i64 K, .slice A l.length c]
  have hB := (Below.refl w.heap.size w).alloc (Nat.le_refl _) (.cells #[.int .i64 L, .int .i64 K, .slice A l.length c] 24)
  go_enter Tryd.func46, Tryd.ntmps46
  go_upto_region 1 with fail
  generalize w.alloc (.cells #[.int .i64 L, .int .i64 K, .slice A l.length c] 24) = W at *
  have c0 := hk.cell_ 0 rfl
  have c1 := hk.cell_ 1 rfl
  have c2 := hk.cell_ 2 rfl
  go_wp2_with fail
  refine (kvalidB_is L K A c l _ (hK.on hB) HV.out).mono ?_
  rintro e W ⟨rfl, hb⟩
  clear c0 c1 c2
  replace hk := hk.below hb hk.lt
  replace hB := hB.trans (hb.mono hB.size)
  clear hb
  have c0 := hk.cell_ 0 rfl
  have c1 := hk.cell_ 1 rfl
  have c2 := hk.cell_ 2 rfl
  go_wp2_with fail
  refine (shaped_is L K A c l AB cB bs _ (hS.on hB) hl HS.out).mono ?_
  rintro e W ⟨rfl, hb⟩
  clear c0 c1 c2
  replace hk := hk.below hb hk.lt
  replace hB := hB.trans (hb.mono hB.size)
  clear hb
  have c0 := hk.cell_ 0 rfl
  have c1 := hk.cell_ 1 rfl
  have c2 := hk.cell_ 2 rfl
  go_wp2_with fail
  go_ret
  exact ⟨rfl, hB⟩
set_option maxRecDepth 100000 in
theorem rollsLong_any (L K : Int) (A : Option Addr) (c : Nat) (l : List Ask) (AB : Option Addr) (cB : Nat) (bs : List Bt) (w : World) (hK : Slc Ask.enc 2 w w.heap.size A l) (hS : Slc Bt.enc 2 w w.heap.size AB bs) (hl : bs.length ≤ 100000) (hv : validK L K l = true) (hs : shapedB l.length bs = false) :
    Calls Tryd.prog 44 #[.agg #[.int .i64 L, .int .i64 K, .slice A l.length c], .slice AB bs.length cB] w fun e w' => e = .returned (.tuple #[.int .i64 0, .int .i64 2]) ∧ Below w.heap.size w w' := by
  have HV := hide hv
  have HS := hide hs
  clear hv hs
  have hk := Blk.new w 24 #[.int .i64 L, .int .i64 K, .slice A l.length c]
  have hB := (Below.refl w.heap.size w).alloc (Nat.le_refl _) (.cells #[.int .i64 L, .int .i64 K, .slice A l.length c] 24)
  go_enter Tryd.func44, Tryd.ntmps44
  go_upto_region 1 with fail
  generalize w.alloc (.cells #[.int .i64 L, .int .i64 K, .slice A l.length c] 24) = W at *
  have c0 := hk.cell_ 0 rfl
  have c1 := hk.cell_ 1 rfl
  have c2 := hk.cell_ 2 rfl
  go_wp2_with fail
  refine (checkLong_any L K A c l AB cB bs _ (hK.on hB) (hS.on hB) hl HV.out HS.out).mono ?_
  rintro e W ⟨rfl, hb⟩
  clear c0 c1 c2
  replace hk := hk.below hb hk.lt
  replace hB := hB.trans (hb.mono hB.size)
  clear hb
  have c0 := hk.cell_ 0 rfl
  have c1 := hk.cell_ 1 rfl
  have c2 := hk.cell_ 2 rfl
  go_wp2_with fail
  go_ret2
  exact ⟨rfl, hB⟩
set_option maxRecDepth 100000 in
theorem canonLong_any (L K : Int) (A : Option Addr) (c : Nat) (l : List Ask) (AB : Option Addr) (cB : Nat) (bs : List Bt) (w : World) (hK : Slc Ask.enc 2 w w.heap.size A l) (hS : Slc Bt.enc 2 w w.heap.size AB bs) (hl : bs.length ≤ 100000) (hv : validK L K l = true) (hs : shapedB l.length bs = false) :
    Calls Tryd.prog 45 #[.agg #[.int .i64 L, .int .i64 K, .slice A l.length c], .slice AB bs.length cB] w fun e w' => e = .returned (.tuple #[.slice none 0 0, .int .i64 2]) ∧ Below w.heap.size w w' := by
  have HV := hide hv
  have HS := hide hs
  clear hv hs
  have hk := Blk.new w 24 #[.int .i64 L, .int .i64 K, .slice A l.length c]
  have hB := (Below.refl w.heap.size w).alloc (Nat.le_refl _) (.cells #[.int .i64 L, .int .i64 K, .slice A l.length c] 24)
  go_enter Tryd.func45, Tryd.ntmps45
  go_upto_region 1 with fail
  generalize w.alloc (.cells #[.int .i64 L, .int .i64 K, .slice A l.length c] 24) = W at *
  have c0 := hk.cell_ 0 rfl
  have c1 := hk.cell_ 1 rfl
  have c2 := hk.cell_ 2 rfl
  go_wp2_with fail
  refine (checkLong_any L K A c l AB cB bs _ (hK.on hB) (hS.on hB) hl HV.out HS.out).mono ?_
  rintro e W ⟨rfl, hb⟩
  clear c0 c1 c2
  replace hk := hk.below hb hk.lt
  replace hB := hB.trans (hb.mono hB.size)
  clear hb
  have c0 := hk.cell_ 0 rfl
  have c1 := hk.cell_ 1 rfl
  have c2 := hk.cell_ 2 rfl
  go_wp2_with fail
  go_ret2
  exact ⟨rfl, hB⟩
end Go.Proofs.YtecaaimaeaocbaaDoor
