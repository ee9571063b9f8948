/- Parts of the proofs of this seat: Better, Add, Recv, Room, BalA, Copy. Each part says what it proves; no condition beyond those stated there. -/
import Derived.Deep.CutBlock
import Derived.Test.YtpeokpnjnmgloaaM3
import Derived.Test.YtpeokpnjnmgloaaM4
import Derived.Test.YtpeokpnjnmgloaaM10
import Derived.Test.YtpeokpnjnmgloaaM14
import Derived.Test.YtpeokpnjnmgloaaM29

/- better: which item is taken first. -/
namespace Go.Proofs.Ytpeokpnjnmgloaa
open Go Go.RowKit
theorem isNaN_any (a : Int) (w : World) : Calls Try.prog 81 #[.int .i64 a] w fun e w' => e = .returned (.bool false) ∧ w = w' := by
  go_enter Try.func81, Try.ntmps81
  go_wp2
  go_ret
  exact ⟨by simp, rfl⟩
def cmpN (a b : Int) : Int := if a < b then -1 else if b < a then 1 else 0
theorem ret_int_ {a b : Int} (h : b = a) : Ending.returned (.int .i64 a) = Ending.returned (.int .i64 b) := by rw [h]
theorem compare_any (a b : Int) (w : World) : Calls Try.prog 75 #[.int .i64 a, .int .i64 b] w fun e w' => e = .returned (.int .i64 (cmpN a b)) ∧ w = w' := by
  have HC : Hid (cmpN a b = if a < b then -1 else if b < a then 1 else 0) := rfl
  by_cases h1 : a < b
  · go_enter Try.func75, Try.ntmps75
    go_wp2_with fail
    refine (isNaN_any _ _).mono ?_
    rintro e W' ⟨rfl, rfl⟩
    go_wp2_with fail
    refine (isNaN_any _ _).mono ?_
    rintro e W' ⟨rfl, rfl⟩
    go_wp2_with fail
    go_ret
    exact ⟨ret_int_ (by rw [HC.out, if_pos h1]), rfl⟩
  · by_cases h2 : b < a
    · go_enter Try.func75, Try.ntmps75
      go_wp2_with fail
      refine (isNaN_any _ _).mono ?_
      rintro e W' ⟨rfl, rfl⟩
      go_wp2_with fail
      refine (isNaN_any _ _).mono ?_
      rintro e W' ⟨rfl, rfl⟩
      go_wp2_with fail
      go_ret
      exact ⟨ret_int_ (by rw [HC.out, if_neg (by omega), if_pos h2]), rfl⟩
    · go_enter Try.func75, Try.ntmps75
      go_wp2_with fail
      refine (isNaN_any _ _).mono ?_
      rintro e W' ⟨rfl, rfl⟩
      go_wp2_with fail
      refine (isNaN_any _ _).mono ?_
      rintro e W' ⟨rfl, rfl⟩
      go_wp2_with fail
      go_ret
      exact ⟨ret_int_ (by rw [HC.out, if_neg (by omega), if_neg (by omega)]), rfl⟩
def orL : List Int → Int
  | [] => 0
  | x :: xs => if x = 0 then orL xs else x
def betF (a b : Sheet) : Int := orL [cmpN a.width b.width, cmpN a.length b.length, cmpN a.id b.id]
theorem betF_lt (a b : Sheet) : decide (betF a b < 0) = lessS a b := by
  unfold betF lessS
  simp only [orL]
  unfold cmpN
  by_cases h1 : a.width < b.width
  · simp [h1]
  · by_cases h2 : b.width < a.width
    · have : a.width ≠ b.width := by omega
      simp [h1, h2, this]
    · have e : a.width = b.width := by omega
      by_cases h3 : a.length < b.length
      · simp [e, h3]
      · by_cases h4 : b.length < a.length
        · have : a.length ≠ b.length := by omega
          simp [e, h3, h4, this]
        · have e2 : a.length = b.length := by omega
          by_cases h5 : a.id < b.id
          · simp [e, e2, h5]
          · by_cases h6 : b.id < a.id
            · simp [e, e2, h5, h6]
            · simp [e, e2, h5, h6]
set_option maxRecDepth 100000 in
set_option maxHeartbeats 1000000 in
theorem or_any (A : Option Addr) (c : Nat) (l : List Int) (w : World) (hS : Slc intEnc 1 w w.heap.size A l) (hl : l.length ≤ 1000) : Calls Try.prog 74 #[.slice A l.length c] w fun e w' => e = .returned (.int .i64 (orL l)) ∧ Below w.heap.size w w' := by
  go_enter Try.func74, Try.ntmps74
  go_upto_block 3 with fail
  go_loopw [8] (fun z wr => ∃ (i : Nat), z = .int .i64 i ∧ i ≤ l.length ∧ Hid (orL l = orL (l.drop i)) ∧ Below w.heap.size w wr) (fun z _ => l.length - (intOf z).toNat)
  case atStart => exact ⟨0, rfl, Nat.zero_le _, rfl, Below.refl _ _⟩
  case round =>
    obtain ⟨W, rfl⟩ : ∃ W : World, W = wr := ⟨_, rfl⟩
    obtain ⟨i, rfl, hi, HL, hB⟩ := hrel
    by_cases hlt : i < l.length
    · obtain ⟨k, bK, oK, hk, hA, hbK, d0⟩ := ints_at' (hS.below hB) hlt
      have hii : (i : Int) < (l.length : Int) := by omega
      have ei : IntKind.i64.wrap ((i : Int) + 1) = ((i + 1 : Nat) : Int) := by rw [IntWalk.i64_in _ (by omega)]; push_cast; rfl
      have hd : l.drop i = k :: l.drop (i + 1) := by
        obtain ⟨h1, h2⟩ := List.getElem?_eq_some_iff.1 hk
        rw [List.drop_eq_getElem_cons h1, h2]
      have HT : Hid (orL l = if k = 0 then orL (l.drop (i + 1)) else k) := by show _ = _; rw [HL.out, hd]; rfl
      subst hA
      clear hk hd
      by_cases hc : k = 0
      · have HT2 : Hid (orL l = orL (l.drop (i + 1))) := by show _ = _; rw [HT.out, if_pos hc]
        go_wp2_with fail
        go_roundw
        case rel => exact ⟨i + 1, by go_num, by omega, HT2, hB⟩
        case measure => simp [intOf]; omega
      · go_wp2_with fail
        go_ret
        exact ⟨ret_int_ (by rw [HT.out, if_neg hc]), hB⟩
    · obtain rfl : i = l.length := by omega
      have h9 : Hid (orL l = 0) := by show _ = _; rw [HL.out, List.drop_length]; rfl
      go_wp2_with fail
      go_ret
      exact ⟨ret_int_ h9.out, hB⟩
theorem slc3 {w : World} {g : Nat} {t : TypeId} (x y z : Int) (h : Blk w g t #[.int .i64 x, .int .i64 y, .int .i64 z]) : Slc intEnc 1 w w.heap.size (some ⟨g, 0, none⟩) [x, y, z] := fun i v hv => by
  refine ⟨g, 0, rfl, h.lt, fun j u hu => ?_⟩
  match i, hv with
  | 0, hv =>
    simp at hv; subst hv
    match j, hu with
    | 0, hu => simp [intEnc] at hu; subst hu; exact h.cell_ 0 rfl
    | j + 1, hu => simp [intEnc] at hu
  | 1, hv =>
    simp at hv; subst hv
    match j, hu with
    | 0, hu => simp [intEnc] at hu; subst hu; exact h.cell_ 1 rfl
    | j + 1, hu => simp [intEnc] at hu
  | 2, hv =>
    simp at hv; subst hv
    match j, hu with
    | 0, hu => simp [intEnc] at hu; subst hu; exact h.cell_ 2 rfl
    | j + 1, hu => simp [intEnc] at hu
  | i + 3, hv => simp at hv
theorem run_build3 (x y z : Int) (w : World) : (Instr.buildSlice 71 3 #[(0, .int .i64 x), (1, .int .i64 y), (2, .int .i64 z)]).run Try.prog w = .ok (.slice (some ⟨w.heap.size, 0, none⟩) 3 3) (w.alloc (.cells #[.int .i64 x, .int .i64 y, .int .i64 z] 3)) := by
  kernel_rfl
set_option maxRecDepth 100000 in
set_option maxHeartbeats 2000000 in
theorem better_any (x y : Sheet) (A A' : Option Addr) (c c' : Nat) (w : World) : Calls Try.prog 57 #[x.valAt A c, y.valAt A' c'] w fun e w' => e = .returned (.int .i64 (betF x y)) ∧ Below w.heap.size w w' := by
  unfold Sheet.valAt
  obtain ⟨k1, hk1⟩ : ∃ k, k = cmpN x.width y.width := ⟨_, rfl⟩
  obtain ⟨k2, hk2⟩ : ∃ k, k = cmpN x.length y.length := ⟨_, rfl⟩
  obtain ⟨k3, hk3⟩ : ∃ k, k = cmpN x.id y.id := ⟨_, rfl⟩
  have HK : Hid (betF x y = orL [k1, k2, k3]) := by show _ = _; unfold betF; rw [hk1, hk2, hk3]
  have H1 : Hid (∀ w, Calls Try.prog 75 #[.int .i64 x.width, .int .i64 y.width] w fun e w' => e = .returned (.int .i64 k1) ∧ w = w') := fun w => by rw [hk1]; exact compare_any _ _ w
  have H2 : Hid (∀ w, Calls Try.prog 75 #[.int .i64 x.length, .int .i64 y.length] w fun e w' => e = .returned (.int .i64 k2) ∧ w = w') := fun w => by rw [hk2]; exact compare_any _ _ w
  have H3 : Hid (∀ w, Calls Try.prog 75 #[.int .i64 x.id, .int .i64 y.id] w fun e w' => e = .returned (.int .i64 k3) ∧ w = w') := fun w => by rw [hk3]; exact compare_any _ _ w
  clear hk1 hk2 hk3
  have hx := (Blk.new w 65 #[.int .i64 x.id, .int .i64 x.root, .int .i64 x.grade, .int .i64 x.colour, .int .i64 x.lot, .int .i64 x.made, .int .i64 x.width, .int .i64 x.length, .slice A x.faults.length c]).alloc (.cells #[.int .i64 y.id, .int .i64 y.root, .int .i64 y.grade, .int .i64 y.colour, .int .i64 y.lot, .int .i64 y.made, .int .i64 y.width, .int .i64 y.length, .slice A' y.faults.length c'] 65)
  have hy := Blk.new (w.alloc (.cells #[.int .i64 x.id, .int .i64 x.root, .int .i64 x.grade, .int .i64 x.colour, .int .i64 x.lot, .int .i64 x.made, .int .i64 x.width, .int .i64 x.length, .slice A x.faults.length c] 65)) 65 #[.int .i64 y.id, .int .i64 y.root, .int .i64 y.grade, .int .i64 y.colour, .int .i64 y.lot, .int .i64 y.made, .int .i64 y.width, .int .i64 y.length, .slice A' y.faults.length c']
  rw [show (w.alloc (.cells #[.int .i64 x.id, .int .i64 x.root, .int .i64 x.grade, .int .i64 x.colour, .int .i64 x.lot, .int .i64 x.made, .int .i64 x.width, .int .i64 x.length, .slice A x.faults.length c] 65)).heap.size = w.heap.size + 1 by simp] at hy
  have hB := ((Below.refl w.heap.size w).alloc (Nat.le_refl _) (.cells #[.int .i64 x.id, .int .i64 x.root, .int .i64 x.grade, .int .i64 x.colour, .int .i64 x.lot, .int .i64 x.made, .int .i64 x.width, .int .i64 x.length, .slice A x.faults.length c] 65)).alloc (by simp) (.cells #[.int .i64 y.id, .int .i64 y.root, .int .i64 y.grade, .int .i64 y.colour, .int .i64 y.lot, .int .i64 y.made, .int .i64 y.width, .int .i64 y.length, .slice A' y.faults.length c'] 65)
  go_enter Try.func57, Try.ntmps57
  go_upto_region 1 with fail
  generalize (w.alloc (.cells #[.int .i64 x.id, .int .i64 x.root, .int .i64 x.grade, .int .i64 x.colour, .int .i64 x.lot, .int .i64 x.made, .int .i64 x.width, .int .i64 x.length, .slice A x.faults.length c] 65)).alloc (.cells #[.int .i64 y.id, .int .i64 y.root, .int .i64 y.grade, .int .i64 y.colour, .int .i64 y.lot, .int .i64 y.made, .int .i64 y.width, .int .i64 y.length, .slice A' y.faults.length c'] 65) = W at *
  have HX := hide hx
  have HY := hide hy
  have HB := hide hB
  clear hx hy hB
  refine wp_region_buildc (cs := #[.int .i64 k1, .int .i64 k2, .int .i64 k3]) (e := 3) (m := 3) 17 15 16 [0, 1, 2, 3, 4, 5, 6, 7, 8, 9, 10, 11, 12, 13, 14] (.int .i64 (orL [k1, k2, k3])) (by kernel_rfl) (by kernel_rfl) (by kernel_rfl) (by kernel_rfl) (by decide) rfl rfl rfl rfl rfl (fun _ _ => rfl) ?_
  apply Exists.intro
  refine ⟨fun W1 hc => ?_, ?_⟩
  · have hx1 := HX.out.below hc HX.out.lt
    have hy1 := HY.out.below hc HY.out.lt
    have x0 := Since.cell (hx1.cell_ 0 (v := .int .i64 x.id) rfl)
    have x6 := Since.cell (hx1.cell_ 6 (v := .int .i64 x.width) rfl)
    have x7 := Since.cell (hx1.cell_ 7 (v := .int .i64 x.length) rfl)
    have y0 := Since.cell (hy1.cell_ 0 (v := .int .i64 y.id) rfl)
    have y6 := Since.cell (hy1.cell_ 6 (v := .int .i64 y.width) rfl)
    have y7 := Since.cell (hy1.cell_ 7 (v := .int .i64 y.length) rfl)
    clear hx1 hy1
    dsimp only [pick, List.filterMap, List.getElem?_cons_succ, List.getElem?_cons_zero]
    repeat (go_big_quiet_step ((first | (go_at_call 75; with_reducible exact Since.calls_same (H1.out _)) | (go_at_call 75; with_reducible exact Since.calls_same (H2.out _)) | (go_at_call 75; with_reducible exact Since.calls_same (H3.out _)))))
    exact wpQuiet_nil rfl
  refine ⟨rfl, fun w1 => exec_build rfl (by simp [Act.eval] <;> rfl) (run_build3 k1 k2 k3 w1), fun u0 => ⟨rfl, by simp [Act.eval, Act.put]⟩, fun g w1 hb => or_any _ 3 [k1, k2, k3] w1 (slc3 k1 k2 k3 hb) (by simp), fun g w2 hb => ?_⟩
  have hB := HB.out.trans (hb.mono HB.out.size)
  clear HX HY HB hb
  dsimp only [Act.put]
  simp only [List.setIfInBounds_toArray, List.set_cons_succ, List.set_cons_zero, List.drop_succ_cons, List.drop_zero]
  go_wp2_with fail
  go_ret
  exact ⟨ret_int_ HK.out, hB⟩
end Go.Proofs.Ytpeokpnjnmgloaa

/- add: an item is put on the shelf, or its area counted as waste. -/
namespace Go.Proofs.Ytpeokpnjnmgloaa
open Go Go.RowKit
theorem ItV.withId {w : World} {x : Sheet} {A : Option Addr} {c : Nat} (h : ItV w x (x.valAt A c)) (k : Int) : ItV w { x with id := k } (.agg #[.int .i64 k, .int .i64 x.root, .int .i64 x.grade, .int .i64 x.colour, .int .i64 x.lot, .int .i64 x.made, .int .i64 x.width, .int .i64 x.length, .slice A x.faults.length c]) := by
  obtain ⟨A', c', h1, h2, h3⟩ := h
  have h4 : Sheet.valAt x A c = Sheet.valAt x A' c' := h1
  unfold Sheet.valAt at h4
  injection h4 with h4
  have h5 := congrArg (fun (a : Array Value) => a[8]?) h4
  simp at h5
  obtain ⟨rfl, rfl⟩ := h5
  exact ⟨A, c, rfl, h2, h3⟩
theorem Chg.of_new {w w1 w2 : World} {S : Nat → Prop} {b : Nat} (h : Chg S w w1) (hc : Chg (fun k => k = b) w1 w2) (hb : w.heap.size ≤ b) : Chg S w w2 :=
  h.trans' hc fun i hi hT => by subst hT; omega
set_option maxRecDepth 100000 in
set_option maxHeartbeats 4000000 in
theorem add_any (p : Fp) (s : SS) (x : Sheet) (A : Option Addr) (c : Nat) (up minW : Int) (w : World) (hX : StA w p s) (hV : ItV w x (x.valAt A c)) (har : 0 ≤ x.width * x.length ∧ x.width * x.length ≤ 900000) (hwb : 0 ≤ s.waste ∧ s.waste ≤ 2000000000000000) (hlb : 0 ≤ s.last ∧ s.last ≤ 2000000000000000) :
    Calls Try.prog 59 #[.pointer (some ⟨p.g, 0, none⟩), x.valAt A c, .int .i64 up, .int .i64 minW] w fun e w' => e = .returned (.tuple #[]) ∧ StA w' p (addF s x up minW) ∧ Chg p.has w w' := by
  have HAR := hide har
  have HWB := hide hwb
  have HLB := hide hlb
  clear har hwb hlb
  have hx := Blk.new w 65 #[.int .i64 x.id, .int .i64 x.root, .int .i64 x.grade, .int .i64 x.colour, .int .i64 x.lot, .int .i64 x.made, .int .i64 x.width, .int .i64 x.length, .slice A x.faults.length c]
  have hal := (Below.refl w.heap.size w).alloc (Nat.le_refl _) (.cells #[.int .i64 x.id, .int .i64 x.root, .int .i64 x.grade, .int .i64 x.colour, .int .i64 x.lot, .int .i64 x.made, .int .i64 x.width, .int .i64 x.length, .slice A x.faults.length c] 65)
  have hC : Chg p.has w (w.alloc (.cells #[.int .i64 x.id, .int .i64 x.root, .int .i64 x.grade, .int .i64 x.colour, .int .i64 x.lot, .int .i64 x.made, .int .i64 x.width, .int .i64 x.length, .slice A x.faults.length c] 65)) := .of_below hal
  replace hX := hX.below hal
  replace hV := hV.below hal
  clear hal
  have eV : x.valAt A c = .agg #[.int .i64 x.id, .int .i64 x.root, .int .i64 x.grade, .int .i64 x.colour, .int .i64 x.lot, .int .i64 x.made, .int .i64 x.width, .int .i64 x.length, .slice A x.faults.length c] := rfl
  rw [eV]
  clear eV
  have HV := hide hV
  clear hV
  go_enter Try.func59, Try.ntmps59
  go_upto_region 1 with fail
  generalize w.alloc (.cells #[.int .i64 x.id, .int .i64 x.root, .int .i64 x.grade, .int .i64 x.colour, .int .i64 x.lot, .int .i64 x.made, .int .i64 x.width, .int .i64 x.length, .slice A x.faults.length c] 65) = W at *
  obtain ⟨bx, hbx⟩ : ∃ bx, w.heap.size = bx := ⟨_, rfl⟩
  have HBX : Hid (w.heap.size ≤ bx) := by show _ ≤ _; omega
  rw [hbx] at hx ⊢
  clear hbx
  have c1 := hX.blk.cell_ 1 (v := .int .i64 s.rules.minLength) rfl
  have x0 := hx.cell_ 0 rfl
  have x1 := hx.cell_ 1 rfl
  have x2 := hx.cell_ 2 rfl
  have x3 := hx.cell_ 3 rfl
  have x4 := hx.cell_ 4 rfl
  have x5 := hx.cell_ 5 rfl
  have x6 := hx.cell_ 6 rfl
  have x7 := hx.cell_ 7 rfl
  have x8 := hx.cell_ 8 rfl
  by_cases h1 : x.width < minW
  · have d1 : decide (x.width < minW) = true := by simpa using h1
    have d2 : True := trivial
    have h2 : True := trivial
    have HE : Hid (addF s x up minW = { s with waste := s.waste + x.width * x.length }) := by show _ = _; unfold addF; rw [if_pos (.inl h1)]
    clear h1 h2
    go_wp2_with fail
    refine wp_region_quiet (C := fun w' => ∃ u : Since W, w' = u.w) (by kernel_rfl) (by kernel_rfl) (Since.start W) ?_
    dsimp only
    have y_x0 := Since.cell x0
    have y_x1 := Since.cell x1
    have y_x2 := Since.cell x2
    have y_x3 := Since.cell x3
    have y_x4 := Since.cell x4
    have y_x5 := Since.cell x5
    have y_x6 := Since.cell x6
    have y_x7 := Since.cell x7
    have y_x8 := Since.cell x8
    have y_c1 := Since.cell c1
    clear x0 x1 x2 x3 x4 x5 x6 x7 x8
    repeat (go_big_quiet_step ((fail)))
    refine wpQuiet_nil ?_
    rintro W ⟨⟨_, hb⟩, rfl⟩
    try dsimp only at hb ⊢
    replace c1 : W.cell? _ = _ := y_c1 ⟨W, hb⟩
    clear y_x0 y_x1 y_x2 y_x3 y_x4 y_x5 y_x6 y_x7 y_x8 y_c1
    replace hx := hx.below hb hx.lt
    replace hX := StA.below hX hb
    replace hC := Chg.trans hC (Chg.of_below hb)
    replace HV := hide (ItV.below (Hid.out HV) hb)
    clear hb
    have x0 := hx.cell_ 0 rfl
    have x1 := hx.cell_ 1 rfl
    have x2 := hx.cell_ 2 rfl
    have x3 := hx.cell_ 3 rfl
    have x4 := hx.cell_ 4 rfl
    have x5 := hx.cell_ 5 rfl
    have x6 := hx.cell_ 6 rfl
    have x7 := hx.cell_ 7 rfl
    have x8 := hx.cell_ 8 rfl
    clear x0 x1 x2 x3 x4 x5 x6 x7 x8
    clear d1 d2 c1
    have c12 := hX.blk.cell_ 12 (v := .int .i64 s.waste) rfl
    have e1 : IntKind.i64.wrap (x.width * x.length) = x.width * x.length := IntWalk.i64_in _ (by have := HAR.out; omega)
    have e2 : IntKind.i64.wrap (s.waste + x.width * x.length) = s.waste + x.width * x.length := IntWalk.i64_in _ (by have := HAR.out; have := HWB.out; omega)
    go_wp2_with fail
    have x0 := hx.cell_ 0 rfl
    have x1 := hx.cell_ 1 rfl
    have x2 := hx.cell_ 2 rfl
    have x3 := hx.cell_ 3 rfl
    have x4 := hx.cell_ 4 rfl
    have x5 := hx.cell_ 5 rfl
    have x6 := hx.cell_ 6 rfl
    have x7 := hx.cell_ 7 rfl
    have x8 := hx.cell_ 8 rfl
    refine wp_region_quiet_tail (C := fun w' => ∃ u : Since W, w' = u.w) 12 (by kernel_rfl) (by kernel_rfl) (Since.start W) ?_
    simp only [List.take_succ_cons, List.take_zero, List.drop_succ_cons, List.drop_zero]
    have y_x0 := Since.cell x0
    have y_x1 := Since.cell x1
    have y_x2 := Since.cell x2
    have y_x3 := Since.cell x3
    have y_x4 := Since.cell x4
    have y_x5 := Since.cell x5
    have y_x6 := Since.cell x6
    have y_x7 := Since.cell x7
    have y_x8 := Since.cell x8
    have y_c12 := Since.cell c12
    clear x0 x1 x2 x3 x4 x5 x6 x7 x8
    repeat (go_big_quiet_step ((fail)))
    refine wpQuiet_nil ?_
    rintro W ⟨⟨_, hb⟩, rfl⟩
    try dsimp only at hb ⊢
    replace c12 : W.cell? _ = _ := y_c12 ⟨W, hb⟩
    clear y_x0 y_x1 y_x2 y_x3 y_x4 y_x5 y_x6 y_x7 y_x8 y_c12
    replace hx := hx.below hb hx.lt
    replace hX := StA.below hX hb
    replace hC := Chg.trans hC (Chg.of_below hb)
    replace HV := hide (ItV.below (Hid.out HV) hb)
    clear hb
    have x0 := hx.cell_ 0 rfl
    have x1 := hx.cell_ 1 rfl
    have x2 := hx.cell_ 2 rfl
    have x3 := hx.cell_ 3 rfl
    have x4 := hx.cell_ 4 rfl
    have x5 := hx.cell_ 5 rfl
    have x6 := hx.cell_ 6 rfl
    have x7 := hx.cell_ 7 rfl
    have x8 := hx.cell_ 8 rfl
    clear x0 x1 x2 x3 x4 x5 x6 x7 x8
    go_wp2_with (refine wpList_store_at rfl 3 _ _ rfl (.int .i64 (s.waste + x.width * x.length)) hX.blk rfl rfl (by kernel_rfl) rfl (by simp [storeCells_]) rfl ?_; intro W3 hB3 hc3)
    have hX3 := hX.upd_blk (s' := { s with waste := s.waste + x.width * x.length }) hc3 hB3 (by simp [storeCells_]) rfl rfl rfl rfl
    have hC3 : Chg p.has w W3 := hC.trans (hc3.mono fun k _ hk => .inl hk)
    exact bodyPost_ret (v := .tuple #[]) (results_none rfl _ _ _) rfl ⟨rfl, by rw [HE.out]; exact hX3, hC3⟩
  · have d1 : decide (x.width < minW) = false := by simpa using h1
    by_cases h2 : x.length < s.rules.minLength
    · have d2 : decide (x.length < s.rules.minLength) = true := by simpa using h2
      have HE : Hid (addF s x up minW = { s with waste := s.waste + x.width * x.length }) := by show _ = _; unfold addF; rw [if_pos (.inr h2)]
      clear h1 h2
      go_wp2_with fail
      refine wp_region_quiet (C := fun w' => ∃ u : Since W, w' = u.w) (by kernel_rfl) (by kernel_rfl) (Since.start W) ?_
      dsimp only
      have y_x0 := Since.cell x0
      have y_x1 := Since.cell x1
      have y_x2 := Since.cell x2
      have y_x3 := Since.cell x3
      have y_x4 := Since.cell x4
      have y_x5 := Since.cell x5
      have y_x6 := Since.cell x6
      have y_x7 := Since.cell x7
      have y_x8 := Since.cell x8
      have y_c1 := Since.cell c1
      clear x0 x1 x2 x3 x4 x5 x6 x7 x8
      repeat (go_big_quiet_step ((fail)))
      refine wpQuiet_nil ?_
      rintro W ⟨⟨_, hb⟩, rfl⟩
      try dsimp only at hb ⊢
      replace c1 : W.cell? _ = _ := y_c1 ⟨W, hb⟩
      clear y_x0 y_x1 y_x2 y_x3 y_x4 y_x5 y_x6 y_x7 y_x8 y_c1
      replace hx := hx.below hb hx.lt
      replace hX := StA.below hX hb
      replace hC := Chg.trans hC (Chg.of_below hb)
      replace HV := hide (ItV.below (Hid.out HV) hb)
      clear hb
      have x0 := hx.cell_ 0 rfl
      have x1 := hx.cell_ 1 rfl
      have x2 := hx.cell_ 2 rfl
      have x3 := hx.cell_ 3 rfl
      have x4 := hx.cell_ 4 rfl
      have x5 := hx.cell_ 5 rfl
      have x6 := hx.cell_ 6 rfl
      have x7 := hx.cell_ 7 rfl
      have x8 := hx.cell_ 8 rfl
      clear x0 x1 x2 x3 x4 x5 x6 x7 x8
      clear d1 d2 c1
      have c12 := hX.blk.cell_ 12 (v := .int .i64 s.waste) rfl
      have e1 : IntKind.i64.wrap (x.width * x.length) = x.width * x.length := IntWalk.i64_in _ (by have := HAR.out; omega)
      have e2 : IntKind.i64.wrap (s.waste + x.width * x.length) = s.waste + x.width * x.length := IntWalk.i64_in _ (by have := HAR.out; have := HWB.out; omega)
      go_wp2_with fail
      have x0 := hx.cell_ 0 rfl
      have x1 := hx.cell_ 1 rfl
      have x2 := hx.cell_ 2 rfl
      have x3 := hx.cell_ 3 rfl
      have x4 := hx.cell_ 4 rfl
      have x5 := hx.cell_ 5 rfl
      have x6 := hx.cell_ 6 rfl
      have x7 := hx.cell_ 7 rfl
      have x8 := hx.cell_ 8 rfl
      refine wp_region_quiet_tail (C := fun w' => ∃ u : Since W, w' = u.w) 12 (by kernel_rfl) (by kernel_rfl) (Since.start W) ?_
      simp only [List.take_succ_cons, List.take_zero, List.drop_succ_cons, List.drop_zero]
      have y_x0 := Since.cell x0
      have y_x1 := Since.cell x1
      have y_x2 := Since.cell x2
      have y_x3 := Since.cell x3
      have y_x4 := Since.cell x4
      have y_x5 := Since.cell x5
      have y_x6 := Since.cell x6
      have y_x7 := Since.cell x7
      have y_x8 := Since.cell x8
      have y_c12 := Since.cell c12
      clear x0 x1 x2 x3 x4 x5 x6 x7 x8
      repeat (go_big_quiet_step ((fail)))
      refine wpQuiet_nil ?_
      rintro W ⟨⟨_, hb⟩, rfl⟩
      try dsimp only at hb ⊢
      replace c12 : W.cell? _ = _ := y_c12 ⟨W, hb⟩
      clear y_x0 y_x1 y_x2 y_x3 y_x4 y_x5 y_x6 y_x7 y_x8 y_c12
      replace hx := hx.below hb hx.lt
      replace hX := StA.below hX hb
      replace hC := Chg.trans hC (Chg.of_below hb)
      replace HV := hide (ItV.below (Hid.out HV) hb)
      clear hb
      have x0 := hx.cell_ 0 rfl
      have x1 := hx.cell_ 1 rfl
      have x2 := hx.cell_ 2 rfl
      have x3 := hx.cell_ 3 rfl
      have x4 := hx.cell_ 4 rfl
      have x5 := hx.cell_ 5 rfl
      have x6 := hx.cell_ 6 rfl
      have x7 := hx.cell_ 7 rfl
      have x8 := hx.cell_ 8 rfl
      clear x0 x1 x2 x3 x4 x5 x6 x7 x8
      go_wp2_with (refine wpList_store_at rfl 3 _ _ rfl (.int .i64 (s.waste + x.width * x.length)) hX.blk rfl rfl (by kernel_rfl) rfl (by simp [storeCells_]) rfl ?_; intro W3 hB3 hc3)
      have hX3 := hX.upd_blk (s' := { s with waste := s.waste + x.width * x.length }) hc3 hB3 (by simp [storeCells_]) rfl rfl rfl rfl
      have hC3 : Chg p.has w W3 := hC.trans (hc3.mono fun k _ hk => .inl hk)
      exact bodyPost_ret (v := .tuple #[]) (results_none rfl _ _ _) rfl ⟨rfl, by rw [HE.out]; exact hX3, hC3⟩
    · have d2 : decide (x.length < s.rules.minLength) = false := by simpa using h2
      have HE : Hid (addF s x up minW = { s with last := s.last + 1, parent := put s.parent (s.last + 1) up, items := put s.items (s.last + 1) { x with id := s.last + 1 } }) := by show _ = _; unfold addF; rw [if_neg (by omega)]
      clear h1 h2
      go_wp2_with fail
      refine wp_region_quiet (C := fun w' => ∃ u : Since W, w' = u.w) (by kernel_rfl) (by kernel_rfl) (Since.start W) ?_
      dsimp only
      have y_x0 := Since.cell x0
      have y_x1 := Since.cell x1
      have y_x2 := Since.cell x2
      have y_x3 := Since.cell x3
      have y_x4 := Since.cell x4
      have y_x5 := Since.cell x5
      have y_x6 := Since.cell x6
      have y_x7 := Since.cell x7
      have y_x8 := Since.cell x8
      have y_c1 := Since.cell c1
      clear x0 x1 x2 x3 x4 x5 x6 x7 x8
      repeat (go_big_quiet_step ((fail)))
      refine wpQuiet_nil ?_
      rintro W ⟨⟨_, hb⟩, rfl⟩
      try dsimp only at hb ⊢
      replace c1 : W.cell? _ = _ := y_c1 ⟨W, hb⟩
      clear y_x0 y_x1 y_x2 y_x3 y_x4 y_x5 y_x6 y_x7 y_x8 y_c1
      replace hx := hx.below hb hx.lt
      replace hX := StA.below hX hb
      replace hC := Chg.trans hC (Chg.of_below hb)
      replace HV := hide (ItV.below (Hid.out HV) hb)
      clear hb
      have x0 := hx.cell_ 0 rfl
      have x1 := hx.cell_ 1 rfl
      have x2 := hx.cell_ 2 rfl
      have x3 := hx.cell_ 3 rfl
      have x4 := hx.cell_ 4 rfl
      have x5 := hx.cell_ 5 rfl
      have x6 := hx.cell_ 6 rfl
      have x7 := hx.cell_ 7 rfl
      have x8 := hx.cell_ 8 rfl
      clear x0 x1 x2 x3 x4 x5 x6 x7 x8
      clear d1 d2 c1
      have c10 := hX.blk.cell_ 10 (v := .int .i64 s.last) rfl
      have e1 : IntKind.i64.wrap (s.last + 1) = s.last + 1 := IntWalk.i64_in _ (by have := HLB.out; omega)
      go_upto_region 4 with (refine wpList_store_at rfl 3 _ _ rfl (.int .i64 (s.last + 1)) hX.blk rfl rfl (by kernel_rfl) rfl (by simp [storeCells_]) rfl ?_; intro W3 hB3 hc3)
      have hX3 := hX.upd_blk (s' := { s with last := s.last + 1 }) hc3 hB3 (by simp [storeCells_]) rfl rfl rfl rfl
      have hx3 := hx.chg1 hc3 (hx.ne_ hX.blk (by decide))
      have hC3 : Chg p.has w W3 := hC.trans (hc3.mono fun k _ hk => .inl hk)
      have HV3 : Hid (ItV W3 x (x.valAt A c)) := HV.out.chg hc3 fun k hk => by subst hk; exact NoSpan.blk hX.blk (by decide)
      clear hX hx hC HV hB3 hc3 c10 e1
      obtain ⟨W, rfl⟩ : ∃ X : World, X = W3 := ⟨_, rfl⟩
      try dsimp only [Act.put]
      have c10 := hX3.blk.cell_ 10 (v := .int .i64 (s.last + 1)) rfl
      go_upto_region 5 with (refine wpList_store_at rfl 3 _ _ rfl (.int .i64 (s.last + 1)) hx3 rfl rfl (by kernel_rfl) rfl (by simp) rfl ?_; intro W4 hB4 hc4)
      have hX4 := hX3.chg1 hc4 hx3 (by decide) (by decide)
      have hC4 : Chg p.has w W4 := hC3.of_new hc4 HBX.out
      have HV4 : Hid (ItV W4 x (x.valAt A c)) := HV3.out.chg hc4 fun k hk => by subst hk; exact NoSpan.blk hx3 (by decide)
      clear hX3 hx3 hC3 HV3 hc4 c10
      have hx4 : Blk W4 bx 65 #[.int .i64 (s.last + 1), .int .i64 x.root, .int .i64 x.grade, .int .i64 x.colour, .int .i64 x.lot, .int .i64 x.made, .int .i64 x.width, .int .i64 x.length, .slice A x.faults.length c] := hB4
      clear hB4
      obtain ⟨W, rfl⟩ : ∃ X : World, X = W4 := ⟨_, rfl⟩
      try dsimp only [Act.put]
      have c8 := hX4.blk.cell_ 8 (v := .map (some p.rq)) rfl
      have x0 := hx4.cell_ 0 rfl
      have x1 := hx4.cell_ 1 rfl
      have x2 := hx4.cell_ 2 rfl
      have x3 := hx4.cell_ 3 rfl
      have x4 := hx4.cell_ 4 rfl
      have x5 := hx4.cell_ 5 rfl
      have x6 := hx4.cell_ 6 rfl
      have x7 := hx4.cell_ 7 rfl
      have x8 := hx4.cell_ 8 rfl
      go_wp2_with fail
      refine wp_region_quiet_tail (C := fun w' => ∃ u : Since W, w' = u.w) 7 (by kernel_rfl) (by kernel_rfl) (Since.start W) ?_
      simp only [List.take_succ_cons, List.take_zero, List.drop_succ_cons, List.drop_zero]
      have y_x0 := Since.cell x0
      have y_x1 := Since.cell x1
      have y_x2 := Since.cell x2
      have y_x3 := Since.cell x3
      have y_x4 := Since.cell x4
      have y_x5 := Since.cell x5
      have y_x6 := Since.cell x6
      have y_x7 := Since.cell x7
      have y_x8 := Since.cell x8
      have y_c8 := Since.cell c8
      clear x0 x1 x2 x3 x4 x5 x6 x7 x8
      repeat (go_big_quiet_step ((fail)))
      refine wpQuiet_nil ?_
      rintro W ⟨⟨_, hb⟩, rfl⟩
      try dsimp only at hb ⊢
      replace c8 : W.cell? _ = _ := y_c8 ⟨W, hb⟩
      clear y_x0 y_x1 y_x2 y_x3 y_x4 y_x5 y_x6 y_x7 y_x8 y_c8
      replace hx4 := hx4.below hb hx4.lt
      replace hX4 := StA.below hX4 hb
      replace hC4 := Chg.trans hC4 (Chg.of_below hb)
      replace HV4 := hide (ItV.below (Hid.out HV4) hb)
      clear hb
      have x0 := hx4.cell_ 0 rfl
      have x1 := hx4.cell_ 1 rfl
      have x2 := hx4.cell_ 2 rfl
      have x3 := hx4.cell_ 3 rfl
      have x4 := hx4.cell_ 4 rfl
      have x5 := hx4.cell_ 5 rfl
      have x6 := hx4.cell_ 6 rfl
      have x7 := hx4.cell_ 7 rfl
      have x8 := hx4.cell_ 8 rfl
      clear x0 x1 x2 x3 x4 x5 x6 x7 x8
      clear c8
      go_wp2_with (refine wpList_put_im rfl rfl _ _ _ _ rfl _ _ Try.underlying33 Try.underlying3 p.rq rfl hX4.parent (s.last + 1) (.int .i64 up) rfl rfl ?_; intro W6 hM6 hg6)
      have hX6 := hX4.upd_parent (P' := put s.parent (s.last + 1) up) hg6 (by rw [← put_kv]; exact hM6)
      have hx6 := hx4.chg (S := fun k => k = p.rq) (.of_grown hg6 rfl) (fun he => hX4.parent.blk_ne hx4 he.symm)
      have hC6 : Chg p.has w W6 := hC4.trans (.of_grown hg6 (by simp [Fp.has]))
      have HV6 : Hid (ItV W6 x (x.valAt A c)) := HV4.out.chg (S := fun k => k = p.rq) (.of_grown hg6 rfl) fun k hk => by subst hk; exact NoSpan.map_ hX4.parent
      clear hX4 hx4 hC4 HV4 hM6 hg6
      obtain ⟨W, rfl⟩ : ∃ X : World, X = W6 := ⟨_, rfl⟩
      have c6 := hX6.blk.cell_ 6 (v := .map (some p.ri)) rfl
      have x0 := hx6.cell_ 0 rfl
      have x1 := hx6.cell_ 1 rfl
      have x2 := hx6.cell_ 2 rfl
      have x3 := hx6.cell_ 3 rfl
      have x4 := hx6.cell_ 4 rfl
      have x5 := hx6.cell_ 5 rfl
      have x6 := hx6.cell_ 6 rfl
      have x7 := hx6.cell_ 7 rfl
      have x8 := hx6.cell_ 8 rfl
      go_wp2_with fail
      refine wp_region_quiet_tail (C := fun w' => ∃ u : Since W, w' = u.w) 7 (by kernel_rfl) (by kernel_rfl) (Since.start W) ?_
      simp only [List.take_succ_cons, List.take_zero, List.drop_succ_cons, List.drop_zero]
      have y_x0 := Since.cell x0
      have y_x1 := Since.cell x1
      have y_x2 := Since.cell x2
      have y_x3 := Since.cell x3
      have y_x4 := Since.cell x4
      have y_x5 := Since.cell x5
      have y_x6 := Since.cell x6
      have y_x7 := Since.cell x7
      have y_x8 := Since.cell x8
      have y_c6 := Since.cell c6
      clear x0 x1 x2 x3 x4 x5 x6 x7 x8
      repeat (go_big_quiet_step ((fail)))
      refine wpQuiet_nil ?_
      rintro W ⟨⟨_, hb⟩, rfl⟩
      try dsimp only at hb ⊢
      replace c6 : W.cell? _ = _ := y_c6 ⟨W, hb⟩
      clear y_x0 y_x1 y_x2 y_x3 y_x4 y_x5 y_x6 y_x7 y_x8 y_c6
      replace hx6 := hx6.below hb hx6.lt
      replace hX6 := StA.below hX6 hb
      replace hC6 := Chg.trans hC6 (Chg.of_below hb)
      replace HV6 := hide (ItV.below (Hid.out HV6) hb)
      clear hb
      have x0 := hx6.cell_ 0 rfl
      have x1 := hx6.cell_ 1 rfl
      have x2 := hx6.cell_ 2 rfl
      have x3 := hx6.cell_ 3 rfl
      have x4 := hx6.cell_ 4 rfl
      have x5 := hx6.cell_ 5 rfl
      have x6 := hx6.cell_ 6 rfl
      have x7 := hx6.cell_ 7 rfl
      have x8 := hx6.cell_ 8 rfl
      clear x0 x1 x2 x3 x4 x5 x6 x7 x8
      clear c6
      obtain ⟨MI, hM, hZ⟩ := hX6.items
      have hIt : ItV W { x with id := s.last + 1 } (.agg #[.int .i64 (s.last + 1), .int .i64 x.root, .int .i64 x.grade, .int .i64 x.colour, .int .i64 x.lot, .int .i64 x.made, .int .i64 x.width, .int .i64 x.length, .slice A x.faults.length c]) := HV6.out.withId _
      go_wp2_with (refine wpList_put_im rfl rfl _ _ _ _ rfl _ _ Try.underlying54 Try.underlying3 p.ri rfl hM (s.last + 1) (.agg #[.int .i64 (s.last + 1), .int .i64 x.root, .int .i64 x.grade, .int .i64 x.colour, .int .i64 x.lot, .int .i64 x.made, .int .i64 x.width, .int .i64 x.length, .slice A x.faults.length c]) rfl rfl ?_; intro W9 hM9 hg9)
      have hX9 := hX6.put_item (x := { x with id := s.last + 1 }) hg9 hZ hM9 hIt
      have hC9 : Chg p.has w W9 := hC6.trans (.of_grown hg9 (by simp [Fp.has]))
      exact bodyPost_end (v := .tuple #[]) (results_none rfl _ _ _) rfl ⟨rfl, by rw [HE.out]; exact hX9, hC9⟩
end Go.Proofs.Ytpeokpnjnmgloaa

/- Receive: the walk. -/
namespace Go.Proofs.Ytpeokpnjnmgloaa
open Go Go.RowKit
theorem exec_bstruct {P : Program} {o : Oper} {a : Act} {t : TypeId} {parts : Array (Nat × Operand)} {ps : Array (Nat × Value)} {v : Value} {w w' : World} (ho : o.op = .build t parts) (hp : (parts.map fun (i, x) => (i, a.eval x)) = ps) (hr : (Instr.build t ps).run P w = .ok v w') : (execOp a.eval o).run P w = .ok (.value v) w' := by
  subst hp
  unfold execOp
  simp only [ho, Sem.run_bind, hr, Result.andThen_ok]
  rfl
theorem run_roll (i gr co lo ma wi le : Int) (A : Option Addr) (n c : Nat) (w : World) : (Instr.build 65 #[(0, .int .i64 i), (1, .int .i64 i), (2, .int .i64 gr), (3, .int .i64 co), (4, .int .i64 lo), (5, .int .i64 ma), (6, .int .i64 wi), (7, .int .i64 le), (8, .slice A n c)]).run Try.prog w = .ok (.agg #[.int .i64 i, .int .i64 i, .int .i64 gr, .int .i64 co, .int .i64 lo, .int .i64 ma, .int .i64 wi, .int .i64 le, .slice A n c]) w := run_build w _ _ _ (by kernel_rfl)
theorem fields_kin : (Try.prog.fieldsOf 61).toList.map (fun f => (f.name == "_", f.type, f.offset)) = [(false, 3, 0), (false, 3, 1), (false, 3, 2)] := by kernel_rfl
theorem neq_kin (a b c a' b' c' : Int) (w : World) : (binOp .neq 61 (.agg #[.int .i64 a, .int .i64 b, .int .i64 c]) (.agg #[.int .i64 a', .int .i64 b', .int .i64 c'])).run Try.prog w = .ok (.bool (!(a == a' && (b == b' && c == c')))) w := by
  have hf := fields_kin
  have he : (Op.equalIn 10000 61 (.agg #[.int .i64 a, .int .i64 b, .int .i64 c]) (.agg #[.int .i64 a', .int .i64 b', .int .i64 c'])).run Try.prog w = .ok (a == a' && (b == b' && c == c')) w := by
    rw [run_equalIn_struct w 9999 _ _ _ (by kernel_rfl) (by kernel_rfl)]
    obtain ⟨f0, f1, f2, hl, h0, h1, h2⟩ : ∃ f0 f1 f2, (Try.prog.fieldsOf 61).toList = [f0, f1, f2] ∧ ((f0.name == "_") = false ∧ f0.type = 3 ∧ f0.offset = 0) ∧ ((f1.name == "_") = false ∧ f1.type = 3 ∧ f1.offset = 1) ∧ ((f2.name == "_") = false ∧ f2.type = 3 ∧ f2.offset = 2) := by
      generalize (Try.prog.fieldsOf 61).toList = l at hf
      have hlen : l.length = 3 := by have := congrArg List.length hf; simpa using this
      match l, hlen, hf with
      | [f0, f1, f2], _, hf => simp only [List.map_cons, List.map_nil, List.cons.injEq, Prod.mk.injEq] at hf; exact ⟨f0, f1, f2, rfl, hf.1, hf.2.1, hf.2.2.1⟩
    rw [hl]
    have n0 : f0.name ≠ "_" := by simpa using h0.1
    have n1 : f1.name ≠ "_" := by simpa using h1.1
    have n2 : f2.name ≠ "_" := by simpa using h2.1
    by_cases e0 : a = a' <;> by_cases e1 : b = b' <;> by_cases e2 : c = c' <;>
      simp [Op.eqFields, n0, n1, n2, h0.2.1, h0.2.2, h1.2.1, h1.2.2, h2.2.1, h2.2.2, part, isAgg, run_underlying Try.underlying3, run_equalIn_int, e0, e1, e2]
  simp [binOp, Op.equal, Op.maxDepth, he]
theorem Slc.chgE {α : Type} {enc : α → List Value} {sz : Nat} {w w' : World} {B : Nat} {A : Option Addr} {xs : List α} {S : Nat → Prop} (h : Slc enc sz w B A xs) (hc : Chg S w w') (hB : B ≤ w.heap.size) (hA : xs ≠ [] → ∀ ad, A = some ad → ¬ S ad.block) : Slc enc sz w' B A xs := fun i x hx => by
  obtain ⟨b, off, rfl, hb, hcell⟩ := h i x hx
  exact ⟨b, off, rfl, hb, fun j v hv => (World.cell?_of_block (hc.block b (by omega) (hA (by rintro rfl; simp at hx) _ rfl))).trans (hcell j v hv)⟩
abbrev zeroKin : Obj := .cells #[.int .i64 0, .int .i64 0, .int .i64 0] 61
theorem imax_max (a b : Int) : imax a b = max a b := by unfold imax; split <;> omega
set_option maxRecDepth 100000 in
set_option maxHeartbeats 8000000 in
theorem receive_any (p : Fp) (s : SS) (id gr co lo ma wi le : Int) (A : Option Addr) (c : Nat) (fs : List Pt) (w : World) (hX : StA w p s) (hI : Inv s) (hF : Few s) (hS : Slc Pt.enc 2 w w.heap.size A fs) (hfl : fs.length ≤ 100000) (hNA : fs ≠ [] → ∀ ad, A = some ad → ¬ p.has ad.block) :
    Calls Try.prog 8 #[.pointer (some ⟨p.g, 0, none⟩), .agg #[.int .i64 id, .int .i64 gr, .int .i64 co, .int .i64 lo, .int .i64 ma, .int .i64 wi, .int .i64 le, .slice A fs.length c]] w fun e w' =>
      e = .returned (.int .i64 (recE s ⟨id, gr, co, lo, ma, wi, le, fs⟩)) ∧ StA w' p (recS s ⟨id, gr, co, lo, ma, wi, le, fs⟩) ∧ Chg p.has w w' := by
  have HS := hide hS
  have HNA := hide hNA
  obtain ⟨r, hr⟩ : ∃ r : Roll, r = ⟨id, gr, co, lo, ma, wi, le, fs⟩ := ⟨_, rfl⟩
  rw [← hr]
  have HR := hide hr
  have hx := Blk.new w 36 #[.int .i64 id, .int .i64 gr, .int .i64 co, .int .i64 lo, .int .i64 ma, .int .i64 wi, .int .i64 le, .slice A fs.length c]
  have hal := (Below.refl w.heap.size w).alloc (Nat.le_refl _) (.cells #[.int .i64 id, .int .i64 gr, .int .i64 co, .int .i64 lo, .int .i64 ma, .int .i64 wi, .int .i64 le, .slice A fs.length c] 36)
  have HI := hide hI
  have HF := hide hF
  have hC : Chg p.has w (w.alloc (.cells #[.int .i64 id, .int .i64 gr, .int .i64 co, .int .i64 lo, .int .i64 ma, .int .i64 wi, .int .i64 le, .slice A fs.length c] 36)) := .of_below hal
  replace hX := hX.below hal
  replace hS := Slc.on hS hal
  clear hI hF hr hal hNA
  go_enter Try.func8, Try.ntmps8
  go_upto_region 1 with fail
  generalize w.alloc (.cells #[.int .i64 id, .int .i64 gr, .int .i64 co, .int .i64 lo, .int .i64 ma, .int .i64 wi, .int .i64 le, .slice A fs.length c] 36) = W at *
  have c5 := hX.blk.cell_ 5 (v := .bool true) rfl
  go_wp2_with fail
  refine (none_any p.g _ c5).mono ?_
  rintro e W' ⟨rfl, rfl⟩
  clear c5
  have x0 := hx.cell_ 0 rfl
  have x1 := hx.cell_ 1 rfl
  have x2 := hx.cell_ 2 rfl
  have x3 := hx.cell_ 3 rfl
  have x4 := hx.cell_ 4 rfl
  have x5 := hx.cell_ 5 rfl
  have x6 := hx.cell_ 6 rfl
  have x7 := hx.cell_ 7 rfl
  obtain ⟨V, hV⟩ : ∃ V, validRoll ⟨id, gr, co, lo, ma, wi, le, fs⟩ = V := ⟨_, rfl⟩
  have HV : Hid (validRoll r = V) := by show _ = _; rw [HR.out]; exact hV
  have hvr := validRoll_any id gr co lo ma wi le A c fs W hS hfl
  rw [hV] at hvr
  clear hV hS
  go_wp2_with fail
  refine (hvr).mono ?_
  rintro e W ⟨rfl, hb⟩
  clear x0 x1 x2 x3 x4 x5 x6 x7
  replace hx := hx.below hb hx.lt
  replace hX := StA.below hX hb
  replace hC := Chg.trans hC (Chg.of_below hb)
  clear hb
  have x0 := hx.cell_ 0 rfl
  have x1 := hx.cell_ 1 rfl
  have x2 := hx.cell_ 2 rfl
  have x3 := hx.cell_ 3 rfl
  have x4 := hx.cell_ 4 rfl
  have x5 := hx.cell_ 5 rfl
  have x6 := hx.cell_ 6 rfl
  have x7 := hx.cell_ 7 rfl
  cases V with
  | false =>
    have HE : Hid (recE s r = 20 ∧ recS s r = s) := by
      have h1 : recE s r = 20 := by unfold recE; rw [HV.out]; rfl
      exact ⟨h1, by unfold recS; rw [h1]; rfl⟩
    clear x0 x1 x2 x3 x4 x5 x6 x7
    go_wp2_with fail
    go_ret
    rw [HE.out.1, HE.out.2]
    exact ⟨rfl, hX, hC⟩
  | true =>
    go_upto_region 5 with fail
    cases hp : look s.parent id with
    | some u =>
      have HE : Hid (recE s r = 22 ∧ recS s r = s) := by
        have h1 : recE s r = 22 := by unfold recE; rw [HV.out, HR.out]; dsimp only; rw [hp]; rfl
        exact ⟨h1, by unfold recS; rw [h1]; rfl⟩
      have HLK : Hid (∀ w', Below W.heap.size W w' → (Instr.lookup 33 (.map (some p.rq)) (.int .i64 id) true).run Try.prog w' = .ok (.tuple #[.int .i64 u, .bool true]) w') := fun w' hb => (hX.parent.below hb hX.parent.lt).look_yes (P := Try.prog) (t := 33) Try.underlying33 Try.underlying3 (look_kv_some hp) true
      have c8 := hX.blk.cell_ 8 (v := .map (some p.rq)) rfl
      clear hp
      go_wp2_with fail
      refine wp_region_quiet (C := fun w' => ∃ u : Since W, w' = u.w) (by kernel_rfl) (by kernel_rfl) (Since.start W) ?_
      dsimp only
      have y_x0 := Since.cell x0
      have y_x1 := Since.cell x1
      have y_x2 := Since.cell x2
      have y_x3 := Since.cell x3
      have y_x4 := Since.cell x4
      have y_x5 := Since.cell x5
      have y_x6 := Since.cell x6
      have y_x7 := Since.cell x7
      have y_c8 := Since.cell c8
      have y_HLK := fun u : Since W => HLK.out u.w u.h
      clear x0 x1 x2 x3 x4 x5 x6 x7
      repeat (go_big_quiet_step ((fail)))
      refine wpQuiet_nil ?_
      rintro W ⟨⟨_, hb⟩, rfl⟩
      try dsimp only at hb ⊢
      replace c8 : W.cell? _ = _ := y_c8 ⟨W, hb⟩
      clear y_x0 y_x1 y_x2 y_x3 y_x4 y_x5 y_x6 y_x7 y_c8 y_HLK
      replace hx := hx.below hb hx.lt
      replace hX := StA.below hX hb
      replace hC := Chg.trans hC (Chg.of_below hb)
      clear hb
      have x0 := hx.cell_ 0 rfl
      have x1 := hx.cell_ 1 rfl
      have x2 := hx.cell_ 2 rfl
      have x3 := hx.cell_ 3 rfl
      have x4 := hx.cell_ 4 rfl
      have x5 := hx.cell_ 5 rfl
      have x6 := hx.cell_ 6 rfl
      have x7 := hx.cell_ 7 rfl
      clear x0 x1 x2 x3 x4 x5 x6 x7
      go_wp2_with fail
      go_ret
      rw [HE.out.1, HE.out.2]
      exact ⟨rfl, hX, hC⟩
    | none =>
      have HLK : Hid (∀ w', Below W.heap.size W w' → (Instr.lookup 33 (.map (some p.rq)) (.int .i64 id) true).run Try.prog w' = .ok (.tuple #[.int .i64 0, .bool false]) w') := fun w' hb => (hX.parent.below hb hX.parent.lt).look_no (P := Try.prog) (t := 33) Try.underlying33 Try.underlying3 (fun w => by kernel_rfl) (look_kv_none hp) true
      have c8 := hX.blk.cell_ 8 (v := .map (some p.rq)) rfl
      have HPN : Hid (look s.parent r.id = none) := by show _ = _; rw [HR.out]; exact hp
      clear hp
      go_wp2_with fail
      refine wp_region_quiet (C := fun w' => ∃ u : Since W, w' = u.w) (by kernel_rfl) (by kernel_rfl) (Since.start W) ?_
      dsimp only
      have y_x0 := Since.cell x0
      have y_x1 := Since.cell x1
      have y_x2 := Since.cell x2
      have y_x3 := Since.cell x3
      have y_x4 := Since.cell x4
      have y_x5 := Since.cell x5
      have y_x6 := Since.cell x6
      have y_x7 := Since.cell x7
      have y_c8 := Since.cell c8
      have y_HLK := fun u : Since W => HLK.out u.w u.h
      clear x0 x1 x2 x3 x4 x5 x6 x7
      repeat (go_big_quiet_step ((fail)))
      refine wpQuiet_nil ?_
      rintro W ⟨⟨_, hb⟩, rfl⟩
      try dsimp only at hb ⊢
      replace c8 : W.cell? _ = _ := y_c8 ⟨W, hb⟩
      clear y_x0 y_x1 y_x2 y_x3 y_x4 y_x5 y_x6 y_x7 y_c8 y_HLK
      replace hx := hx.below hb hx.lt
      replace hX := StA.below hX hb
      replace hC := Chg.trans hC (Chg.of_below hb)
      clear hb
      have x0 := hx.cell_ 0 rfl
      have x1 := hx.cell_ 1 rfl
      have x2 := hx.cell_ 2 rfl
      have x3 := hx.cell_ 3 rfl
      have x4 := hx.cell_ 4 rfl
      have x5 := hx.cell_ 5 rfl
      have x6 := hx.cell_ 6 rfl
      have x7 := hx.cell_ 7 rfl
      clear HLK c8
      have hk := Blk.new W 61 #[.int .i64 gr, .int .i64 co, .int .i64 ma]
      have hal := (Below.refl W.heap.size W).alloc (Nat.le_refl _) (.cells #[.int .i64 gr, .int .i64 co, .int .i64 ma] 61)
      go_upto_region 9 with fail
      clear x0 x1 x2 x3 x4 x5 x6 x7
      replace hx := hx.below hal hx.lt
      replace hX := hX.below hal
      replace hC := hC.trans (.of_below hal)
      clear hal
      generalize W.heap.size = bk at *
      generalize W.alloc (.cells #[.int .i64 gr, .int .i64 co, .int .i64 ma] 61) = W2 at *
      obtain ⟨W, rfl⟩ : ∃ X : World, X = W2 := ⟨_, rfl⟩
      cases hl : look s.lots lo with
      | none =>
        have HLK : Hid (∀ w', Below W.heap.size W w' → (Instr.lookup 56 (.map (some p.rl)) (.int .i64 lo) true).run Try.prog w' = .ok (.tuple #[.agg #[.int .i64 0, .int .i64 0, .int .i64 0], .bool false]) w') := fun w' hb => (hX.lots.below hb hX.lots.lt).look_no (P := Try.prog) (t := 56) Try.underlying56 Try.underlying3 (fun w => by kernel_rfl) (look_kv_none hl) true
        have c9 := hX.blk.cell_ 9 (v := .map (some p.rl)) rfl
        have HE : Hid (recE s r = 0 ∧ recS s r = recFn s r) := by
          have h1 : recE s r = 0 := by unfold recE kinOk; rw [HV.out, HPN.out, HR.out]; dsimp only; rw [hl]; rfl
          exact ⟨h1, by unfold recS; rw [h1, if_pos rfl]⟩
        clear hl
        go_wp2_with fail
        have x0 := hx.cell_ 0 rfl
        have x1 := hx.cell_ 1 rfl
        have x2 := hx.cell_ 2 rfl
        have x3 := hx.cell_ 3 rfl
        have x4 := hx.cell_ 4 rfl
        have x5 := hx.cell_ 5 rfl
        have x6 := hx.cell_ 6 rfl
        have x7 := hx.cell_ 7 rfl
        have k0 := hk.cell_ 0 rfl
        have k1 := hk.cell_ 1 rfl
        have k2 := hk.cell_ 2 rfl
        have z_x0 := hide (fun w' (hb : Below W.heap.size W w') => Since.later hb x0)
        have z_x1 := hide (fun w' (hb : Below W.heap.size W w') => Since.later hb x1)
        have z_x2 := hide (fun w' (hb : Below W.heap.size W w') => Since.later hb x2)
        have z_x3 := hide (fun w' (hb : Below W.heap.size W w') => Since.later hb x3)
        have z_x4 := hide (fun w' (hb : Below W.heap.size W w') => Since.later hb x4)
        have z_x5 := hide (fun w' (hb : Below W.heap.size W w') => Since.later hb x5)
        have z_x6 := hide (fun w' (hb : Below W.heap.size W w') => Since.later hb x6)
        have z_x7 := hide (fun w' (hb : Below W.heap.size W w') => Since.later hb x7)
        have z_k0 := hide (fun w' (hb : Below W.heap.size W w') => Since.later hb k0)
        have z_k1 := hide (fun w' (hb : Below W.heap.size W w') => Since.later hb k1)
        have z_k2 := hide (fun w' (hb : Below W.heap.size W w') => Since.later hb k2)
        have z_c9 := hide (fun w' (hb : Below W.heap.size W w') => Since.later hb c9)
        have hok : FldOk W ([⟨10, .ptr, (.cells #[.int .i64 0, .int .i64 0, .int .i64 0] 61), 11, (.cells #[.int .i64 0, .int .i64 0, .int .i64 0] 61)⟩]) [] := FldOk.nil_
        refine wp_region_both 12 [0, 1, 2, 3, 4, 5, 6, 7, 8, 9] [10, 11] [⟨10, .ptr, (.cells #[.int .i64 0, .int .i64 0, .int .i64 0] 61), 11, (.cells #[.int .i64 0, .int .i64 0, .int .i64 0] 61)⟩] [] (fun f hf => by cases hf) (by kernel_rfl) (by kernel_rfl) (by kernel_rfl) (by kernel_rfl) (by kernel_rfl) (by simp) ?_
        apply Exists.intro
        refine ⟨fun W1 hc0 => ?_, ?_⟩
        · have hb := hc0.nil_
          have y_x0 := Since.cell (z_x0.out W1 hb)
          have y_x1 := Since.cell (z_x1.out W1 hb)
          have y_x2 := Since.cell (z_x2.out W1 hb)
          have y_x3 := Since.cell (z_x3.out W1 hb)
          have y_x4 := Since.cell (z_x4.out W1 hb)
          have y_x5 := Since.cell (z_x5.out W1 hb)
          have y_x6 := Since.cell (z_x6.out W1 hb)
          have y_x7 := Since.cell (z_x7.out W1 hb)
          have y_k0 := Since.cell (z_k0.out W1 hb)
          have y_k1 := Since.cell (z_k1.out W1 hb)
          have y_k2 := Since.cell (z_k2.out W1 hb)
          have y_c9 := Since.cell (z_c9.out W1 hb)
          have y_HLK := fun u : Since W1 => HLK.out u.w (hb.trans (u.h.mono hb.size))
          replace hx := hx.below hb hx.lt
          replace hX := StA.below hX hb
          replace hC := Chg.trans hC (Chg.of_below hb)
          replace hk := hk.below hb hk.lt
          dsimp only [pick, List.filterMap, List.getElem?_cons_succ, List.getElem?_cons_zero]
          repeat (go_big_quiet_step ((fail)))
          exact wpQuiet_nil rfl
        · refine ownWalk_alloc ⟨10, .ptr, (.cells #[.int .i64 0, .int .i64 0, .int .i64 0] 61), 11, (.cells #[.int .i64 0, .int .i64 0, .int .i64 0] 61)⟩ hok (by kernel_rfl) rfl rfl rfl rfl (fun _ => rfl) (by simp) (by simp) (fun h => absurd h (by simp)) ?_
          intro hob
          simp only [Shape.val, List.setIfInBounds_toArray, List.set_cons_succ, List.set_cons_zero]
          refine ownWalk_fill (cs := #[.int .i64 0, .int .i64 0, .int .i64 0]) (cs' := #[.int .i64 0, .int .i64 0, .int .i64 0]) ⟨10, .ptr, (.cells #[.int .i64 0, .int .i64 0, .int .i64 0] 61), 11, (.cells #[.int .i64 0, .int .i64 0, .int .i64 0] 61)⟩ hok (by kernel_rfl) rfl rfl rfl rfl rfl rfl rfl rfl (by kernel_rfl) rfl (by simp [Value.oneCell']) rfl rfl (by simp) (by simp) (by simp) rfl ?_ (by simp)
          refine ownWalk_nil ?_
          intro w' hc0 hD
          have hb := hc0.nil_
          obtain ⟨hoge, ho⟩ := hD.box.get (x := ⟨10, .ptr, (.cells #[.int .i64 0, .int .i64 0, .int .i64 0] 61), 11, (.cells #[.int .i64 0, .int .i64 0, .int .i64 0] 61)⟩) (o := (.cells #[.int .i64 0, .int .i64 0, .int .i64 0] 61)) (by simp) rfl rfl
          replace ho : Blk _ _ _ _ := ho
          clear hD
          try simp only [List.drop_succ_cons, List.drop_zero]
          replace c9 : w'.cell? _ = _ := z_c9.out w' hb
          clear z_x0 z_x1 z_x2 z_x3 z_x4 z_x5 z_x6 z_x7 z_k0 z_k1 z_k2 z_c9
          clear x0 x1 x2 x3 x4 x5 x6 x7 k0 k1 k2
          replace hx := hx.below hb hx.lt
          replace hX := StA.below hX hb
          replace hC := Chg.trans hC (Chg.of_below hb)
          replace hk := hk.below hb hk.lt
          clear hb hok hc0
          obtain ⟨W, rfl⟩ : ∃ W : World, W = w' := ⟨_, rfl⟩
          have x0 := hx.cell_ 0 rfl
          have x1 := hx.cell_ 1 rfl
          have x2 := hx.cell_ 2 rfl
          have x3 := hx.cell_ 3 rfl
          have x4 := hx.cell_ 4 rfl
          have x5 := hx.cell_ 5 rfl
          have x6 := hx.cell_ 6 rfl
          have x7 := hx.cell_ 7 rfl
          have k0 := hk.cell_ 0 rfl
          have k1 := hk.cell_ 1 rfl
          have k2 := hk.cell_ 2 rfl
          have o0 := ho.cell_ 0 rfl
          have o1 := ho.cell_ 1 rfl
          have o2 := ho.cell_ 2 rfl
          clear HLK c9
          go_upto_region 12 with fail
          clear x0 x1 x2 x3 x4 x5 x6 x7 k0 k1 k2 o0 o1 o2
          clear ho
          have c9 := hX.blk.cell_ 9 (v := .map (some p.rl)) rfl
          go_wp2_with fail
          have x0 := hx.cell_ 0 rfl
          have x1 := hx.cell_ 1 rfl
          have x2 := hx.cell_ 2 rfl
          have x3 := hx.cell_ 3 rfl
          have x4 := hx.cell_ 4 rfl
          have x5 := hx.cell_ 5 rfl
          have x6 := hx.cell_ 6 rfl
          have x7 := hx.cell_ 7 rfl
          have k0 := hk.cell_ 0 rfl
          have k1 := hk.cell_ 1 rfl
          have k2 := hk.cell_ 2 rfl
          refine wp_region_quiet_tail (C := fun w' => ∃ u : Since W, w' = u.w) 7 (by kernel_rfl) (by kernel_rfl) (Since.start W) ?_
          simp only [List.take_succ_cons, List.take_zero, List.drop_succ_cons, List.drop_zero]
          have y_x0 := Since.cell x0
          have y_x1 := Since.cell x1
          have y_x2 := Since.cell x2
          have y_x3 := Since.cell x3
          have y_x4 := Since.cell x4
          have y_x5 := Since.cell x5
          have y_x6 := Since.cell x6
          have y_x7 := Since.cell x7
          have y_k0 := Since.cell k0
          have y_k1 := Since.cell k1
          have y_k2 := Since.cell k2
          have y_c9 := Since.cell c9
          clear x0 x1 x2 x3 x4 x5 x6 x7 k0 k1 k2
          repeat (go_big_quiet_step ((fail)))
          refine wpQuiet_nil ?_
          rintro W ⟨⟨_, hb⟩, rfl⟩
          try dsimp only at hb ⊢
          replace c9 : W.cell? _ = _ := y_c9 ⟨W, hb⟩
          clear y_x0 y_x1 y_x2 y_x3 y_x4 y_x5 y_x6 y_x7 y_k0 y_k1 y_k2 y_c9
          replace hx := hx.below hb hx.lt
          replace hX := StA.below hX hb
          replace hC := Chg.trans hC (Chg.of_below hb)
          replace hk := hk.below hb hk.lt
          clear hb
          have x0 := hx.cell_ 0 rfl
          have x1 := hx.cell_ 1 rfl
          have x2 := hx.cell_ 2 rfl
          have x3 := hx.cell_ 3 rfl
          have x4 := hx.cell_ 4 rfl
          have x5 := hx.cell_ 5 rfl
          have x6 := hx.cell_ 6 rfl
          have x7 := hx.cell_ 7 rfl
          have k0 := hk.cell_ 0 rfl
          have k1 := hk.cell_ 1 rfl
          have k2 := hk.cell_ 2 rfl
          clear x0 x1 x2 x3 x4 x5 x6 x7 k0 k1 k2
          clear c9
          go_wp2_with (refine wpList_put_im rfl rfl _ _ _ _ rfl _ _ Try.underlying56 Try.underlying3 p.rl rfl hX.lots lo (.agg #[.int .i64 gr, .int .i64 co, .int .i64 ma]) rfl rfl ?_; intro W5 hM5 hg5)
          have hX5 := hX.upd_lots (P' := put s.lots lo ⟨gr, co, ma⟩) hg5 (by rw [← put_kv]; exact hM5)
          have hx5 := hx.chg (S := fun k => k = p.rl) (.of_grown hg5 rfl) (fun he => hX.lots.blk_ne hx he.symm)
          have hC5 : Chg p.has w W5 := hC.trans (.of_grown hg5 (by simp [Fp.has]))
          clear hk hX hx hC hM5 hg5
          obtain ⟨W, rfl⟩ : ∃ X : World, X = W5 := ⟨_, rfl⟩
          have c8 := hX5.blk.cell_ 8 (v := .map (some p.rq)) rfl
          go_wp2_with fail
          have x0 := hx5.cell_ 0 rfl
          have x1 := hx5.cell_ 1 rfl
          have x2 := hx5.cell_ 2 rfl
          have x3 := hx5.cell_ 3 rfl
          have x4 := hx5.cell_ 4 rfl
          have x5 := hx5.cell_ 5 rfl
          have x6 := hx5.cell_ 6 rfl
          have x7 := hx5.cell_ 7 rfl
          refine wp_region_quiet_tail (C := fun w' => ∃ u : Since W, w' = u.w) 6 (by kernel_rfl) (by kernel_rfl) (Since.start W) ?_
          simp only [List.take_succ_cons, List.take_zero, List.drop_succ_cons, List.drop_zero]
          have y_x0 := Since.cell x0
          have y_x1 := Since.cell x1
          have y_x2 := Since.cell x2
          have y_x3 := Since.cell x3
          have y_x4 := Since.cell x4
          have y_x5 := Since.cell x5
          have y_x6 := Since.cell x6
          have y_x7 := Since.cell x7
          have y_c8 := Since.cell c8
          clear x0 x1 x2 x3 x4 x5 x6 x7
          repeat (go_big_quiet_step ((fail)))
          refine wpQuiet_nil ?_
          rintro W ⟨⟨_, hb⟩, rfl⟩
          try dsimp only at hb ⊢
          replace c8 : W.cell? _ = _ := y_c8 ⟨W, hb⟩
          clear y_x0 y_x1 y_x2 y_x3 y_x4 y_x5 y_x6 y_x7 y_c8
          replace hx5 := hx5.below hb hx5.lt
          replace hX5 := StA.below hX5 hb
          replace hC5 := Chg.trans hC5 (Chg.of_below hb)
          clear hb
          have x0 := hx5.cell_ 0 rfl
          have x1 := hx5.cell_ 1 rfl
          have x2 := hx5.cell_ 2 rfl
          have x3 := hx5.cell_ 3 rfl
          have x4 := hx5.cell_ 4 rfl
          have x5 := hx5.cell_ 5 rfl
          have x6 := hx5.cell_ 6 rfl
          have x7 := hx5.cell_ 7 rfl
          clear x0 x1 x2 x3 x4 x5 x6 x7
          clear c8
          go_wp2_with (refine wpList_put_im rfl rfl _ _ _ _ rfl _ _ Try.underlying33 Try.underlying3 p.rq rfl hX5.parent id (.int .i64 0) rfl rfl ?_; intro W6 hM6 hg6)
          have hX6 := hX5.upd_parent (P' := put s.parent id 0) hg6 (by rw [← put_kv]; exact hM6)
          have hx6 := hx5.chg (S := fun k => k = p.rq) (.of_grown hg6 rfl) (fun he => hX5.parent.blk_ne hx5 he.symm)
          have hC6 : Chg p.has w W6 := hC5.trans (.of_grown hg6 (by simp [Fp.has]))
          clear hX5 hx5 hC5 hM6 hg6
          obtain ⟨W, rfl⟩ : ∃ X : World, X = W6 := ⟨_, rfl⟩
          have c10 := hX6.blk.cell_ 10 (v := .int .i64 s.last) rfl
          go_wp2_with fail
          have x0 := hx6.cell_ 0 rfl
          have x1 := hx6.cell_ 1 rfl
          have x2 := hx6.cell_ 2 rfl
          have x3 := hx6.cell_ 3 rfl
          have x4 := hx6.cell_ 4 rfl
          have x5 := hx6.cell_ 5 rfl
          have x6 := hx6.cell_ 6 rfl
          have x7 := hx6.cell_ 7 rfl
          refine wp_region_quiet_tail (C := fun w' => ∃ u : Since W, w' = u.w) 10 (by kernel_rfl) (by kernel_rfl) (Since.start W) ?_
          simp only [List.take_succ_cons, List.take_zero, List.drop_succ_cons, List.drop_zero]
          have y_x0 := Since.cell x0
          have y_x1 := Since.cell x1
          have y_x2 := Since.cell x2
          have y_x3 := Since.cell x3
          have y_x4 := Since.cell x4
          have y_x5 := Since.cell x5
          have y_x6 := Since.cell x6
          have y_x7 := Since.cell x7
          have y_c10 := Since.cell c10
          clear x0 x1 x2 x3 x4 x5 x6 x7
          repeat (go_big_quiet_step ((fail)))
          refine wpQuiet_nil ?_
          rintro W ⟨⟨_, hb⟩, rfl⟩
          try dsimp only at hb ⊢
          replace c10 : W.cell? _ = _ := y_c10 ⟨W, hb⟩
          clear y_x0 y_x1 y_x2 y_x3 y_x4 y_x5 y_x6 y_x7 y_c10
          replace hx6 := hx6.below hb hx6.lt
          replace hX6 := StA.below hX6 hb
          replace hC6 := Chg.trans hC6 (Chg.of_below hb)
          clear hb
          have x0 := hx6.cell_ 0 rfl
          have x1 := hx6.cell_ 1 rfl
          have x2 := hx6.cell_ 2 rfl
          have x3 := hx6.cell_ 3 rfl
          have x4 := hx6.cell_ 4 rfl
          have x5 := hx6.cell_ 5 rfl
          have x6 := hx6.cell_ 6 rfl
          have x7 := hx6.cell_ 7 rfl
          clear x0 x1 x2 x3 x4 x5 x6 x7
          clear c10
          go_upto_region 15 with (refine wpList_store_at rfl 3 _ _ rfl (.int .i64 (max s.last id)) hX6.blk rfl rfl (by kernel_rfl) rfl (by simp [storeCells_]) rfl ?_; intro W7 hB7 hc7; rw [← imax_max] at hB7)
          have hX7 := hX6.upd_blk (s' := { s with lots := put s.lots lo ⟨gr, co, ma⟩, parent := put s.parent id 0, last := imax s.last id }) hc7 hB7 (by simp [storeCells_]) rfl rfl rfl rfl
          have hx7 := hx6.chg1 hc7 (hx6.ne_ hX6.blk (by decide))
          have hC7 : Chg p.has w W7 := hC6.trans (hc7.mono fun k _ hk => .inl hk)
          clear hX6 hx6 hC6 hB7 hc7
          obtain ⟨W, rfl⟩ : ∃ X : World, X = W7 := ⟨_, rfl⟩
          try dsimp only [Act.put]
          have HX7 := hide hX7
          have HXX := hide hx7
          have HC7 := hide hC7
          have HC6 := hide (hX7.blk.cell_ 6 (v := .map (some p.ri)) rfl)
          have hS7 : Hid (Slc Pt.enc 2 W W.heap.size A fs) := by
            have h1 : Slc Pt.enc 2 W w.heap.size A fs := HS.out.chgE hC7 (Nat.le_refl _) HNA.out
            exact h1.more hC7.size
          clear hX7 hx7 hC7
          go_upto_region 15 with fail
          refine wp_region_callb (args := #[.slice A fs.length c]) 26 24 25 [0, 1, 2, 3, 4, 5, 6, 7, 8, 9, 10, 11, 12, 13, 14, 15, 16, 17, 18, 19, 20, 21, 22, 23] (fun u w' => ∃ A' c', u = .slice A' fs.length c' ∧ ItV w' (rollItem r) ((rollItem r).valAt A' c')) (fun u => ∃ A' n' c', u = .slice A' n' c') (fun u => .agg #[.int .i64 id, .int .i64 id, .int .i64 gr, .int .i64 co, .int .i64 lo, .int .i64 ma, .int .i64 wi, .int .i64 le, u]) (by kernel_rfl) (by kernel_rfl) (by kernel_rfl) (by kernel_rfl) (by decide) (fun u w w' hb ⟨A', c', h1, h2⟩ => ⟨A', c', h1, h2.below hb⟩) (fun u w ⟨A', c', h1, _⟩ => ⟨A', _, c', h1⟩) ⟨.slice none 0 0, none, 0, 0, rfl⟩ rfl rfl rfl rfl rfl (fun _ _ => rfl) ?_
          apply Exists.intro
          refine ⟨fun W1 hc => ?_, ?_⟩
          · have y6 := Since.cell (Since.later hc HC6.out)
            have hx1 := HXX.out.below hc HXX.out.lt
            have y0 := Since.cell (hx1.cell_ 0 (v := .int .i64 id) rfl)
            have y1 := Since.cell (hx1.cell_ 1 (v := .int .i64 gr) rfl)
            have y2 := Since.cell (hx1.cell_ 2 (v := .int .i64 co) rfl)
            have y3 := Since.cell (hx1.cell_ 3 (v := .int .i64 lo) rfl)
            have y4 := Since.cell (hx1.cell_ 4 (v := .int .i64 ma) rfl)
            have y5 := Since.cell (hx1.cell_ 5 (v := .int .i64 wi) rfl)
            have y6b := Since.cell (hx1.cell_ 6 (v := .int .i64 le) rfl)
            have y7 := Since.cell (hx1.cell_ 7 (v := .slice A fs.length c) rfl)
            clear hx1
            dsimp only [pick, List.filterMap, List.getElem?_cons_succ, List.getElem?_cons_zero]
            repeat (go_big_quiet_step (fail))
            exact wpQuiet_nil rfl
          refine ⟨by simp [Act.eval], rfl, fun w1 hb1 => ?_, fun u0 ⟨A', n', c', hu⟩ => ?_, fun u w8 hb8 hR => ?_⟩
          · refine (cloneSpan_any A c fs w1 hfl (Slc.on hS7.out hb1)).mono ?_
            rintro e w2 ⟨A', c', rfl, hb2, hS2, hO2⟩
            have hrf : (rollItem r).faults = fs := by rw [HR.out]; rfl
            exact ⟨_, rfl, ⟨A', c', rfl, ItV.made (by rw [hrf]; exact hS2) (by rw [hrf]; exact hO2)⟩, hb2⟩
          · subst hu
            refine ⟨rfl, fun w1 => ?_⟩
            exact exec_bstruct rfl (by simp [Act.eval, Act.put]) (run_roll id gr co lo ma wi le A' n' c' w1)
          obtain ⟨A', c', rfl, hIt⟩ := hR
          have hX8 := HX7.out.below hb8
          have hx8 := HXX.out.below hb8 HXX.out.lt
          have hC8 := HC7.out.trans (.of_below hb8)
          clear HX7 HXX HC7 HC6 hS7 hb8
          obtain ⟨W, rfl⟩ : ∃ X : World, X = w8 := ⟨_, rfl⟩
          dsimp only [Act.put]
          simp only [List.setIfInBounds_toArray, List.set_cons_succ, List.set_cons_zero, List.drop_succ_cons, List.drop_zero]
          obtain ⟨MI, hM, hZ⟩ := hX8.items
          have e9 : (rollItem r).valAt A' c' = .agg #[.int .i64 id, .int .i64 id, .int .i64 gr, .int .i64 co, .int .i64 lo, .int .i64 ma, .int .i64 wi, .int .i64 le, .slice A' fs.length c'] := by rw [HR.out]; rfl
          rw [e9] at hIt
          refine wpList_put_im rfl rfl _ _ _ _ rfl _ _ Try.underlying54 Try.underlying3 p.ri rfl hM id (.agg #[.int .i64 id, .int .i64 id, .int .i64 gr, .int .i64 co, .int .i64 lo, .int .i64 ma, .int .i64 wi, .int .i64 le, .slice A' fs.length c']) rfl rfl ?_
          intro W9 hM9 hg9
          have hX9 := hX8.put_item (x := rollItem r) hg9 hZ hM9 hIt
          have hx9 := hx8.chg (S := fun k => k = p.ri) (.of_grown hg9 rfl) (fun he => hM.blk_ne hx8 he.symm)
          have hC9 : Chg p.has w W9 := hC8.trans (.of_grown hg9 (by simp [Fp.has]))
          clear hX8 hx8 hC8 hM hZ hM9 hg9 hIt e9
          obtain ⟨W, rfl⟩ : ∃ X : World, X = W9 := ⟨_, rfl⟩
          have c11 := hX9.blk.cell_ 11 (v := .int .i64 s.received) rfl
          obtain ⟨b1, b2, b3, b4, b5, b6, b7, b8, b9⟩ := roll_bd HV.out
          have HAR : Hid (0 ≤ wi * le ∧ wi * le ≤ 900000) := by
            show _ ∧ _
            have h6 : 1 ≤ wi ∧ wi ≤ 150 := by have h := b6; rw [HR.out] at h; exact h
            have h7 : 1 ≤ le ∧ le ≤ 6000 := by have h := b7; rw [HR.out] at h; exact h
            exact mul_le_mul0 (b := 150) (e := 6000) (by omega) h6.2 (by omega) h7.2
          clear b1 b2 b3 b4 b5 b6 b7 b8 b9
          have hrcv : 0 ≤ s.received := by
            have h1 := HI.out.ba
            have h2 : 0 ≤ sumM areaS s.items := sum_nonneg fun q hq => (item_area HI.out (look_mem HI.out.ki hq)).1
            have h3 : 0 ≤ sumM areaP s.pieces := sum_nonneg fun q hq => (piece_area HI.out (look_mem HI.out.kp hq)).1
            have h4 := HI.out.wa
            omega
          have e1 : IntKind.i64.wrap (wi * le) = wi * le := IntWalk.i64_in _ (by have := HAR.out; omega)
          have e2 : IntKind.i64.wrap (s.received + wi * le) = s.received + wi * le := IntWalk.i64_in _ (by have := HAR.out; have := HF.out.re; omega)
          clear hrcv
          go_wp2_with fail
          have x0 := hx9.cell_ 0 rfl
          have x1 := hx9.cell_ 1 rfl
          have x2 := hx9.cell_ 2 rfl
          have x3 := hx9.cell_ 3 rfl
          have x4 := hx9.cell_ 4 rfl
          have x5 := hx9.cell_ 5 rfl
          have x6 := hx9.cell_ 6 rfl
          have x7 := hx9.cell_ 7 rfl
          refine wp_region_quiet_tail (C := fun w' => ∃ u : Since W, w' = u.w) 12 (by kernel_rfl) (by kernel_rfl) (Since.start W) ?_
          simp only [List.take_succ_cons, List.take_zero, List.drop_succ_cons, List.drop_zero]
          have y_x0 := Since.cell x0
          have y_x1 := Since.cell x1
          have y_x2 := Since.cell x2
          have y_x3 := Since.cell x3
          have y_x4 := Since.cell x4
          have y_x5 := Since.cell x5
          have y_x6 := Since.cell x6
          have y_x7 := Since.cell x7
          have y_c11 := Since.cell c11
          clear x0 x1 x2 x3 x4 x5 x6 x7
          repeat (go_big_quiet_step ((fail)))
          refine wpQuiet_nil ?_
          rintro W ⟨⟨_, hb⟩, rfl⟩
          try dsimp only at hb ⊢
          replace c11 : W.cell? _ = _ := y_c11 ⟨W, hb⟩
          clear y_x0 y_x1 y_x2 y_x3 y_x4 y_x5 y_x6 y_x7 y_c11
          replace hx9 := hx9.below hb hx9.lt
          replace hX9 := StA.below hX9 hb
          replace hC9 := Chg.trans hC9 (Chg.of_below hb)
          clear hb
          have x0 := hx9.cell_ 0 rfl
          have x1 := hx9.cell_ 1 rfl
          have x2 := hx9.cell_ 2 rfl
          have x3 := hx9.cell_ 3 rfl
          have x4 := hx9.cell_ 4 rfl
          have x5 := hx9.cell_ 5 rfl
          have x6 := hx9.cell_ 6 rfl
          have x7 := hx9.cell_ 7 rfl
          clear x0 x1 x2 x3 x4 x5 x6 x7
          clear c11
          go_upto_region 17 with (refine wpList_store_at rfl 3 _ _ rfl (.int .i64 (s.received + wi * le)) hX9.blk rfl rfl (by kernel_rfl) rfl (by simp [storeCells_]) rfl ?_; intro W10 hB10 hc10)
          have hX10 := hX9.upd_blk (s' := recFn s r) hc10 hB10 (by rw [HR.out]; simp [storeCells_, recFn]) (by rw [HR.out]; rfl) (by rw [HR.out]; rfl) (by rw [HR.out]; rfl) (by rw [HR.out]; rfl)
          have hC10 : Chg p.has w W10 := hC9.trans (hc10.mono fun k _ hk => .inl hk)
          clear hX9 hC9 hx9 hB10 hc10
          go_wp2_with fail
          go_ret
          rw [HE.out.1, HE.out.2]
          exact ⟨rfl, hX10, hC10⟩
      | some kn =>
        obtain ⟨kg, kc, km⟩ := kn
        have HLK : Hid (∀ w', Below W.heap.size W w' → (Instr.lookup 56 (.map (some p.rl)) (.int .i64 lo) true).run Try.prog w' = .ok (.tuple #[.agg #[.int .i64 kg, .int .i64 kc, .int .i64 km], .bool true]) w') := fun w' hb => (hX.lots.below hb hX.lots.lt).look_yes (P := Try.prog) (t := 56) Try.underlying56 Try.underlying3 (look_kv_some hl) true
        have c9 := hX.blk.cell_ 9 (v := .map (some p.rl)) rfl
        have hnq := fun w => neq_kin kg kc km gr co ma w
        cases hq : (kg == gr && (kc == co && km == ma)) with
        | true =>
          rw [hq] at hnq
          simp only [Bool.not_true] at hnq
          have HE : Hid (recE s r = 0 ∧ recS s r = recFn s r) := by
            have h0 : (decide (kg = gr) && decide (kc = co) && decide (km = ma)) = true := by
              simp only [Bool.and_eq_true, beq_iff_eq, decide_eq_true_eq] at hq ⊢
              exact ⟨⟨hq.1, hq.2.1⟩, hq.2.2⟩
            have hk0 : kinOk s r = true := by unfold kinOk; rw [HR.out]; dsimp only; rw [hl]; exact h0
            have h1 : recE s r = 0 := by unfold recE; rw [HV.out, HPN.out, hk0]; rfl
            exact ⟨h1, by unfold recS; rw [h1, if_pos rfl]⟩
          clear hl hq
          go_wp2_with fail
          have x0 := hx.cell_ 0 rfl
          have x1 := hx.cell_ 1 rfl
          have x2 := hx.cell_ 2 rfl
          have x3 := hx.cell_ 3 rfl
          have x4 := hx.cell_ 4 rfl
          have x5 := hx.cell_ 5 rfl
          have x6 := hx.cell_ 6 rfl
          have x7 := hx.cell_ 7 rfl
          have k0 := hk.cell_ 0 rfl
          have k1 := hk.cell_ 1 rfl
          have k2 := hk.cell_ 2 rfl
          have z_x0 := hide (fun w' (hb : Below W.heap.size W w') => Since.later hb x0)
          have z_x1 := hide (fun w' (hb : Below W.heap.size W w') => Since.later hb x1)
          have z_x2 := hide (fun w' (hb : Below W.heap.size W w') => Since.later hb x2)
          have z_x3 := hide (fun w' (hb : Below W.heap.size W w') => Since.later hb x3)
          have z_x4 := hide (fun w' (hb : Below W.heap.size W w') => Since.later hb x4)
          have z_x5 := hide (fun w' (hb : Below W.heap.size W w') => Since.later hb x5)
          have z_x6 := hide (fun w' (hb : Below W.heap.size W w') => Since.later hb x6)
          have z_x7 := hide (fun w' (hb : Below W.heap.size W w') => Since.later hb x7)
          have z_k0 := hide (fun w' (hb : Below W.heap.size W w') => Since.later hb k0)
          have z_k1 := hide (fun w' (hb : Below W.heap.size W w') => Since.later hb k1)
          have z_k2 := hide (fun w' (hb : Below W.heap.size W w') => Since.later hb k2)
          have z_c9 := hide (fun w' (hb : Below W.heap.size W w') => Since.later hb c9)
          have hok : FldOk W ([⟨10, .ptr, (.cells #[.int .i64 0, .int .i64 0, .int .i64 0] 61), 11, (.cells #[.int .i64 kg, .int .i64 kc, .int .i64 km] 61)⟩]) [] := FldOk.nil_
          refine wp_region_both 12 [0, 1, 2, 3, 4, 5, 6, 7, 8, 9] [10, 11] [⟨10, .ptr, (.cells #[.int .i64 0, .int .i64 0, .int .i64 0] 61), 11, (.cells #[.int .i64 kg, .int .i64 kc, .int .i64 km] 61)⟩] [] (fun f hf => by cases hf) (by kernel_rfl) (by kernel_rfl) (by kernel_rfl) (by kernel_rfl) (by kernel_rfl) (by simp) ?_
          apply Exists.intro
          refine ⟨fun W1 hc0 => ?_, ?_⟩
          · have hb := hc0.nil_
            have y_x0 := Since.cell (z_x0.out W1 hb)
            have y_x1 := Since.cell (z_x1.out W1 hb)
            have y_x2 := Since.cell (z_x2.out W1 hb)
            have y_x3 := Since.cell (z_x3.out W1 hb)
            have y_x4 := Since.cell (z_x4.out W1 hb)
            have y_x5 := Since.cell (z_x5.out W1 hb)
            have y_x6 := Since.cell (z_x6.out W1 hb)
            have y_x7 := Since.cell (z_x7.out W1 hb)
            have y_k0 := Since.cell (z_k0.out W1 hb)
            have y_k1 := Since.cell (z_k1.out W1 hb)
            have y_k2 := Since.cell (z_k2.out W1 hb)
            have y_c9 := Since.cell (z_c9.out W1 hb)
            have y_HLK := fun u : Since W1 => HLK.out u.w (hb.trans (u.h.mono hb.size))
            replace hx := hx.below hb hx.lt
            replace hX := StA.below hX hb
            replace hC := Chg.trans hC (Chg.of_below hb)
            replace hk := hk.below hb hk.lt
            dsimp only [pick, List.filterMap, List.getElem?_cons_succ, List.getElem?_cons_zero]
            repeat (go_big_quiet_step ((fail)))
            exact wpQuiet_nil rfl
          · refine ownWalk_alloc ⟨10, .ptr, (.cells #[.int .i64 0, .int .i64 0, .int .i64 0] 61), 11, (.cells #[.int .i64 kg, .int .i64 kc, .int .i64 km] 61)⟩ hok (by kernel_rfl) rfl rfl rfl rfl (fun _ => rfl) (by simp) (by simp) (fun h => absurd h (by simp)) ?_
            intro hob
            simp only [Shape.val, List.setIfInBounds_toArray, List.set_cons_succ, List.set_cons_zero]
            refine ownWalk_fill (cs := #[.int .i64 0, .int .i64 0, .int .i64 0]) (cs' := #[.int .i64 kg, .int .i64 kc, .int .i64 km]) ⟨10, .ptr, (.cells #[.int .i64 0, .int .i64 0, .int .i64 0] 61), 11, (.cells #[.int .i64 kg, .int .i64 kc, .int .i64 km] 61)⟩ hok (by kernel_rfl) rfl rfl rfl rfl rfl rfl rfl rfl (by kernel_rfl) rfl (by simp [Value.oneCell']) rfl rfl (by simp) (by simp) (by simp) rfl ?_ (by simp)
            refine ownWalk_nil ?_
            intro w' hc0 hD
            have hb := hc0.nil_
            obtain ⟨hoge, ho⟩ := hD.box.get (x := ⟨10, .ptr, (.cells #[.int .i64 0, .int .i64 0, .int .i64 0] 61), 11, (.cells #[.int .i64 kg, .int .i64 kc, .int .i64 km] 61)⟩) (o := (.cells #[.int .i64 kg, .int .i64 kc, .int .i64 km] 61)) (by simp) rfl rfl
            replace ho : Blk _ _ _ _ := ho
            clear hD
            try simp only [List.drop_succ_cons, List.drop_zero]
            replace c9 : w'.cell? _ = _ := z_c9.out w' hb
            clear z_x0 z_x1 z_x2 z_x3 z_x4 z_x5 z_x6 z_x7 z_k0 z_k1 z_k2 z_c9
            clear x0 x1 x2 x3 x4 x5 x6 x7 k0 k1 k2
            replace hx := hx.below hb hx.lt
            replace hX := StA.below hX hb
            replace hC := Chg.trans hC (Chg.of_below hb)
            replace hk := hk.below hb hk.lt
            clear hb hok hc0
            obtain ⟨W, rfl⟩ : ∃ W : World, W = w' := ⟨_, rfl⟩
            have x0 := hx.cell_ 0 rfl
            have x1 := hx.cell_ 1 rfl
            have x2 := hx.cell_ 2 rfl
            have x3 := hx.cell_ 3 rfl
            have x4 := hx.cell_ 4 rfl
            have x5 := hx.cell_ 5 rfl
            have x6 := hx.cell_ 6 rfl
            have x7 := hx.cell_ 7 rfl
            have k0 := hk.cell_ 0 rfl
            have k1 := hk.cell_ 1 rfl
            have k2 := hk.cell_ 2 rfl
            have o0 := ho.cell_ 0 rfl
            have o1 := ho.cell_ 1 rfl
            have o2 := ho.cell_ 2 rfl
            clear HLK c9
            go_upto_region 12 with fail
            clear hnq
            clear x0 x1 x2 x3 x4 x5 x6 x7 k0 k1 k2 o0 o1 o2
            clear ho
            have c9 := hX.blk.cell_ 9 (v := .map (some p.rl)) rfl
            go_wp2_with fail
            have x0 := hx.cell_ 0 rfl
            have x1 := hx.cell_ 1 rfl
            have x2 := hx.cell_ 2 rfl
            have x3 := hx.cell_ 3 rfl
            have x4 := hx.cell_ 4 rfl
            have x5 := hx.cell_ 5 rfl
            have x6 := hx.cell_ 6 rfl
            have x7 := hx.cell_ 7 rfl
            have k0 := hk.cell_ 0 rfl
            have k1 := hk.cell_ 1 rfl
            have k2 := hk.cell_ 2 rfl
            refine wp_region_quiet_tail (C := fun w' => ∃ u : Since W, w' = u.w) 7 (by kernel_rfl) (by kernel_rfl) (Since.start W) ?_
            simp only [List.take_succ_cons, List.take_zero, List.drop_succ_cons, List.drop_zero]
            have y_x0 := Since.cell x0
            have y_x1 := Since.cell x1
            have y_x2 := Since.cell x2
            have y_x3 := Since.cell x3
            have y_x4 := Since.cell x4
            have y_x5 := Since.cell x5
            have y_x6 := Since.cell x6
            have y_x7 := Since.cell x7
            have y_k0 := Since.cell k0
            have y_k1 := Since.cell k1
            have y_k2 := Since.cell k2
            have y_c9 := Since.cell c9
            clear x0 x1 x2 x3 x4 x5 x6 x7 k0 k1 k2
            repeat (go_big_quiet_step ((fail)))
            refine wpQuiet_nil ?_
            rintro W ⟨⟨_, hb⟩, rfl⟩
            try dsimp only at hb ⊢
            replace c9 : W.cell? _ = _ := y_c9 ⟨W, hb⟩
            clear y_x0 y_x1 y_x2 y_x3 y_x4 y_x5 y_x6 y_x7 y_k0 y_k1 y_k2 y_c9
            replace hx := hx.below hb hx.lt
            replace hX := StA.below hX hb
            replace hC := Chg.trans hC (Chg.of_below hb)
            replace hk := hk.below hb hk.lt
            clear hb
            have x0 := hx.cell_ 0 rfl
            have x1 := hx.cell_ 1 rfl
            have x2 := hx.cell_ 2 rfl
            have x3 := hx.cell_ 3 rfl
            have x4 := hx.cell_ 4 rfl
            have x5 := hx.cell_ 5 rfl
            have x6 := hx.cell_ 6 rfl
            have x7 := hx.cell_ 7 rfl
            have k0 := hk.cell_ 0 rfl
            have k1 := hk.cell_ 1 rfl
            have k2 := hk.cell_ 2 rfl
            clear x0 x1 x2 x3 x4 x5 x6 x7 k0 k1 k2
            clear c9
            go_wp2_with (refine wpList_put_im rfl rfl _ _ _ _ rfl _ _ Try.underlying56 Try.underlying3 p.rl rfl hX.lots lo (.agg #[.int .i64 gr, .int .i64 co, .int .i64 ma]) rfl rfl ?_; intro W5 hM5 hg5)
            have hX5 := hX.upd_lots (P' := put s.lots lo ⟨gr, co, ma⟩) hg5 (by rw [← put_kv]; exact hM5)
            have hx5 := hx.chg (S := fun k => k = p.rl) (.of_grown hg5 rfl) (fun he => hX.lots.blk_ne hx he.symm)
            have hC5 : Chg p.has w W5 := hC.trans (.of_grown hg5 (by simp [Fp.has]))
            clear hk hX hx hC hM5 hg5
            obtain ⟨W, rfl⟩ : ∃ X : World, X = W5 := ⟨_, rfl⟩
            have c8 := hX5.blk.cell_ 8 (v := .map (some p.rq)) rfl
            go_wp2_with fail
            have x0 := hx5.cell_ 0 rfl
            have x1 := hx5.cell_ 1 rfl
            have x2 := hx5.cell_ 2 rfl
            have x3 := hx5.cell_ 3 rfl
            have x4 := hx5.cell_ 4 rfl
            have x5 := hx5.cell_ 5 rfl
            have x6 := hx5.cell_ 6 rfl
            have x7 := hx5.cell_ 7 rfl
            refine wp_region_quiet_tail (C := fun w' => ∃ u : Since W, w' = u.w) 6 (by kernel_rfl) (by kernel_rfl) (Since.start W) ?_
            simp only [List.take_succ_cons, List.take_zero, List.drop_succ_cons, List.drop_zero]
            have y_x0 := Since.cell x0
            have y_x1 := Since.cell x1
            have y_x2 := Since.cell x2
            have y_x3 := Since.cell x3
            have y_x4 := Since.cell x4
            have y_x5 := Since.cell x5
            have y_x6 := Since.cell x6
            have y_x7 := Since.cell x7
            have y_c8 := Since.cell c8
            clear x0 x1 x2 x3 x4 x5 x6 x7
            repeat (go_big_quiet_step ((fail)))
            refine wpQuiet_nil ?_
            rintro W ⟨⟨_, hb⟩, rfl⟩
            try dsimp only at hb ⊢
            replace c8 : W.cell? _ = _ := y_c8 ⟨W, hb⟩
            clear y_x0 y_x1 y_x2 y_x3 y_x4 y_x5 y_x6 y_x7 y_c8
            replace hx5 := hx5.below hb hx5.lt
            replace hX5 := StA.below hX5 hb
            replace hC5 := Chg.trans hC5 (Chg.of_below hb)
            clear hb
            have x0 := hx5.cell_ 0 rfl
            have x1 := hx5.cell_ 1 rfl
            have x2 := hx5.cell_ 2 rfl
            have x3 := hx5.cell_ 3 rfl
            have x4 := hx5.cell_ 4 rfl
            have x5 := hx5.cell_ 5 rfl
            have x6 := hx5.cell_ 6 rfl
            have x7 := hx5.cell_ 7 rfl
            clear x0 x1 x2 x3 x4 x5 x6 x7
            clear c8
            go_wp2_with (refine wpList_put_im rfl rfl _ _ _ _ rfl _ _ Try.underlying33 Try.underlying3 p.rq rfl hX5.parent id (.int .i64 0) rfl rfl ?_; intro W6 hM6 hg6)
            have hX6 := hX5.upd_parent (P' := put s.parent id 0) hg6 (by rw [← put_kv]; exact hM6)
            have hx6 := hx5.chg (S := fun k => k = p.rq) (.of_grown hg6 rfl) (fun he => hX5.parent.blk_ne hx5 he.symm)
            have hC6 : Chg p.has w W6 := hC5.trans (.of_grown hg6 (by simp [Fp.has]))
            clear hX5 hx5 hC5 hM6 hg6
            obtain ⟨W, rfl⟩ : ∃ X : World, X = W6 := ⟨_, rfl⟩
            have c10 := hX6.blk.cell_ 10 (v := .int .i64 s.last) rfl
            go_wp2_with fail
            have x0 := hx6.cell_ 0 rfl
            have x1 := hx6.cell_ 1 rfl
            have x2 := hx6.cell_ 2 rfl
            have x3 := hx6.cell_ 3 rfl
            have x4 := hx6.cell_ 4 rfl
            have x5 := hx6.cell_ 5 rfl
            have x6 := hx6.cell_ 6 rfl
            have x7 := hx6.cell_ 7 rfl
            refine wp_region_quiet_tail (C := fun w' => ∃ u : Since W, w' = u.w) 10 (by kernel_rfl) (by kernel_rfl) (Since.start W) ?_
            simp only [List.take_succ_cons, List.take_zero, List.drop_succ_cons, List.drop_zero]
            have y_x0 := Since.cell x0
            have y_x1 := Since.cell x1
            have y_x2 := Since.cell x2
            have y_x3 := Since.cell x3
            have y_x4 := Since.cell x4
            have y_x5 := Since.cell x5
            have y_x6 := Since.cell x6
            have y_x7 := Since.cell x7
            have y_c10 := Since.cell c10
            clear x0 x1 x2 x3 x4 x5 x6 x7
            repeat (go_big_quiet_step ((fail)))
            refine wpQuiet_nil ?_
            rintro W ⟨⟨_, hb⟩, rfl⟩
            try dsimp only at hb ⊢
            replace c10 : W.cell? _ = _ := y_c10 ⟨W, hb⟩
            clear y_x0 y_x1 y_x2 y_x3 y_x4 y_x5 y_x6 y_x7 y_c10
            replace hx6 := hx6.below hb hx6.lt
            replace hX6 := StA.below hX6 hb
            replace hC6 := Chg.trans hC6 (Chg.of_below hb)
            clear hb
            have x0 := hx6.cell_ 0 rfl
            have x1 := hx6.cell_ 1 rfl
            have x2 := hx6.cell_ 2 rfl
            have x3 := hx6.cell_ 3 rfl
            have x4 := hx6.cell_ 4 rfl
            have x5 := hx6.cell_ 5 rfl
            have x6 := hx6.cell_ 6 rfl
            have x7 := hx6.cell_ 7 rfl
            clear x0 x1 x2 x3 x4 x5 x6 x7
            clear c10
            go_upto_region 15 with (refine wpList_store_at rfl 3 _ _ rfl (.int .i64 (max s.last id)) hX6.blk rfl rfl (by kernel_rfl) rfl (by simp [storeCells_]) rfl ?_; intro W7 hB7 hc7; rw [← imax_max] at hB7)
            have hX7 := hX6.upd_blk (s' := { s with lots := put s.lots lo ⟨gr, co, ma⟩, parent := put s.parent id 0, last := imax s.last id }) hc7 hB7 (by simp [storeCells_]) rfl rfl rfl rfl
            have hx7 := hx6.chg1 hc7 (hx6.ne_ hX6.blk (by decide))
            have hC7 : Chg p.has w W7 := hC6.trans (hc7.mono fun k _ hk => .inl hk)
            clear hX6 hx6 hC6 hB7 hc7
            obtain ⟨W, rfl⟩ : ∃ X : World, X = W7 := ⟨_, rfl⟩
            try dsimp only [Act.put]
            have HX7 := hide hX7
            have HXX := hide hx7
            have HC7 := hide hC7
            have HC6 := hide (hX7.blk.cell_ 6 (v := .map (some p.ri)) rfl)
            have hS7 : Hid (Slc Pt.enc 2 W W.heap.size A fs) := by
              have h1 : Slc Pt.enc 2 W w.heap.size A fs := HS.out.chgE hC7 (Nat.le_refl _) HNA.out
              exact h1.more hC7.size
            clear hX7 hx7 hC7
            go_upto_region 15 with fail
            refine wp_region_callb (args := #[.slice A fs.length c]) 26 24 25 [0, 1, 2, 3, 4, 5, 6, 7, 8, 9, 10, 11, 12, 13, 14, 15, 16, 17, 18, 19, 20, 21, 22, 23] (fun u w' => ∃ A' c', u = .slice A' fs.length c' ∧ ItV w' (rollItem r) ((rollItem r).valAt A' c')) (fun u => ∃ A' n' c', u = .slice A' n' c') (fun u => .agg #[.int .i64 id, .int .i64 id, .int .i64 gr, .int .i64 co, .int .i64 lo, .int .i64 ma, .int .i64 wi, .int .i64 le, u]) (by kernel_rfl) (by kernel_rfl) (by kernel_rfl) (by kernel_rfl) (by decide) (fun u w w' hb ⟨A', c', h1, h2⟩ => ⟨A', c', h1, h2.below hb⟩) (fun u w ⟨A', c', h1, _⟩ => ⟨A', _, c', h1⟩) ⟨.slice none 0 0, none, 0, 0, rfl⟩ rfl rfl rfl rfl rfl (fun _ _ => rfl) ?_
            apply Exists.intro
            refine ⟨fun W1 hc => ?_, ?_⟩
            · have y6 := Since.cell (Since.later hc HC6.out)
              have hx1 := HXX.out.below hc HXX.out.lt
              have y0 := Since.cell (hx1.cell_ 0 (v := .int .i64 id) rfl)
              have y1 := Since.cell (hx1.cell_ 1 (v := .int .i64 gr) rfl)
              have y2 := Since.cell (hx1.cell_ 2 (v := .int .i64 co) rfl)
              have y3 := Since.cell (hx1.cell_ 3 (v := .int .i64 lo) rfl)
              have y4 := Since.cell (hx1.cell_ 4 (v := .int .i64 ma) rfl)
              have y5 := Since.cell (hx1.cell_ 5 (v := .int .i64 wi) rfl)
              have y6b := Since.cell (hx1.cell_ 6 (v := .int .i64 le) rfl)
              have y7 := Since.cell (hx1.cell_ 7 (v := .slice A fs.length c) rfl)
              clear hx1
              dsimp only [pick, List.filterMap, List.getElem?_cons_succ, List.getElem?_cons_zero]
              repeat (go_big_quiet_step (fail))
              exact wpQuiet_nil rfl
            refine ⟨by simp [Act.eval], rfl, fun w1 hb1 => ?_, fun u0 ⟨A', n', c', hu⟩ => ?_, fun u w8 hb8 hR => ?_⟩
            · refine (cloneSpan_any A c fs w1 hfl (Slc.on hS7.out hb1)).mono ?_
              rintro e w2 ⟨A', c', rfl, hb2, hS2, hO2⟩
              have hrf : (rollItem r).faults = fs := by rw [HR.out]; rfl
              exact ⟨_, rfl, ⟨A', c', rfl, ItV.made (by rw [hrf]; exact hS2) (by rw [hrf]; exact hO2)⟩, hb2⟩
            · subst hu
              refine ⟨rfl, fun w1 => ?_⟩
              exact exec_bstruct rfl (by simp [Act.eval, Act.put]) (run_roll id gr co lo ma wi le A' n' c' w1)
            obtain ⟨A', c', rfl, hIt⟩ := hR
            have hX8 := HX7.out.below hb8
            have hx8 := HXX.out.below hb8 HXX.out.lt
            have hC8 := HC7.out.trans (.of_below hb8)
            clear HX7 HXX HC7 HC6 hS7 hb8
            obtain ⟨W, rfl⟩ : ∃ X : World, X = w8 := ⟨_, rfl⟩
            dsimp only [Act.put]
            simp only [List.setIfInBounds_toArray, List.set_cons_succ, List.set_cons_zero, List.drop_succ_cons, List.drop_zero]
            obtain ⟨MI, hM, hZ⟩ := hX8.items
            have e9 : (rollItem r).valAt A' c' = .agg #[.int .i64 id, .int .i64 id, .int .i64 gr, .int .i64 co, .int .i64 lo, .int .i64 ma, .int .i64 wi, .int .i64 le, .slice A' fs.length c'] := by rw [HR.out]; rfl
            rw [e9] at hIt
            refine wpList_put_im rfl rfl _ _ _ _ rfl _ _ Try.underlying54 Try.underlying3 p.ri rfl hM id (.agg #[.int .i64 id, .int .i64 id, .int .i64 gr, .int .i64 co, .int .i64 lo, .int .i64 ma, .int .i64 wi, .int .i64 le, .slice A' fs.length c']) rfl rfl ?_
            intro W9 hM9 hg9
            have hX9 := hX8.put_item (x := rollItem r) hg9 hZ hM9 hIt
            have hx9 := hx8.chg (S := fun k => k = p.ri) (.of_grown hg9 rfl) (fun he => hM.blk_ne hx8 he.symm)
            have hC9 : Chg p.has w W9 := hC8.trans (.of_grown hg9 (by simp [Fp.has]))
            clear hX8 hx8 hC8 hM hZ hM9 hg9 hIt e9
            obtain ⟨W, rfl⟩ : ∃ X : World, X = W9 := ⟨_, rfl⟩
            have c11 := hX9.blk.cell_ 11 (v := .int .i64 s.received) rfl
            obtain ⟨b1, b2, b3, b4, b5, b6, b7, b8, b9⟩ := roll_bd HV.out
            have HAR : Hid (0 ≤ wi * le ∧ wi * le ≤ 900000) := by
              show _ ∧ _
              have h6 : 1 ≤ wi ∧ wi ≤ 150 := by have h := b6; rw [HR.out] at h; exact h
              have h7 : 1 ≤ le ∧ le ≤ 6000 := by have h := b7; rw [HR.out] at h; exact h
              exact mul_le_mul0 (b := 150) (e := 6000) (by omega) h6.2 (by omega) h7.2
            clear b1 b2 b3 b4 b5 b6 b7 b8 b9
            have hrcv : 0 ≤ s.received := by
              have h1 := HI.out.ba
              have h2 : 0 ≤ sumM areaS s.items := sum_nonneg fun q hq => (item_area HI.out (look_mem HI.out.ki hq)).1
              have h3 : 0 ≤ sumM areaP s.pieces := sum_nonneg fun q hq => (piece_area HI.out (look_mem HI.out.kp hq)).1
              have h4 := HI.out.wa
              omega
            have e1 : IntKind.i64.wrap (wi * le) = wi * le := IntWalk.i64_in _ (by have := HAR.out; omega)
            have e2 : IntKind.i64.wrap (s.received + wi * le) = s.received + wi * le := IntWalk.i64_in _ (by have := HAR.out; have := HF.out.re; omega)
            clear hrcv
            go_wp2_with fail
            have x0 := hx9.cell_ 0 rfl
            have x1 := hx9.cell_ 1 rfl
            have x2 := hx9.cell_ 2 rfl
            have x3 := hx9.cell_ 3 rfl
            have x4 := hx9.cell_ 4 rfl
            have x5 := hx9.cell_ 5 rfl
            have x6 := hx9.cell_ 6 rfl
            have x7 := hx9.cell_ 7 rfl
            refine wp_region_quiet_tail (C := fun w' => ∃ u : Since W, w' = u.w) 12 (by kernel_rfl) (by kernel_rfl) (Since.start W) ?_
            simp only [List.take_succ_cons, List.take_zero, List.drop_succ_cons, List.drop_zero]
            have y_x0 := Since.cell x0
            have y_x1 := Since.cell x1
            have y_x2 := Since.cell x2
            have y_x3 := Since.cell x3
            have y_x4 := Since.cell x4
            have y_x5 := Since.cell x5
            have y_x6 := Since.cell x6
            have y_x7 := Since.cell x7
            have y_c11 := Since.cell c11
            clear x0 x1 x2 x3 x4 x5 x6 x7
            repeat (go_big_quiet_step ((fail)))
            refine wpQuiet_nil ?_
            rintro W ⟨⟨_, hb⟩, rfl⟩
            try dsimp only at hb ⊢
            replace c11 : W.cell? _ = _ := y_c11 ⟨W, hb⟩
            clear y_x0 y_x1 y_x2 y_x3 y_x4 y_x5 y_x6 y_x7 y_c11
            replace hx9 := hx9.below hb hx9.lt
            replace hX9 := StA.below hX9 hb
            replace hC9 := Chg.trans hC9 (Chg.of_below hb)
            clear hb
            have x0 := hx9.cell_ 0 rfl
            have x1 := hx9.cell_ 1 rfl
            have x2 := hx9.cell_ 2 rfl
            have x3 := hx9.cell_ 3 rfl
            have x4 := hx9.cell_ 4 rfl
            have x5 := hx9.cell_ 5 rfl
            have x6 := hx9.cell_ 6 rfl
            have x7 := hx9.cell_ 7 rfl
            clear x0 x1 x2 x3 x4 x5 x6 x7
            clear c11
            go_upto_region 17 with (refine wpList_store_at rfl 3 _ _ rfl (.int .i64 (s.received + wi * le)) hX9.blk rfl rfl (by kernel_rfl) rfl (by simp [storeCells_]) rfl ?_; intro W10 hB10 hc10)
            have hX10 := hX9.upd_blk (s' := recFn s r) hc10 hB10 (by rw [HR.out]; simp [storeCells_, recFn]) (by rw [HR.out]; rfl) (by rw [HR.out]; rfl) (by rw [HR.out]; rfl) (by rw [HR.out]; rfl)
            have hC10 : Chg p.has w W10 := hC9.trans (hc10.mono fun k _ hk => .inl hk)
            clear hX9 hC9 hx9 hB10 hc10
            go_wp2_with fail
            go_ret
            rw [HE.out.1, HE.out.2]
            exact ⟨rfl, hX10, hC10⟩
        | false =>
          rw [hq] at hnq
          simp only [Bool.not_false] at hnq
          have HE : Hid (recE s r = 23 ∧ recS s r = s) := by
            have h0 : (decide (kg = gr) && decide (kc = co) && decide (km = ma)) = false := by
              rw [Bool.eq_false_iff] at hq ⊢
              intro h
              apply hq
              simp only [Bool.and_eq_true, beq_iff_eq, decide_eq_true_eq] at h ⊢
              exact ⟨h.1.1, h.1.2, h.2⟩
            have hk0 : kinOk s r = false := by unfold kinOk; rw [HR.out]; dsimp only; rw [hl]; exact h0
            have h1 : recE s r = 23 := by unfold recE; rw [HV.out, HPN.out, hk0]; rfl
            exact ⟨h1, by unfold recS; rw [h1]; rfl⟩
          clear hl hq
          go_wp2_with fail
          have x0 := hx.cell_ 0 rfl
          have x1 := hx.cell_ 1 rfl
          have x2 := hx.cell_ 2 rfl
          have x3 := hx.cell_ 3 rfl
          have x4 := hx.cell_ 4 rfl
          have x5 := hx.cell_ 5 rfl
          have x6 := hx.cell_ 6 rfl
          have x7 := hx.cell_ 7 rfl
          have k0 := hk.cell_ 0 rfl
          have k1 := hk.cell_ 1 rfl
          have k2 := hk.cell_ 2 rfl
          have z_x0 := hide (fun w' (hb : Below W.heap.size W w') => Since.later hb x0)
          have z_x1 := hide (fun w' (hb : Below W.heap.size W w') => Since.later hb x1)
          have z_x2 := hide (fun w' (hb : Below W.heap.size W w') => Since.later hb x2)
          have z_x3 := hide (fun w' (hb : Below W.heap.size W w') => Since.later hb x3)
          have z_x4 := hide (fun w' (hb : Below W.heap.size W w') => Since.later hb x4)
          have z_x5 := hide (fun w' (hb : Below W.heap.size W w') => Since.later hb x5)
          have z_x6 := hide (fun w' (hb : Below W.heap.size W w') => Since.later hb x6)
          have z_x7 := hide (fun w' (hb : Below W.heap.size W w') => Since.later hb x7)
          have z_k0 := hide (fun w' (hb : Below W.heap.size W w') => Since.later hb k0)
          have z_k1 := hide (fun w' (hb : Below W.heap.size W w') => Since.later hb k1)
          have z_k2 := hide (fun w' (hb : Below W.heap.size W w') => Since.later hb k2)
          have z_c9 := hide (fun w' (hb : Below W.heap.size W w') => Since.later hb c9)
          have hok : FldOk W ([⟨10, .ptr, (.cells #[.int .i64 0, .int .i64 0, .int .i64 0] 61), 11, (.cells #[.int .i64 kg, .int .i64 kc, .int .i64 km] 61)⟩]) [] := FldOk.nil_
          refine wp_region_both 12 [0, 1, 2, 3, 4, 5, 6, 7, 8, 9] [10, 11] [⟨10, .ptr, (.cells #[.int .i64 0, .int .i64 0, .int .i64 0] 61), 11, (.cells #[.int .i64 kg, .int .i64 kc, .int .i64 km] 61)⟩] [] (fun f hf => by cases hf) (by kernel_rfl) (by kernel_rfl) (by kernel_rfl) (by kernel_rfl) (by kernel_rfl) (by simp) ?_
          apply Exists.intro
          refine ⟨fun W1 hc0 => ?_, ?_⟩
          · have hb := hc0.nil_
            have y_x0 := Since.cell (z_x0.out W1 hb)
            have y_x1 := Since.cell (z_x1.out W1 hb)
            have y_x2 := Since.cell (z_x2.out W1 hb)
            have y_x3 := Since.cell (z_x3.out W1 hb)
            have y_x4 := Since.cell (z_x4.out W1 hb)
            have y_x5 := Since.cell (z_x5.out W1 hb)
            have y_x6 := Since.cell (z_x6.out W1 hb)
            have y_x7 := Since.cell (z_x7.out W1 hb)
            have y_k0 := Since.cell (z_k0.out W1 hb)
            have y_k1 := Since.cell (z_k1.out W1 hb)
            have y_k2 := Since.cell (z_k2.out W1 hb)
            have y_c9 := Since.cell (z_c9.out W1 hb)
            have y_HLK := fun u : Since W1 => HLK.out u.w (hb.trans (u.h.mono hb.size))
            replace hx := hx.below hb hx.lt
            replace hX := StA.below hX hb
            replace hC := Chg.trans hC (Chg.of_below hb)
            replace hk := hk.below hb hk.lt
            dsimp only [pick, List.filterMap, List.getElem?_cons_succ, List.getElem?_cons_zero]
            repeat (go_big_quiet_step ((fail)))
            exact wpQuiet_nil rfl
          · refine ownWalk_alloc ⟨10, .ptr, (.cells #[.int .i64 0, .int .i64 0, .int .i64 0] 61), 11, (.cells #[.int .i64 kg, .int .i64 kc, .int .i64 km] 61)⟩ hok (by kernel_rfl) rfl rfl rfl rfl (fun _ => rfl) (by simp) (by simp) (fun h => absurd h (by simp)) ?_
            intro hob
            simp only [Shape.val, List.setIfInBounds_toArray, List.set_cons_succ, List.set_cons_zero]
            refine ownWalk_fill (cs := #[.int .i64 0, .int .i64 0, .int .i64 0]) (cs' := #[.int .i64 kg, .int .i64 kc, .int .i64 km]) ⟨10, .ptr, (.cells #[.int .i64 0, .int .i64 0, .int .i64 0] 61), 11, (.cells #[.int .i64 kg, .int .i64 kc, .int .i64 km] 61)⟩ hok (by kernel_rfl) rfl rfl rfl rfl rfl rfl rfl rfl (by kernel_rfl) rfl (by simp [Value.oneCell']) rfl rfl (by simp) (by simp) (by simp) rfl ?_ (by simp)
            refine ownWalk_nil ?_
            intro w' hc0 hD
            have hb := hc0.nil_
            obtain ⟨hoge, ho⟩ := hD.box.get (x := ⟨10, .ptr, (.cells #[.int .i64 0, .int .i64 0, .int .i64 0] 61), 11, (.cells #[.int .i64 kg, .int .i64 kc, .int .i64 km] 61)⟩) (o := (.cells #[.int .i64 kg, .int .i64 kc, .int .i64 km] 61)) (by simp) rfl rfl
            replace ho : Blk _ _ _ _ := ho
            clear hD
            try simp only [List.drop_succ_cons, List.drop_zero]
            replace c9 : w'.cell? _ = _ := z_c9.out w' hb
            clear z_x0 z_x1 z_x2 z_x3 z_x4 z_x5 z_x6 z_x7 z_k0 z_k1 z_k2 z_c9
            clear x0 x1 x2 x3 x4 x5 x6 x7 k0 k1 k2
            replace hx := hx.below hb hx.lt
            replace hX := StA.below hX hb
            replace hC := Chg.trans hC (Chg.of_below hb)
            replace hk := hk.below hb hk.lt
            clear hb hok hc0
            obtain ⟨W, rfl⟩ : ∃ W : World, W = w' := ⟨_, rfl⟩
            have x0 := hx.cell_ 0 rfl
            have x1 := hx.cell_ 1 rfl
            have x2 := hx.cell_ 2 rfl
            have x3 := hx.cell_ 3 rfl
            have x4 := hx.cell_ 4 rfl
            have x5 := hx.cell_ 5 rfl
            have x6 := hx.cell_ 6 rfl
            have x7 := hx.cell_ 7 rfl
            have k0 := hk.cell_ 0 rfl
            have k1 := hk.cell_ 1 rfl
            have k2 := hk.cell_ 2 rfl
            have o0 := ho.cell_ 0 rfl
            have o1 := ho.cell_ 1 rfl
            have o2 := ho.cell_ 2 rfl
            clear HLK c9
            go_wp2_with fail
            go_ret
            rw [HE.out.1, HE.out.2]
            exact ⟨rfl, hX, hC⟩
end Go.Proofs.Ytpeokpnjnmgloaa

/- How much a store may grow: plain. -/
namespace Go.Proofs.Ytpeokpnjnmgloaa
structure Room (s : SS) (r : Nat) : Prop where
  it : s.items.length + 4 * r ≤ 1000000
  pc : s.pieces.length + 4 * r ≤ 1000000
  pa : s.parent.length + 4 * r ≤ 1000000
  lo : s.lots.length + 4 * r ≤ 1000000
  la : s.last + 4 * (r : Int) ≤ 1000000000000
  re : s.received + 1000000 * (r : Int) ≤ 1000000000000000
section
variable {s s' t : SS} {r k : Nat}
theorem Room.few (h : Room s r) : Few s := ⟨by have := h.it; omega, by have := h.pc; omega, by have := h.pa; omega, by have := h.lo; omega, by have := h.la; omega, by have := h.re; omega⟩
theorem Room.less (h : Room s r) (hr : k ≤ r) : Room s k := ⟨by have := h.it; omega, by have := h.pc; omega, by have := h.pa; omega, by have := h.lo; omega, by have := h.la; omega, by have := h.re; omega⟩
/-- what a store has more than another one, at the most -/
structure More (s t : SS) (a b c : Nat) (d : Int) : Prop where
  it : t.items.length ≤ s.items.length + a
  pc : t.pieces.length ≤ s.pieces.length + b
  pa : t.parent.length ≤ s.parent.length + c
  lo : t.lots.length ≤ s.lots.length
  la : t.last ≤ s.last + d
  re : t.received ≤ s.received
theorem More.trans {u : SS} {a b c a' b' c' : Nat} {d d' : Int} (h : More s t a b c d) (g : More t u a' b' c' d') : More s u (a + a') (b + b') (c + c') (d + d') :=
  ⟨by have := h.it; have := g.it; omega, by have := h.pc; have := g.pc; omega, by have := h.pa; have := g.pa; omega, Nat.le_trans g.lo h.lo, by have := h.la; have := g.la; omega, Int.le_trans g.re h.re⟩
theorem more_add (s : SS) (x : Sheet) (u m : Int) : More s (addF s x u m) 1 0 1 1 := by
  unfold addF
  split
  · exact ⟨by show s.items.length ≤ _; omega, Nat.le_refl _, by show s.parent.length ≤ _; omega, Nat.le_refl _, by show s.last ≤ _; omega, Int.le_refl _⟩
  · exact ⟨len_put _ _ _, Nat.le_refl _, len_put _ _ _, Nat.le_refl _, Int.le_refl _, Int.le_refl _⟩
theorem more_rest (s : SS) (x : Sheet) : More s (restF s x) 1 0 0 0 := by
  unfold restF
  split
  · exact ⟨len_put _ _ _, Nat.le_refl _, Nat.le_refl _, Nat.le_refl _, by show s.last ≤ _; omega, Int.le_refl _⟩
  · exact ⟨by show s.items.length ≤ _; omega, Nat.le_refl _, Nat.le_refl _, Nat.le_refl _, by show s.last ≤ _; omega, Int.le_refl _⟩
theorem more_cut (s : SS) (n : Need) (lot : Int) (b : Sheet) (q : Int) : More s (cutD (cutC s n b q) n lot b) 3 1 3 3 := by
  have h0 : More s { s with items := del s.items b.id } 0 0 0 0 := ⟨len_del _ _, Nat.le_refl _, Nat.le_refl _, Nat.le_refl _, by show s.last ≤ _; omega, Int.le_refl _⟩
  have h1 : More _ (cutA s b q) 1 0 1 1 := more_add _ _ _ _
  have h2 : More (cutA s b q) (cutB s n b q) 1 0 1 1 := more_add _ _ _ _
  have h3 : More (cutB s n b q) (cutC s n b q) 1 0 0 0 := more_rest _ _
  have h4 : More (cutC s n b q) (cutD (cutC s n b q) n lot b) 0 1 1 1 := ⟨Nat.le_refl _, len_put _ _ _, len_put _ _ _, Nat.le_refl _, Int.le_refl _, Int.le_refl _⟩
  exact (((h0.trans h1).trans h2).trans h3).trans h4
theorem Room.more {a b c : Nat} {d : Int} (h : Room s (r + 1)) (m : More s t a b c d) (ha : a ≤ 4) (hb : b ≤ 4) (hc : c ≤ 4) (hd : d ≤ 4) : Room t r :=
  ⟨by have := h.it; have := m.it; omega, by have := h.pc; have := m.pc; omega, by have := h.pa; have := m.pa; omega, by have := h.lo; have := m.lo; omega, by have := h.la; have := m.la; omega, by have := h.re; have := m.re; omega⟩
theorem room_one {n : Need} {lot day : Int} {q : Piece} (h : Room s (r + 1)) (hc : cutOneF s n lot day = some (s', q)) : Room s' r := by
  unfold cutOneF at hc
  cases hb : chosen s n lot day with
  | none => rw [hb] at hc; cases hc
  | some b =>
    rw [hb] at hc
    injection hc with hc
    injection hc with h1 h2
    rw [← h1]
    exact h.more (more_cut _ _ _ _ _) (by omega) (by omega) (by omega) (by omega)
theorem room_all {n : Need} {lot day : Int} : ∀ {k r : Nat} {s s' : SS} {l : List Piece}, Room s (r + k) → cutAllF n lot day k s = some (s', l) → Room s' r
  | 0, r, s, s', l, h, hc => by
    injection hc with hc
    injection hc with h1 h2
    rw [← h1]; exact h
  | k + 1, r, s, s', l, h, hc => by
    unfold cutAllF at hc
    cases h1 : cutAllF n lot day k s with
    | none => rw [h1] at hc; cases hc
    | some q =>
      obtain ⟨s1, l1⟩ := q
      rw [h1] at hc
      dsimp only at hc
      have i1 := room_all (k := k) (r := r + 1) (by rw [show r + 1 + k = r + (k + 1) by omega]; exact h) h1
      cases h2 : cutOneF s1 n lot day with
      | none => rw [h2] at hc; cases hc
      | some q2 =>
        obtain ⟨s2, p2⟩ := q2
        rw [h2] at hc
        injection hc with hc
        injection hc with h3 h4
        rw [← h3]
        exact room_one i1 h2
theorem all_no {n : Need} {lot day : Int} {i k : Nat} (h : cutAllF n lot day i s = none) (hk : i ≤ k) : cutAllF n lot day k s = none := by
  obtain ⟨d, rfl⟩ := Nat.le.dest hk
  induction d with
  | zero => exact h
  | succ d ih => show (match cutAllF n lot day (i + d) s with | none => none | some (s', l) => match cutOneF s' n lot day with | none => none | some (s2, p) => some (s2, l ++ [p])) = none; rw [ih (by omega)]
theorem all_stop {n : Need} {lot day : Int} {i : Nat} {l : List Piece} (h : cutAllF n lot day i s = some (s', l)) (hc : cutOneF s' n lot day = none) : cutAllF n lot day (i + 1) s = none := by
  unfold cutAllF; rw [h]; dsimp only; rw [hc]
theorem all_next {n : Need} {lot day : Int} {i : Nat} {l : List Piece} {q : Piece} (h : cutAllF n lot day i s = some (s', l)) (hc : cutOneF s' n lot day = some (t, q)) : cutAllF n lot day (i + 1) s = some (t, l ++ [q]) := by
  unfold cutAllF; rw [h]; dsimp only; rw [hc]
end
end Go.Proofs.Ytpeokpnjnmgloaa

/- Balance of a store in memory; two balances compared. -/
namespace Go.Proofs.Ytpeokpnjnmgloaa
open Go Go.RowKit
def pA (x : Piece) : Int := if x.use = 0 then x.width * x.length else 0
def pU (x : Piece) : Int := if x.use = 0 then 0 else x.width * x.length
def stockF (s : SS) : Int := sumM areaS s.items
def freeF (s : SS) : Int := sumM pA s.pieces
def usedF (s : SS) : Int := sumM pU s.pieces
theorem zip_sum {w : World} : ∀ {L : List (Int × Sheet)} {M : List (Int × Value)}, Zip (ItV w) L M → sumV wlV M = sumM areaS L
  | [], [], _ => rfl
  | [], q :: M, h => by have := h.1; simp at this
  | p :: L, [], h => by have := h.1; simp at this
  | p :: L, q :: M, h => by
    obtain ⟨⟨h1, A, c, h2, _⟩, h3⟩ := h.cons
    have ih := zip_sum h3
    rw [sumM_cons, ← ih]
    show (wlV q.2 + (M.map fun p => wlV p.2).sum) = _
    rw [h2]; rfl
theorem kv_sum (f : Value → Int) (g : Piece → Int) (h : ∀ x : Piece, f x.val = g x) : ∀ L : List (Int × Piece), sumV f (L.map (kv Piece.val)) = sumM g L
  | [] => rfl
  | p :: L => by
    have ih := kv_sum f g h L
    rw [sumM_cons, ← ih, ← h]; rfl
theorem balance_any (p : Fp) (s : SS) (w : World) (hX : StA w p s) (hI : Inv s) (hF : Few s) :
    Calls Try.prog 14 #[.pointer (some ⟨p.g, 0, none⟩)] w fun e w' => e = .returned (.agg #[.int .i64 s.received, .int .i64 (stockF s), .int .i64 (freeF s), .int .i64 (usedF s), .int .i64 s.waste]) ∧ Below w.heap.size w w' := by
  obtain ⟨MI, hM, hZ⟩ := hX.items
  have e1 := zip_sum hZ
  have e2 : sumV plV (s.pieces.map (kv Piece.val)) = freeF s := kv_sum _ _ (fun x => rfl) _
  have e3 : sumV puV (s.pieces.map (kv Piece.val)) = usedF s := kv_sum _ _ (fun x => rfl) _
  refine (bal_any p.g w _ hX.blk p.ri p.rp s.received s.waste rfl rfl rfl rfl rfl MI _ hM hX.pieces (fun q hq => ?_) (by rw [hZ.1]; exact hF.it) (fun q hq => ?_) (by rw [List.length_map]; exact hF.pc)).mono fun e w' ⟨he, hb⟩ => ⟨by rw [he, e1, e2, e3]; rfl, hb⟩
  · obtain ⟨i, hi⟩ := List.getElem?_of_mem hq
    have hl : i < s.items.length := by rw [← hZ.1]; exact (List.getElem?_eq_some_iff.1 hi).1
    obtain ⟨h1, A, c, h2, _⟩ := hZ.2 i s.items[i] q (List.getElem?_eq_getElem hl) hi
    have ho := (hI.it _ _ (look_mem hI.ki (k := s.items[i].1) (v := s.items[i].2) (List.getElem_mem hl))).2
    have hw := ho.w
    have hl2 := ho.l
    exact ⟨_, _, _, _, _, _, _, _, _, _, _, h2, by omega, hw.2, by omega, hl2.2⟩
  · obtain ⟨x, hx, rfl⟩ := List.mem_map.1 hq
    have ho := (hI.pc _ _ (look_mem hI.kp hx)).2
    have hw := ho.w
    have hl2 := ho.l
    exact ⟨_, _, _, _, _, _, _, _, rfl, by omega, hw.2, by omega, hl2.2⟩
theorem eql_bal (a b c d e : Int) (w : World) : (binOp .eql 52 (.agg #[.int .i64 a, .int .i64 b, .int .i64 c, .int .i64 d, .int .i64 e]) (.agg #[.int .i64 a, .int .i64 b, .int .i64 c, .int .i64 d, .int .i64 e])).run Try.prog w = .ok (.bool true) w := by
  have he := eq_bal a b c d e a b c d e w
  simp [binOp, Op.equal, Op.maxDepth, he]
section
variable {s : SS} {x : Piece}
/-- what Return does to the areas -/
theorem back_free (h : Inv s) (hx : look s.pieces x.id = some x) (hu : x.use = 0) : freeF { s with pieces := del s.pieces x.id } = freeF s - x.width * x.length ∧ usedF { s with pieces := del s.pieces x.id } = usedF s := by
  unfold freeF usedF
  constructor
  · show sumM pA (del s.pieces x.id) = _
    rw [sum_del pA h.kp hx]
    have : pA x = x.width * x.length := by unfold pA; rw [if_pos hu]
    omega
  · show sumM pU (del s.pieces x.id) = _
    rw [sum_del pU h.kp hx]
    have : pU x = 0 := by unfold pU; rw [if_pos hu]
    omega
theorem back_waste (_h : Inv s) (hx : look s.pieces x.id = some x) (hu : x.use = 0) (hc : x.width < s.rules.minWidth ∨ x.length < s.rules.minLength) :
    backS s x.id = { s with pieces := del s.pieces x.id, waste := s.waste + x.width * x.length } := by
  unfold backS; rw [hx]; dsimp only; rw [if_pos hu]; unfold backFn; rw [if_pos hc]
theorem back_item (_h : Inv s) (hx : look s.pieces x.id = some x) (hu : x.use = 0) (hc : ¬ (x.width < s.rules.minWidth ∨ x.length < s.rules.minLength)) :
    backS s x.id = { s with pieces := del s.pieces x.id, items := put s.items x.id (backItem s x) } := by
  unfold backS; rw [hx]; dsimp only; rw [if_pos hu]; unfold backFn; rw [if_neg hc]
theorem no_item (h : Inv s) (hx : look s.pieces x.id = some x) : look s.items x.id = none := by
  cases e : look s.items x.id with
  | none => rfl
  | some y => have := h.di _ _ e; rw [hx] at this; cases this
theorem back_stock (h : Inv s) (hx : look s.pieces x.id = some x) : stockF { s with pieces := del s.pieces x.id, items := put s.items x.id (backItem s x) } = stockF s + x.width * x.length := by
  unfold stockF
  show sumM areaS (put s.items x.id (backItem s x)) = _
  rw [sum_put_new areaS (no_item h hx)]; rfl
theorem sum_split : ∀ L : List (Int × Piece), sumM areaP L = sumM pA L + sumM pU L
  | [] => rfl
  | q :: L => by
    have ih := sum_split L
    rw [sumM_cons, sumM_cons, sumM_cons, ih]
    have : areaP q.2 = pA q.2 + pU q.2 := by unfold areaP pA pU; split <;> omega
    omega
theorem areas_bd (h : Inv s) (f : Few s) : 0 ≤ stockF s ∧ 0 ≤ freeF s ∧ 0 ≤ usedF s ∧ 0 ≤ s.waste ∧ stockF s + freeF s + usedF s + s.waste = s.received ∧ s.received ≤ 1000000000000000 := by
  have h1 := h.ba
  have h2 : 0 ≤ sumM areaS s.items := sum_nonneg fun q hq => (item_area h (look_mem h.ki hq)).1
  have h3 : 0 ≤ sumM pA s.pieces := sum_nonneg fun q hq => by
    have := (piece_area h (look_mem h.kp hq)).1
    unfold pA; split <;> omega
  have h4 : 0 ≤ sumM pU s.pieces := sum_nonneg fun q hq => by
    have := (piece_area h (look_mem h.kp hq)).1
    unfold pU; split <;> omega
  have h5 := sum_split s.pieces
  have h6 := f.re
  have h7 := h.wa
  unfold stockF freeF usedF
  omega
end
end Go.Proofs.Ytpeokpnjnmgloaa

/- Copy: the walk. -/
namespace Go.Proofs.Ytpeokpnjnmgloaa
open Go Go.RowKit Go.Maps Go.Sort Go.Shelf
theorem MapOf.copied {w w' : World} {r r' : Nat} {M : List (Int × Value)} (h : MapOf w r M) (he : w'.heap[r']? = w.heap[r]?) : MapOf w' r' M := by
  obtain ⟨es, clock, hb, rest⟩ := h
  exact ⟨es, clock, he.trans hb, rest⟩
def CloneM (M : List (Int × Value)) (w : World) (e : Ending) (w' : World) : Prop := ∃ r', e = .returned (.map (some r')) ∧ w.heap.size ≤ r' ∧ MapOf w' r' M ∧ Below w.heap.size w w'
theorem cloned {P : Program} {ρ : Ren} (L : SlLaysW.n5 P ρ) {w : World} {r : Nat} {M : List (Int × Value)} (h : MapOf w r M) : Calls P (ρ.f 5) #[.map (some r)] w (CloneM M w) := by
  obtain ⟨es, clock, hb, h2⟩ := h
  refine (AnyW.maps_Clone L r es clock w hb).mono ?_
  rintro e w' ⟨rfl, rfl⟩
  exact ⟨_, rfl, Nat.le_refl _, ⟨es, clock, (MapKept.heap_alloc w _).1, h2⟩, (Below.refl _ _).alloc (Nat.le_refl _) _⟩
def CopyPost (s : SS) (w : World) (e : Ending) (w' : World) : Prop := ∃ p' : Fp, e = .returned (.pointer (some ⟨p'.g, 0, none⟩)) ∧ StA w' p' s ∧ (∀ k, p'.has k → w.heap.size ≤ k) ∧ Below w.heap.size w w'
set_option maxRecDepth 100000 in
set_option maxHeartbeats 4000000 in
theorem copy_any (p : Fp) (s : SS) (w : World) (hX : StA w p s) : Calls Try.prog 31 #[.pointer (some ⟨p.g, 0, none⟩)] w (CopyPost s w) := by
  have HX := hide hX
  have c0 := hX.blk.cell_ 0 (v := .int .i64 s.rules.minWidth) rfl
  have c1 := hX.blk.cell_ 1 (v := .int .i64 s.rules.minLength) rfl
  have c2 := hX.blk.cell_ 2 (v := .int .i64 s.rules.l0) rfl
  have c3 := hX.blk.cell_ 3 (v := .int .i64 s.rules.l1) rfl
  have c4 := hX.blk.cell_ 4 (v := .int .i64 s.rules.l2) rfl
  have c5 := hX.blk.cell_ 5 (v := .bool true) rfl
  have c6 := hX.blk.cell_ 6 (v := .map (some p.ri)) rfl
  have c7 := hX.blk.cell_ 7 (v := .map (some p.rp)) rfl
  have c8 := hX.blk.cell_ 8 (v := .map (some p.rq)) rfl
  have c9 := hX.blk.cell_ 9 (v := .map (some p.rl)) rfl
  have c10 := hX.blk.cell_ 10 (v := .int .i64 s.last) rfl
  have c11 := hX.blk.cell_ 11 (v := .int .i64 s.received) rfl
  have c12 := hX.blk.cell_ 12 (v := .int .i64 s.waste) rfl
  clear hX
  go_enter Try.func31, Try.ntmps31
  go_wp2_with fail
  refine (none_any p.g _ c5).mono ?_
  rintro e W' ⟨rfl, rfl⟩
  go_upto_region 4 with fail
  have hk := Blk.new w 58 (storeCells_ s p.ri p.rp p.rq p.rl)
  have hB := (Below.refl w.heap.size w).alloc (Nat.le_refl _) (.cells (storeCells_ s p.ri p.rp p.rq p.rl) 58)
  have hb0 : w.heap.size ≤ w.heap.size := Nat.le_refl _
  unfold storeCells_ at hk hB
  clear c0 c1 c2 c3 c4 c5 c6 c7 c8 c9 c10 c11 c12
  generalize w.alloc (.cells #[.int .i64 s.rules.minWidth, .int .i64 s.rules.minLength, .int .i64 s.rules.l0, .int .i64 s.rules.l1, .int .i64 s.rules.l2, .bool true, .map (some p.ri), .map (some p.rp), .map (some p.rq), .map (some p.rl), .int .i64 s.last, .int .i64 s.received, .int .i64 s.waste] 58) = W at *
  obtain ⟨b, hbe⟩ : ∃ b, w.heap.size = b := ⟨_, rfl⟩
  have HBE := hide hbe
  rw [hbe] at hk hB ⊢
  clear hbe hb0
  obtain ⟨MI, hMI, hZ⟩ := HX.out.items
  have HMI := hide (And.intro hMI hZ)
  clear hMI hZ
  have h0 : Hid (∀ W, Below b w W → StA W p s ∧ MapOf W p.ri MI) := fun W hb => ⟨HX.out.below (by rw [HBE.out]; exact hb), HMI.out.1.below hb (by rw [← HBE.out]; exact HMI.out.1.lt)⟩
  have c6 := (h0.out W hB).1.blk.cell_ 6 (v := .map (some p.ri)) rfl
  have g0 := (h0.out W hB).2
  have hsz : b ≤ W.heap.size := by rw [← HBE.out]; exact hB.size
  go_wp2_with fail
  refine (cloned cloneILays (g0)).mono ?_
  rintro e W2 ⟨r1, rfl, hr1, mr1, hb2⟩
  replace hk := hk.below hb2 hk.lt
  replace hB := hB.trans (hb2.mono hsz)
  have or1 : W.heap.size ≤ r1 := hr1
  replace hr1 : b ≤ r1 := Nat.le_trans hsz hr1
  replace hsz : b ≤ W2.heap.size := Nat.le_trans hsz hb2.size
  clear c6 g0
  go_upto_region 5 with (refine wpList_store_at rfl 54 _ _ rfl (.map (some r1)) hk rfl rfl (by kernel_rfl) rfl (by simp) rfl ?_; intro W3 hk3 hc3)
  replace hB := hB.trans (hc3.below1 hsz (Nat.le_refl _))
  clear hsz
  replace mr1 := mr1.chg hc3 (fun he => mr1.blk_ne hk he)
  replace hk := hk3
  clear hk3 hc3 hb2
  obtain ⟨W, rfl⟩ : ∃ X : World, X = W3 := ⟨_, rfl⟩
  try dsimp only [Act.put]
  have c7 := (h0.out W hB).1.blk.cell_ 7 (v := .map (some p.rp)) rfl
  have g0 := (h0.out W hB).1.pieces
  have l1 := mr1.lt
  have hsz : b ≤ W.heap.size := by rw [← HBE.out]; exact hB.size
  go_wp2_with fail
  refine (cloned clonePLays (g0)).mono ?_
  rintro e W2 ⟨r2, rfl, hr2, mr2, hb2⟩
  replace hk := hk.below hb2 hk.lt
  replace hB := hB.trans (hb2.mono hsz)
  have or2 : W.heap.size ≤ r2 := hr2
  replace hr2 : b ≤ r2 := Nat.le_trans hsz hr2
  replace hsz : b ≤ W2.heap.size := Nat.le_trans hsz hb2.size
  replace mr1 := mr1.below hb2 mr1.lt
  clear c7 g0
  go_upto_region 6 with (refine wpList_store_at rfl 55 _ _ rfl (.map (some r2)) hk rfl rfl (by kernel_rfl) rfl (by simp) rfl ?_; intro W3 hk3 hc3)
  replace hB := hB.trans (hc3.below1 hsz (Nat.le_refl _))
  clear hsz
  replace mr1 := mr1.chg hc3 (fun he => mr1.blk_ne hk he)
  replace mr2 := mr2.chg hc3 (fun he => mr2.blk_ne hk he)
  replace hk := hk3
  clear hk3 hc3 hb2
  obtain ⟨W, rfl⟩ : ∃ X : World, X = W3 := ⟨_, rfl⟩
  try dsimp only [Act.put]
  have c8 := (h0.out W hB).1.blk.cell_ 8 (v := .map (some p.rq)) rfl
  have g0 := (h0.out W hB).1.parent
  have l2 := mr2.lt
  have l1' := mr1.lt
  have hsz : b ≤ W.heap.size := by rw [← HBE.out]; exact hB.size
  go_wp2_with fail
  refine (cloned cloneQLays (g0)).mono ?_
  rintro e W2 ⟨r3, rfl, hr3, mr3, hb2⟩
  replace hk := hk.below hb2 hk.lt
  replace hB := hB.trans (hb2.mono hsz)
  have or3 : W.heap.size ≤ r3 := hr3
  replace hr3 : b ≤ r3 := Nat.le_trans hsz hr3
  replace hsz : b ≤ W2.heap.size := Nat.le_trans hsz hb2.size
  replace mr1 := mr1.below hb2 mr1.lt
  replace mr2 := mr2.below hb2 mr2.lt
  clear c8 g0
  go_upto_region 7 with (refine wpList_store_at rfl 33 _ _ rfl (.map (some r3)) hk rfl rfl (by kernel_rfl) rfl (by simp) rfl ?_; intro W3 hk3 hc3)
  replace hB := hB.trans (hc3.below1 hsz (Nat.le_refl _))
  clear hsz
  replace mr1 := mr1.chg hc3 (fun he => mr1.blk_ne hk he)
  replace mr2 := mr2.chg hc3 (fun he => mr2.blk_ne hk he)
  replace mr3 := mr3.chg hc3 (fun he => mr3.blk_ne hk he)
  replace hk := hk3
  clear hk3 hc3 hb2
  obtain ⟨W, rfl⟩ : ∃ X : World, X = W3 := ⟨_, rfl⟩
  try dsimp only [Act.put]
  have c9 := (h0.out W hB).1.blk.cell_ 9 (v := .map (some p.rl)) rfl
  have g0 := (h0.out W hB).1.lots
  have l3 := mr3.lt
  have l2' := mr2.lt
  have l1'' := mr1.lt
  have hsz : b ≤ W.heap.size := by rw [← HBE.out]; exact hB.size
  go_wp2_with fail
  refine (cloned cloneLLays (g0)).mono ?_
  rintro e W2 ⟨r4, rfl, hr4, mr4, hb2⟩
  replace hk := hk.below hb2 hk.lt
  replace hB := hB.trans (hb2.mono hsz)
  have or4 : W.heap.size ≤ r4 := hr4
  replace hr4 : b ≤ r4 := Nat.le_trans hsz hr4
  replace hsz : b ≤ W2.heap.size := Nat.le_trans hsz hb2.size
  replace mr1 := mr1.below hb2 mr1.lt
  replace mr2 := mr2.below hb2 mr2.lt
  replace mr3 := mr3.below hb2 mr3.lt
  clear c9 g0
  go_upto_region 8 with (refine wpList_store_at rfl 56 _ _ rfl (.map (some r4)) hk rfl rfl (by kernel_rfl) rfl (by simp) rfl ?_; intro W3 hk3 hc3)
  replace hB := hB.trans (hc3.below1 hsz (Nat.le_refl _))
  clear hsz
  replace mr1 := mr1.chg hc3 (fun he => mr1.blk_ne hk he)
  replace mr2 := mr2.chg hc3 (fun he => mr2.blk_ne hk he)
  replace mr3 := mr3.chg hc3 (fun he => mr3.blk_ne hk he)
  replace mr4 := mr4.chg hc3 (fun he => mr4.blk_ne hk he)
  replace hk := hk3
  clear hk3 hc3 hb2
  go_wp2_with fail
  go_ret
  refine ⟨⟨b, r1, r2, r3, r4⟩, rfl, ⟨hk, ⟨MI, mr1, HMI.out.2.imp fun x v hv => hv.below (by rw [HBE.out]; exact hB)⟩, mr2, mr3, mr4, ?_⟩, ?_, by rw [HBE.out]; exact hB⟩
  · refine ⟨?_, ?_, ?_, ?_, ?_, ?_⟩ <;> dsimp only <;> omega
  · rw [HBE.out]
    rintro k (rfl | rfl | rfl | rfl | rfl) <;> omega
end Go.Proofs.Ytpeokpnjnmgloaa
