/- Parts of the proofs of this seat: DeskNew. Each part says what it proves; no condition beyond those stated there. -/
import Derived.Test.YtcpnfcnobnjhdaaB27

/- The desk of package shop: a new one. -/
namespace Go.Proofs.Ytcpnfcnobnjhdaa
open Go.RowKit
def desk0 (p : Shop) : Desk := ⟨[], List.replicate p.jobs.length 0, p.jobs.map fun l => List.replicate l.length 0⟩
def NewDesk (s : Sh) (w : World) (e : Ending) (w' : World) : Prop := ∃ g mb bo bp brs, e = .returned (.pointer (some ⟨g, 0, none⟩)) ∧ Below w.heap.size w w' ∧ DeskAt w.heap.size w' g mb bo bp brs s (desk0 s.p)
/-- the rows that have been made so far -/
def rowK (brs : List Nat) (zs : List (List Int)) (i : Nat) : Value := match brs[i]?, zs[i]? with
  | some b, some l => rowV b l
  | _, _ => .slice none 0 0
def rowsK (brs : List Nat) (zs : List (List Int)) : Array Value := ((List.range zs.length).map (rowK brs zs)).toArray
theorem rowsK_size (brs : List Nat) (zs : List (List Int)) : (rowsK brs zs).size = zs.length := by simp [rowsK]
theorem rowsK_nil (zs : List (List Int)) : rowsK [] zs = (List.replicate zs.length (.slice none 0 0)).toArray := by
  unfold rowsK
  congr 1
  apply List.ext_getElem?
  intro i
  rw [List.getElem?_map]
  by_cases h : i < zs.length <;> simp [h, rowK]
theorem rowsK_set {brs : List Nat} {zs : List (List Int)} {b : Nat} {l : List Int} (hl : zs[brs.length]? = some l) : (rowsK brs zs).setIfInBounds brs.length (rowV b l) = rowsK (brs ++ [b]) zs := by
  have hlt := (List.getElem?_eq_some_iff.1 hl).1
  unfold rowsK
  rw [List.setIfInBounds_toArray]
  congr 1
  apply List.ext_getElem?
  intro i
  rw [List.getElem?_set, List.getElem?_map, List.getElem?_map]
  by_cases hi : brs.length = i
  · subst hi
    have hz := (List.getElem?_eq_some_iff.1 hl).2
    simp [hlt, rowK, hz]
  · rw [if_neg hi]
    by_cases h : i < zs.length
    · simp only [List.getElem?_range h, Option.map_some]
      congr 1
      unfold rowK
      by_cases h2 : i < brs.length
      · rw [List.getElem?_append_left h2]
      · rw [List.getElem?_append_right (by omega), show brs[i]? = none from List.getElem?_eq_none (by omega), show [b][i - brs.length]? = none from List.getElem?_eq_none (by simp only [List.length_cons, List.length_nil]; omega)]
    · simp [h]
theorem rowsK_all {brs : List Nat} {zs : List (List Int)} (h : brs.length = zs.length) : rowsK brs zs = rowsV brs zs := by
  unfold rowsK rowsV
  congr 1
  apply List.ext_getElem?
  intro i
  rw [List.getElem?_map, List.getElem?_zipWith]
  by_cases hi : i < zs.length
  · have h1 : brs[i]? = some (brs[i]'(by omega)) := List.getElem?_eq_getElem _
    have h2 : zs[i]? = some zs[i] := List.getElem?_eq_getElem hi
    simp [List.getElem?_range hi, rowK, h1, h2]
  · simp [hi]
theorem ints_zero (n : Nat) : (List.replicate n (Value.int .i64 0)).toArray = ints (List.replicate n 0) := by simp [ints, intV]
def RowsOk (w : World) (brs : List Nat) (zs : List (List Int)) : Prop := ∀ (i b : Nat) l, brs[i]? = some b → zs[i]? = some l → Blk w b 3 (ints l)
theorem RowsOk.below {w w' : World} {brs : List Nat} {zs : List (List Int)} (h : RowsOk w brs zs) (hb : Below w.heap.size w w') : RowsOk w' brs zs := fun i b l h1 h2 => (h i b l h1 h2).below hb (h i b l h1 h2).lt
theorem RowsOk.chg1 {w w' : World} {brs : List Nat} {zs : List (List Int)} {g : Nat} (h : RowsOk w brs zs) (hc : Chg (fun k => k = g) w w') (hn : ∀ b ∈ brs, b ≠ g) : RowsOk w' brs zs := fun i b l h1 h2 => (h i b l h1 h2).chg1 hc (hn b (List.mem_of_getElem? h1))
theorem RowsOk.snoc {w : World} {brs : List Nat} {zs : List (List Int)} {b : Nat} {l : List Int} (h : RowsOk w brs zs) (hl : zs[brs.length]? = some l) (hb : Blk w b 3 (ints l)) : RowsOk w (brs ++ [b]) zs := fun i b' l' h1 h2 => by
  by_cases hi : i < brs.length
  · rw [List.getElem?_append_left hi] at h1; exact h i b' l' h1 h2
  · have hlt := (List.getElem?_eq_some_iff.1 h1).1
    simp at hlt
    obtain rfl : i = brs.length := by omega
    simp at h1
    subst h1
    rw [hl] at h2
    injection h2 with h2
    subst h2
    exact hb
theorem RowsOk.lt {w : World} {brs : List Nat} {zs : List (List Int)} (h : RowsOk w brs zs) (hl : brs.length ≤ zs.length) : ∀ b ∈ brs, b < w.heap.size := fun b hb => by
  obtain ⟨i, hi⟩ := List.getElem?_of_mem hb
  have := (List.getElem?_eq_some_iff.1 hi).1
  exact (h i b _ hi (List.getElem?_eq_getElem (by omega))).lt
def Apart (B gb rmb rob rpb : Nat) (brs : List Nat) : Prop := (gb :: rmb :: rob :: rpb :: brs).Nodup ∧ ∀ b ∈ brs, B < b
theorem Apart.snoc {B gb rmb rob rpb b : Nat} {brs : List Nat} (h : Apart B gb rmb rob rpb brs) (h1 : b ≠ gb ∧ b ≠ rmb ∧ b ≠ rob ∧ b ≠ rpb) (h2 : b ∉ brs) (h3 : B < b) : Apart B gb rmb rob rpb (brs ++ [b]) := by
  obtain ⟨hn, hb⟩ := h
  refine ⟨?_, fun x hx => ?_⟩
  · have : gb :: rmb :: rob :: rpb :: (brs ++ [b]) = (gb :: rmb :: rob :: rpb :: brs) ++ [b] := rfl
    rw [this, List.nodup_append]
    refine ⟨hn, by simp, fun x hx y hy => ?_⟩
    simp at hy
    subst hy
    simp only [List.mem_cons] at hx
    rintro rfl
    rcases hx with hx | hx | hx | hx | hx
    · exact h1.1 hx
    · exact h1.2.1 hx
    · exact h1.2.2.1 hx
    · exact h1.2.2.2 hx
    · exact h2 hx
  · rcases List.mem_append.1 hx with hx | hx
    · exact hb x hx
    · simp at hx; subst hx; exact h3
set_option maxRecDepth 100000 in
set_option maxHeartbeats 2000000 in
theorem newDesk_any (s : Sh) (w : World) (hS : ShAt w w.heap.size s) (hv : VShop s.p) : Calls Try.prog 60 #[.agg #[.int .i64 s.p.op, .int .i64 s.p.cl, .slice s.aH s.p.hol.length s.cH, .int .i64 s.p.mach, .slice s.aS s.p.setup.length s.cS, .slice s.aJ s.p.jobs.length s.cJ]] w (NewDesk s w) := by
  have hjn := hv.jobn
  have MK1 := hide (run_make1 (P := Try.prog) (bytes := 8) (z := .int .i64 0) Try.underlying22 (by kernel_rfl) rfl (by omega))
  have MK2 := hide (run_make1 (P := Try.prog) (bytes := 24) (z := .slice none 0 0) Try.underlying44 (by kernel_rfl) rfl (by omega))
  obtain ⟨p, aH, cH, aS, cS, aJ, cJ⟩ := s
  dsimp only at *
  have hk := Blk.new w 25 #[.int .i64 p.op, .int .i64 p.cl, .slice aH p.hol.length cH, .int .i64 p.mach, .slice aS p.setup.length cS, .slice aJ p.jobs.length cJ]
  have hB := (Below.refl w.heap.size w).alloc (Nat.le_refl _) (.cells #[.int .i64 p.op, .int .i64 p.cl, .slice aH p.hol.length cH, .int .i64 p.mach, .slice aS p.setup.length cS, .slice aJ p.jobs.length cJ] 25)
  go_enter Try.func60, Try.ntmps60
  go_wp2_with fail
  generalize w.alloc (.cells #[.int .i64 p.op, .int .i64 p.cl, .slice aH p.hol.length cH, .int .i64 p.mach, .slice aS p.setup.length cS, .slice aJ p.jobs.length cJ] 25) = W at *
  have c0 := hk.cell_ 0 rfl
  have c1 := hk.cell_ 1 rfl
  have c2 := hk.cell_ 2 rfl
  have c3 := hk.cell_ 3 rfl
  have c4 := hk.cell_ 4 rfl
  have c5 := hk.cell_ 5 rfl
  have lk0 := hk.lt
  go_wp2_with fail
  have z_c0 := hide (fun w' (hb : Below W.heap.size W w') => Since.later hb c0)
  have z_c1 := hide (fun w' (hb : Below W.heap.size W w') => Since.later hb c1)
  have z_c2 := hide (fun w' (hb : Below W.heap.size W w') => Since.later hb c2)
  have z_c3 := hide (fun w' (hb : Below W.heap.size W w') => Since.later hb c3)
  have z_c4 := hide (fun w' (hb : Below W.heap.size W w') => Since.later hb c4)
  have z_c5 := hide (fun w' (hb : Below W.heap.size W w') => Since.later hb c5)
  have hok : FldOk W ([⟨1, .map, (.map #[] 0), 1, (.map #[] 0)⟩, ⟨5, (.slice p.jobs.length p.jobs.length), (.cells (List.replicate p.jobs.length (Value.int .i64 0)).toArray 3), 5, (.cells (List.replicate p.jobs.length (Value.int .i64 0)).toArray 3)⟩, ⟨9, (.slice p.jobs.length p.jobs.length), (.cells (List.replicate p.jobs.length (Value.slice none 0 0)).toArray 22), 9, (.cells (List.replicate p.jobs.length (Value.slice none 0 0)).toArray 22)⟩]) [] := FldOk.nil_
  refine wp_region_both 10 [0, 2, 3, 4, 6, 7, 8] [1, 5, 9] [⟨1, .map, (.map #[] 0), 1, (.map #[] 0)⟩, ⟨5, (.slice p.jobs.length p.jobs.length), (.cells (List.replicate p.jobs.length (Value.int .i64 0)).toArray 3), 5, (.cells (List.replicate p.jobs.length (Value.int .i64 0)).toArray 3)⟩, ⟨9, (.slice p.jobs.length p.jobs.length), (.cells (List.replicate p.jobs.length (Value.slice none 0 0)).toArray 22), 9, (.cells (List.replicate p.jobs.length (Value.slice none 0 0)).toArray 22)⟩] [] (fun f hf => by cases hf) (by kernel_rfl) (by kernel_rfl) (by kernel_rfl) (by kernel_rfl) (by kernel_rfl) (by simp) ?_
  apply Exists.intro
  refine ⟨fun W1 hc0 => ?_, ?_⟩
  · have hb := hc0.nil_
    have y_c0 := Since.cell (z_c0.out W1 hb)
    have y_c1 := Since.cell (z_c1.out W1 hb)
    have y_c2 := Since.cell (z_c2.out W1 hb)
    have y_c3 := Since.cell (z_c3.out W1 hb)
    have y_c4 := Since.cell (z_c4.out W1 hb)
    have y_c5 := Since.cell (z_c5.out W1 hb)
    replace hk := hk.below hb hk.lt
    replace hB := hB.trans (hb.mono hB.size)
    dsimp only [pick, List.filterMap, List.getElem?_cons_succ, List.getElem?_cons_zero]
    repeat (go_big_quiet_step ((fail)))
    exact wpQuiet_nil rfl
  · refine ownWalk_alloc ⟨1, .map, (.map #[] 0), 1, (.map #[] 0)⟩ hok (by kernel_rfl) rfl rfl rfl rfl (fun _ => rfl) (by simp) (by simp) (fun _ => rfl) ?_
    intro rmb
    simp only [Shape.val, List.setIfInBounds_toArray, List.set_cons_succ, List.set_cons_zero]
    refine ownWalk_alloc ⟨5, (.slice p.jobs.length p.jobs.length), (.cells (List.replicate p.jobs.length (Value.int .i64 0)).toArray 3), 5, (.cells (List.replicate p.jobs.length (Value.int .i64 0)).toArray 3)⟩ hok (by kernel_rfl) rfl rfl rfl rfl (fun w => run_exec_make rfl (MK1.out p.jobs.length (by omega) w)) (by simp) (by simp) (fun _ => rfl) ?_
    intro rob
    simp only [Shape.val, List.setIfInBounds_toArray, List.set_cons_succ, List.set_cons_zero]
    refine ownWalk_alloc ⟨9, (.slice p.jobs.length p.jobs.length), (.cells (List.replicate p.jobs.length (Value.slice none 0 0)).toArray 22), 9, (.cells (List.replicate p.jobs.length (Value.slice none 0 0)).toArray 22)⟩ hok (by kernel_rfl) rfl rfl rfl rfl (fun w => run_exec_make rfl (MK2.out p.jobs.length (by omega) w)) (by simp) (by simp) (fun _ => rfl) ?_
    intro rpb
    simp only [Shape.val, List.setIfInBounds_toArray, List.set_cons_succ, List.set_cons_zero]
    refine ownWalk_nil ?_
    intro w' hc0 hD
    have hb := hc0.nil_
    obtain ⟨rmge, rm⟩ := hD.box.get (x := ⟨1, .map, (.map #[] 0), 1, (.map #[] 0)⟩) (o := (.map #[] 0)) (by simp) rfl rfl
    obtain ⟨roge, ro⟩ := hD.box.get (x := ⟨5, (.slice p.jobs.length p.jobs.length), (.cells (List.replicate p.jobs.length (Value.int .i64 0)).toArray 3), 5, (.cells (List.replicate p.jobs.length (Value.int .i64 0)).toArray 3)⟩) (o := (.cells (List.replicate p.jobs.length (Value.int .i64 0)).toArray 3)) (by simp) rfl rfl
    replace ro : Blk _ _ _ _ := ro
    obtain ⟨rpge, rp⟩ := hD.box.get (x := ⟨9, (.slice p.jobs.length p.jobs.length), (.cells (List.replicate p.jobs.length (Value.slice none 0 0)).toArray 22), 9, (.cells (List.replicate p.jobs.length (Value.slice none 0 0)).toArray 22)⟩) (o := (.cells (List.replicate p.jobs.length (Value.slice none 0 0)).toArray 22)) (by simp) rfl rfl
    replace rp : Blk _ _ _ _ := rp
    have rm_ro := hD.box.apart (x := ⟨1, .map, (.map #[] 0), 1, (.map #[] 0)⟩) (y := ⟨5, (.slice p.jobs.length p.jobs.length), (.cells (List.replicate p.jobs.length (Value.int .i64 0)).toArray 3), 5, (.cells (List.replicate p.jobs.length (Value.int .i64 0)).toArray 3)⟩) (by simp) (by simp) (by simp) rfl rfl
    have rm_rp := hD.box.apart (x := ⟨1, .map, (.map #[] 0), 1, (.map #[] 0)⟩) (y := ⟨9, (.slice p.jobs.length p.jobs.length), (.cells (List.replicate p.jobs.length (Value.slice none 0 0)).toArray 22), 9, (.cells (List.replicate p.jobs.length (Value.slice none 0 0)).toArray 22)⟩) (by simp) (by simp) (by simp) rfl rfl
    have ro_rp := hD.box.apart (x := ⟨5, (.slice p.jobs.length p.jobs.length), (.cells (List.replicate p.jobs.length (Value.int .i64 0)).toArray 3), 5, (.cells (List.replicate p.jobs.length (Value.int .i64 0)).toArray 3)⟩) (y := ⟨9, (.slice p.jobs.length p.jobs.length), (.cells (List.replicate p.jobs.length (Value.slice none 0 0)).toArray 22), 9, (.cells (List.replicate p.jobs.length (Value.slice none 0 0)).toArray 22)⟩) (by simp) (by simp) (by simp) rfl rfl
    clear hD
    try simp only [List.drop_succ_cons, List.drop_zero]
    clear z_c0 z_c1 z_c2 z_c3 z_c4 z_c5
    have hWge := hB.size
    clear c0 c1 c2 c3 c4 c5
    replace hk := hk.below hb hk.lt
    replace hB := hB.trans (hb.mono hB.size)
    clear hb hok hc0
    obtain ⟨W, rfl⟩ : ∃ W : World, W = w' := ⟨_, rfl⟩
    have c0 := hk.cell_ 0 rfl
    have c1 := hk.cell_ 1 rfl
    have c2 := hk.cell_ 2 rfl
    have c3 := hk.cell_ 3 rfl
    have c4 := hk.cell_ 4 rfl
    have c5 := hk.cell_ 5 rfl
    have hm : MapOf W rmb [] := ⟨#[], 0, rm, MapKept.stamped_empty 0, by simp, rfl⟩
    rw [ints_zero] at ro
    obtain ⟨zs, hzs⟩ : ∃ zs : List (List Int), zs = p.jobs.map fun l => List.replicate l.length 0 := ⟨_, rfl⟩
    have hzl : zs.length = p.jobs.length := by rw [hzs, List.length_map]
    have hp : Blk W rpb 22 (rowsK [] zs) := by rw [rowsK_nil, hzl]; exact rp
    have HZ := hide (And.intro hzs hzl)
    clear rm rp hzs hzl
    have lm := hm.lt
    have lo := ro.lt
    have lp := hp.lt
    have lk := hk.lt
    have q_c0 := (hk.alloc (.cells #[.int .i64 p.op, .int .i64 p.cl, .slice aH p.hol.length cH, .int .i64 p.mach, .slice aS p.setup.length cS, .slice aJ p.jobs.length cJ, .map (some rmb), .slice (some ⟨rob, 0, none⟩) p.jobs.length p.jobs.length, .slice (some ⟨rpb, 0, none⟩) p.jobs.length p.jobs.length] 83)).cell_ 0 rfl
    have q_c1 := (hk.alloc (.cells #[.int .i64 p.op, .int .i64 p.cl, .slice aH p.hol.length cH, .int .i64 p.mach, .slice aS p.setup.length cS, .slice aJ p.jobs.length cJ, .map (some rmb), .slice (some ⟨rob, 0, none⟩) p.jobs.length p.jobs.length, .slice (some ⟨rpb, 0, none⟩) p.jobs.length p.jobs.length] 83)).cell_ 1 rfl
    have q_c2 := (hk.alloc (.cells #[.int .i64 p.op, .int .i64 p.cl, .slice aH p.hol.length cH, .int .i64 p.mach, .slice aS p.setup.length cS, .slice aJ p.jobs.length cJ, .map (some rmb), .slice (some ⟨rob, 0, none⟩) p.jobs.length p.jobs.length, .slice (some ⟨rpb, 0, none⟩) p.jobs.length p.jobs.length] 83)).cell_ 2 rfl
    have q_c3 := (hk.alloc (.cells #[.int .i64 p.op, .int .i64 p.cl, .slice aH p.hol.length cH, .int .i64 p.mach, .slice aS p.setup.length cS, .slice aJ p.jobs.length cJ, .map (some rmb), .slice (some ⟨rob, 0, none⟩) p.jobs.length p.jobs.length, .slice (some ⟨rpb, 0, none⟩) p.jobs.length p.jobs.length] 83)).cell_ 3 rfl
    have q_c4 := (hk.alloc (.cells #[.int .i64 p.op, .int .i64 p.cl, .slice aH p.hol.length cH, .int .i64 p.mach, .slice aS p.setup.length cS, .slice aJ p.jobs.length cJ, .map (some rmb), .slice (some ⟨rob, 0, none⟩) p.jobs.length p.jobs.length, .slice (some ⟨rpb, 0, none⟩) p.jobs.length p.jobs.length] 83)).cell_ 4 rfl
    have q_c5 := (hk.alloc (.cells #[.int .i64 p.op, .int .i64 p.cl, .slice aH p.hol.length cH, .int .i64 p.mach, .slice aS p.setup.length cS, .slice aJ p.jobs.length cJ, .map (some rmb), .slice (some ⟨rob, 0, none⟩) p.jobs.length p.jobs.length, .slice (some ⟨rpb, 0, none⟩) p.jobs.length p.jobs.length] 83)).cell_ 5 rfl
    go_wp2_with fail
    clear q_c0 q_c1 q_c2 q_c3 q_c4 q_c5
    clear c0 c1 c2 c3 c4 c5
    have hg := Blk.new W 83 #[.int .i64 p.op, .int .i64 p.cl, .slice aH p.hol.length cH, .int .i64 p.mach, .slice aS p.setup.length cS, .slice aJ p.jobs.length cJ, .map (some rmb), .slice (some ⟨rob, 0, none⟩) p.jobs.length p.jobs.length, .slice (some ⟨rpb, 0, none⟩) p.jobs.length p.jobs.length]
    replace hk := hk.alloc (.cells #[.int .i64 p.op, .int .i64 p.cl, .slice aH p.hol.length cH, .int .i64 p.mach, .slice aS p.setup.length cS, .slice aJ p.jobs.length cJ, .map (some rmb), .slice (some ⟨rob, 0, none⟩) p.jobs.length p.jobs.length, .slice (some ⟨rpb, 0, none⟩) p.jobs.length p.jobs.length] 83)
    replace hm := hm.alloc (.cells #[.int .i64 p.op, .int .i64 p.cl, .slice aH p.hol.length cH, .int .i64 p.mach, .slice aS p.setup.length cS, .slice aJ p.jobs.length cJ, .map (some rmb), .slice (some ⟨rob, 0, none⟩) p.jobs.length p.jobs.length, .slice (some ⟨rpb, 0, none⟩) p.jobs.length p.jobs.length] 83)
    replace ro := ro.alloc (.cells #[.int .i64 p.op, .int .i64 p.cl, .slice aH p.hol.length cH, .int .i64 p.mach, .slice aS p.setup.length cS, .slice aJ p.jobs.length cJ, .map (some rmb), .slice (some ⟨rob, 0, none⟩) p.jobs.length p.jobs.length, .slice (some ⟨rpb, 0, none⟩) p.jobs.length p.jobs.length] 83)
    replace hp := hp.alloc (.cells #[.int .i64 p.op, .int .i64 p.cl, .slice aH p.hol.length cH, .int .i64 p.mach, .slice aS p.setup.length cS, .slice aJ p.jobs.length cJ, .map (some rmb), .slice (some ⟨rob, 0, none⟩) p.jobs.length p.jobs.length, .slice (some ⟨rpb, 0, none⟩) p.jobs.length p.jobs.length] 83)
    have hsz_gb : (W.alloc (.cells #[.int .i64 p.op, .int .i64 p.cl, .slice aH p.hol.length cH, .int .i64 p.mach, .slice aS p.setup.length cS, .slice aJ p.jobs.length cJ, .map (some rmb), .slice (some ⟨rob, 0, none⟩) p.jobs.length p.jobs.length, .slice (some ⟨rpb, 0, none⟩) p.jobs.length p.jobs.length] 83)).heap.size = W.heap.size + 1 := by simp
    have gbge := hB.size
    replace hB := hB.alloc hB.size (.cells #[.int .i64 p.op, .int .i64 p.cl, .slice aH p.hol.length cH, .int .i64 p.mach, .slice aS p.setup.length cS, .slice aJ p.jobs.length cJ, .map (some rmb), .slice (some ⟨rob, 0, none⟩) p.jobs.length p.jobs.length, .slice (some ⟨rpb, 0, none⟩) p.jobs.length p.jobs.length] 83)
    generalize hgb : W.heap.size = gb at *
    generalize W.alloc (.cells #[.int .i64 p.op, .int .i64 p.cl, .slice aH p.hol.length cH, .int .i64 p.mach, .slice aS p.setup.length cS, .slice aJ p.jobs.length cJ, .map (some rmb), .slice (some ⟨rob, 0, none⟩) p.jobs.length p.jobs.length, .slice (some ⟨rpb, 0, none⟩) p.jobs.length p.jobs.length] 83) = W at *
    clear hgb
    have c0 := hk.cell_ 0 rfl
    have c1 := hk.cell_ 1 rfl
    have c2 := hk.cell_ 2 rfl
    have c3 := hk.cell_ 3 rfl
    have c4 := hk.cell_ 4 rfl
    have c5 := hk.cell_ 5 rfl
    have g0 := hg.cell_ 0 rfl
    have g1 := hg.cell_ 1 rfl
    have g2 := hg.cell_ 2 rfl
    have g3 := hg.cell_ 3 rfl
    have g4 := hg.cell_ 4 rfl
    have g5 := hg.cell_ 5 rfl
    have g6 := hg.cell_ 6 rfl
    have g7 := hg.cell_ 7 rfl
    have g8 := hg.cell_ 8 rfl
    have hAp : Apart w.heap.size gb rmb rob rpb [] := ⟨by simp; omega, fun b hb => by cases hb⟩
    have hr0 : RowsOk W [] zs := fun i b l h1 _ => by simp at h1
    clear c0 c1 c2 c3 c4 c5 g0 g1 g2 g3 g4 g5 g6 g7 g8
    go_loopw [21] (fun x W => ∃ (k : Nat) (brs : List Nat), x = .int .i64 k ∧ k ≤ p.jobs.length ∧ Hid (brs.length = k) ∧ Blk W rpb 22 (rowsK brs zs) ∧ RowsOk W brs zs ∧ Apart w.heap.size gb rmb rob rpb brs ∧ Blk W w.heap.size 25 #[.int .i64 p.op, .int .i64 p.cl, .slice aH p.hol.length cH, .int .i64 p.mach, .slice aS p.setup.length cS, .slice aJ p.jobs.length cJ] ∧ MapOf W rmb [] ∧ Blk W rob 3 (ints (List.replicate p.jobs.length 0)) ∧ Blk W gb 83 #[.int .i64 p.op, .int .i64 p.cl, .slice aH p.hol.length cH, .int .i64 p.mach, .slice aS p.setup.length cS, .slice aJ p.jobs.length cJ, .map (some rmb), .slice (some ⟨rob, 0, none⟩) p.jobs.length p.jobs.length, .slice (some ⟨rpb, 0, none⟩) p.jobs.length p.jobs.length] ∧ Below w.heap.size w W) (fun x _ => p.jobs.length - (intOf x).toNat)
    case atStart => exact ⟨0, [], rfl, Nat.zero_le _, hide rfl, hp, hr0, hAp, hk, hm, ro, hg, hB⟩
    case round =>
      clear hk hm ro hg hB hp hr0 hAp
      obtain ⟨W, rfl⟩ : ∃ W : World, W = wr := ⟨_, rfl⟩
      obtain ⟨k, brs, rfl, hkn, HBL, hp, hr, hAp, hk, hm, ro, hg, hB⟩ := hrel
      by_cases hlt : k < p.jobs.length
      · obtain ⟨st, hst⟩ : ∃ st, p.jobs[k]? = some st := ⟨_, List.getElem?_eq_getElem hlt⟩
        have hsl := (hv.steps k st hst).1
        obtain ⟨b, off, A', c', hA, hb0, hc, hSl⟩ := job_at (hS.on hB).jobs hst
        dsimp only at hA
        subst hA
        have HST := hide hst
        have hki : (k : Int) < (p.jobs.length : Int) := by omega
        have LB := hide (hr.lt (by have := HBL.out; have := HZ.out.2; omega))
        clear hst
        have c0 := hk.cell_ 0 rfl
        have c1 := hk.cell_ 1 rfl
        have c2 := hk.cell_ 2 rfl
        have c3 := hk.cell_ 3 rfl
        have c4 := hk.cell_ 4 rfl
        have c5 := hk.cell_ 5 rfl
        have g0 := hg.cell_ 0 rfl
        have g1 := hg.cell_ 1 rfl
        have g2 := hg.cell_ 2 rfl
        have g3 := hg.cell_ 3 rfl
        have g4 := hg.cell_ 4 rfl
        have g5 := hg.cell_ 5 rfl
        have g6 := hg.cell_ 6 rfl
        have g7 := hg.cell_ 7 rfl
        have g8 := hg.cell_ 8 rfl
        have q_c0 := (hk.alloc (.cells #[.slice A' st.length c'] 67)).cell_ 0 rfl
        have q_c1 := (hk.alloc (.cells #[.slice A' st.length c'] 67)).cell_ 1 rfl
        have q_c2 := (hk.alloc (.cells #[.slice A' st.length c'] 67)).cell_ 2 rfl
        have q_c3 := (hk.alloc (.cells #[.slice A' st.length c'] 67)).cell_ 3 rfl
        have q_c4 := (hk.alloc (.cells #[.slice A' st.length c'] 67)).cell_ 4 rfl
        have q_c5 := (hk.alloc (.cells #[.slice A' st.length c'] 67)).cell_ 5 rfl
        have q_g0 := (hg.alloc (.cells #[.slice A' st.length c'] 67)).cell_ 0 rfl
        have q_g1 := (hg.alloc (.cells #[.slice A' st.length c'] 67)).cell_ 1 rfl
        have q_g2 := (hg.alloc (.cells #[.slice A' st.length c'] 67)).cell_ 2 rfl
        have q_g3 := (hg.alloc (.cells #[.slice A' st.length c'] 67)).cell_ 3 rfl
        have q_g4 := (hg.alloc (.cells #[.slice A' st.length c'] 67)).cell_ 4 rfl
        have q_g5 := (hg.alloc (.cells #[.slice A' st.length c'] 67)).cell_ 5 rfl
        have q_g6 := (hg.alloc (.cells #[.slice A' st.length c'] 67)).cell_ 6 rfl
        have q_g7 := (hg.alloc (.cells #[.slice A' st.length c'] 67)).cell_ 7 rfl
        have q_g8 := (hg.alloc (.cells #[.slice A' st.length c'] 67)).cell_ 8 rfl
        go_wp2_with fail
        clear q_c0 q_c1 q_c2 q_c3 q_c4 q_c5 q_g0 q_g1 q_g2 q_g3 q_g4 q_g5 q_g6 q_g7 q_g8
        clear c0 c1 c2 c3 c4 c5 g0 g1 g2 g3 g4 g5 g6 g7 g8
        have hx := Blk.new W 67 #[.slice A' st.length c']
        replace hk := hk.alloc (.cells #[.slice A' st.length c'] 67)
        replace hm := hm.alloc (.cells #[.slice A' st.length c'] 67)
        replace ro := ro.alloc (.cells #[.slice A' st.length c'] 67)
        replace hp := hp.alloc (.cells #[.slice A' st.length c'] 67)
        replace hg := hg.alloc (.cells #[.slice A' st.length c'] 67)
        replace hr := hr.below ((Below.refl _ W).alloc (Nat.le_refl _) (.cells #[.slice A' st.length c'] 67))
        have hsz_xb : (W.alloc (.cells #[.slice A' st.length c'] 67)).heap.size = W.heap.size + 1 := by simp
        have xbge := hB.size
        replace hB := hB.alloc hB.size (.cells #[.slice A' st.length c'] 67)
        generalize hxb : W.heap.size = xb at *
        generalize W.alloc (.cells #[.slice A' st.length c'] 67) = W at *
        clear hxb
        have c0 := hk.cell_ 0 rfl
        have c1 := hk.cell_ 1 rfl
        have c2 := hk.cell_ 2 rfl
        have c3 := hk.cell_ 3 rfl
        have c4 := hk.cell_ 4 rfl
        have c5 := hk.cell_ 5 rfl
        have g0 := hg.cell_ 0 rfl
        have g1 := hg.cell_ 1 rfl
        have g2 := hg.cell_ 2 rfl
        have g3 := hg.cell_ 3 rfl
        have g4 := hg.cell_ 4 rfl
        have g5 := hg.cell_ 5 rfl
        have g6 := hg.cell_ 6 rfl
        have g7 := hg.cell_ 7 rfl
        have g8 := hg.cell_ 8 rfl
        have x0 := hx.cell_ 0 rfl
        clear hc
        have lx := hx.lt
        have lg := hg.lt
        have lm := hm.lt
        have lo := ro.lt
        have lp := hp.lt
        have lk := hk.lt
        go_wp2_with fail
        have z_c0 := hide (fun w' (hb : Below W.heap.size W w') => Since.later hb c0)
        have z_c1 := hide (fun w' (hb : Below W.heap.size W w') => Since.later hb c1)
        have z_c2 := hide (fun w' (hb : Below W.heap.size W w') => Since.later hb c2)
        have z_c3 := hide (fun w' (hb : Below W.heap.size W w') => Since.later hb c3)
        have z_c4 := hide (fun w' (hb : Below W.heap.size W w') => Since.later hb c4)
        have z_c5 := hide (fun w' (hb : Below W.heap.size W w') => Since.later hb c5)
        have z_g0 := hide (fun w' (hb : Below W.heap.size W w') => Since.later hb g0)
        have z_g1 := hide (fun w' (hb : Below W.heap.size W w') => Since.later hb g1)
        have z_g2 := hide (fun w' (hb : Below W.heap.size W w') => Since.later hb g2)
        have z_g3 := hide (fun w' (hb : Below W.heap.size W w') => Since.later hb g3)
        have z_g4 := hide (fun w' (hb : Below W.heap.size W w') => Since.later hb g4)
        have z_g5 := hide (fun w' (hb : Below W.heap.size W w') => Since.later hb g5)
        have z_g6 := hide (fun w' (hb : Below W.heap.size W w') => Since.later hb g6)
        have z_g7 := hide (fun w' (hb : Below W.heap.size W w') => Since.later hb g7)
        have z_g8 := hide (fun w' (hb : Below W.heap.size W w') => Since.later hb g8)
        have z_x0 := hide (fun w' (hb : Below W.heap.size W w') => Since.later hb x0)
        have hok : FldOk W ([⟨8, (.slice st.length st.length), (.cells (List.replicate st.length (Value.int .i64 0)).toArray 3), 8, (.cells (List.replicate st.length (Value.int .i64 0)).toArray 3)⟩]) [] := FldOk.nil_
        refine wp_region_both 9 [0, 1, 2, 3, 4, 5, 6, 7] [8] [⟨8, (.slice st.length st.length), (.cells (List.replicate st.length (Value.int .i64 0)).toArray 3), 8, (.cells (List.replicate st.length (Value.int .i64 0)).toArray 3)⟩] [] (fun f hf => by cases hf) (by kernel_rfl) (by kernel_rfl) (by kernel_rfl) (by kernel_rfl) (by kernel_rfl) (by simp) ?_
        apply Exists.intro
        refine ⟨fun W1 hc0 => ?_, ?_⟩
        · have hb := hc0.nil_
          have y_c0 := Since.cell (z_c0.out W1 hb)
          have y_c1 := Since.cell (z_c1.out W1 hb)
          have y_c2 := Since.cell (z_c2.out W1 hb)
          have y_c3 := Since.cell (z_c3.out W1 hb)
          have y_c4 := Since.cell (z_c4.out W1 hb)
          have y_c5 := Since.cell (z_c5.out W1 hb)
          have y_g0 := Since.cell (z_g0.out W1 hb)
          have y_g1 := Since.cell (z_g1.out W1 hb)
          have y_g2 := Since.cell (z_g2.out W1 hb)
          have y_g3 := Since.cell (z_g3.out W1 hb)
          have y_g4 := Since.cell (z_g4.out W1 hb)
          have y_g5 := Since.cell (z_g5.out W1 hb)
          have y_g6 := Since.cell (z_g6.out W1 hb)
          have y_g7 := Since.cell (z_g7.out W1 hb)
          have y_g8 := Since.cell (z_g8.out W1 hb)
          have y_x0 := Since.cell (z_x0.out W1 hb)
          replace hk := hk.below hb hk.lt
          replace hm := hm.below hb hm.lt
          replace ro := ro.below hb ro.lt
          replace hp := hp.below hb hp.lt
          replace hg := hg.below hb hg.lt
          replace hr := hr.below hb
          replace hx := hx.below hb hx.lt
          replace hB := hB.trans (hb.mono hB.size)
          dsimp only [pick, List.filterMap, List.getElem?_cons_succ, List.getElem?_cons_zero]
          repeat (go_big_quiet_step ((fail)))
          exact wpQuiet_nil rfl
        · refine ownWalk_alloc ⟨8, (.slice st.length st.length), (.cells (List.replicate st.length (Value.int .i64 0)).toArray 3), 8, (.cells (List.replicate st.length (Value.int .i64 0)).toArray 3)⟩ hok (by kernel_rfl) rfl rfl rfl rfl (fun w => run_exec_make rfl (MK1.out st.length (by omega) w)) (by simp) (by simp) (fun _ => rfl) ?_
          intro rnb
          simp only [Shape.val, List.setIfInBounds_toArray, List.set_cons_succ, List.set_cons_zero]
          refine ownWalk_nil ?_
          intro w' hc0 hD
          have hb := hc0.nil_
          obtain ⟨rnge, rn⟩ := hD.box.get (x := ⟨8, (.slice st.length st.length), (.cells (List.replicate st.length (Value.int .i64 0)).toArray 3), 8, (.cells (List.replicate st.length (Value.int .i64 0)).toArray 3)⟩) (o := (.cells (List.replicate st.length (Value.int .i64 0)).toArray 3)) (by simp) rfl rfl
          replace rn : Blk _ _ _ _ := rn
          clear hD
          try simp only [List.drop_succ_cons, List.drop_zero]
          clear z_c0 z_c1 z_c2 z_c3 z_c4 z_c5 z_g0 z_g1 z_g2 z_g3 z_g4 z_g5 z_g6 z_g7 z_g8 z_x0
          have hWge := hB.size
          clear c0 c1 c2 c3 c4 c5 g0 g1 g2 g3 g4 g5 g6 g7 g8 x0
          replace hk := hk.below hb hk.lt
          replace hm := hm.below hb hm.lt
          replace ro := ro.below hb ro.lt
          replace hp := hp.below hb hp.lt
          replace hg := hg.below hb hg.lt
          replace hr := hr.below hb
          replace hx := hx.below hb hx.lt
          replace hB := hB.trans (hb.mono hB.size)
          clear hb hok hc0
          obtain ⟨W, rfl⟩ : ∃ W : World, W = w' := ⟨_, rfl⟩
          have c0 := hk.cell_ 0 rfl
          have c1 := hk.cell_ 1 rfl
          have c2 := hk.cell_ 2 rfl
          have c3 := hk.cell_ 3 rfl
          have c4 := hk.cell_ 4 rfl
          have c5 := hk.cell_ 5 rfl
          have g0 := hg.cell_ 0 rfl
          have g1 := hg.cell_ 1 rfl
          have g2 := hg.cell_ 2 rfl
          have g3 := hg.cell_ 3 rfl
          have g4 := hg.cell_ 4 rfl
          have g5 := hg.cell_ 5 rfl
          have g6 := hg.cell_ 6 rfl
          have g7 := hg.cell_ 7 rfl
          have g8 := hg.cell_ 8 rfl
          have x0 := hx.cell_ 0 rfl
          have hz2 : k < (rowsK brs zs).size := by rw [rowsK_size]; have := HZ.out.2; omega
          have HZ2 := hide hz2
          clear hz2
          go_wp2_with (refine wpList_store_at rfl 22 _ _ rfl (.slice (some ⟨rnb, 0, none⟩) st.length st.length) hp rfl rfl (by kernel_rfl) rfl HZ2.out rfl ?_; intro W2 hp2 hc2)
          have hz : zs[brs.length]? = some (List.replicate st.length 0) := by rw [HBL.out, HZ.out.1, List.getElem?_map, HST.out]; rfl
          have hrv : Value.slice (some ⟨rnb, 0, none⟩) st.length st.length = rowV rnb (List.replicate st.length 0) := by simp [rowV]
          rw [hrv, ← HBL.out, rowsK_set hz] at hp2
          rw [ints_zero] at rn
          have nb : ∀ q ∈ brs, q < xb := LB.out
          have q1 : rnb ≠ rpb := by omega
          have q2 : w.heap.size ≠ rpb := by have := hAp.1; omega
          have q3 : ∀ q ∈ brs, q ≠ rpb := fun q hq he => by have := hAp.1; simp only [List.nodup_cons, List.mem_cons, not_or] at this; exact this.2.2.2.1 (he ▸ hq)
          have q4 : gb ≠ rpb ∧ rmb ≠ rpb ∧ rob ≠ rpb := by have := hAp.1; simp only [List.nodup_cons, List.mem_cons, not_or] at this; exact ⟨this.1.2.2.1, this.2.1.2.1, this.2.2.1.1⟩
          replace hr := (hr.chg1 hc2 q3).snoc hz (rn.chg1 hc2 q1)
          replace hm := hm.same (hc2.block _ hm.lt q4.2.1)
          replace ro := ro.chg1 hc2 q4.2.2
          replace hg := hg.chg1 hc2 q4.1
          replace hk := hk.chg1 hc2 q2
          replace hB := hB.trans (hc2.below1 hB.size (by omega))
          have hAp2 : Apart w.heap.size gb rmb rob rpb (brs ++ [rnb]) := hAp.snoc ⟨by omega, by omega, by omega, by omega⟩ (fun hq => by have := nb _ hq; omega) (by omega)
          have HBL2 : Hid ((brs ++ [rnb]).length = k + 1) := by show _ = _; rw [List.length_append, HBL.out]; rfl
          clear hz hrv nb q1 q2 q3 q4 hp hAp HBL hx rn hc2
          go_roundw
          case rel => exact ⟨k + 1, brs ++ [rnb], by go_num, by omega, HBL2, hp2, hr, hAp2, hk, hm, ro, hg, hB⟩
          case measure => simp [intOf]; omega
      · obtain rfl : k = p.jobs.length := by omega
        have c0 := hk.cell_ 0 rfl
        have c1 := hk.cell_ 1 rfl
        have c2 := hk.cell_ 2 rfl
        have c3 := hk.cell_ 3 rfl
        have c4 := hk.cell_ 4 rfl
        have c5 := hk.cell_ 5 rfl
        have g0 := hg.cell_ 0 rfl
        have g1 := hg.cell_ 1 rfl
        have g2 := hg.cell_ 2 rfl
        have g3 := hg.cell_ 3 rfl
        have g4 := hg.cell_ 4 rfl
        have g5 := hg.cell_ 5 rfl
        have g6 := hg.cell_ 6 rfl
        have g7 := hg.cell_ 7 rfl
        have g8 := hg.cell_ 8 rfl
        go_wp2_with fail
        go_ret
        have hD : DeskAt w.heap.size W gb rmb rob rpb brs ⟨p, aH, cH, aS, cS, aJ, cJ⟩ (desk0 p) := by
          obtain ⟨h1, h2⟩ := HZ.out
          have h3 := HBL.out
          refine ⟨by simpa [desk0] using hg, hm, ro, ?_, by simp [desk0, h3], fun i b l g1 g2 => hr i b l g1 (by rw [h1]; exact g2), hAp.1, fun q hq => ?_⟩
          · show Blk W rpb _ (rowsV brs (p.jobs.map fun l => List.replicate l.length 0))
            rw [← h1, ← rowsK_all (by omega)]; exact hp
          · simp only [List.mem_cons] at hq
            rcases hq with rfl | rfl | rfl | rfl | hq
            · omega
            · omega
            · omega
            · omega
            · exact Nat.le_of_lt (hAp.2 q hq)
        exact ⟨gb, rmb, rob, rpb, brs, rfl, hB, hD⟩
end Go.Proofs.Ytcpnfcnobnjhdaa
