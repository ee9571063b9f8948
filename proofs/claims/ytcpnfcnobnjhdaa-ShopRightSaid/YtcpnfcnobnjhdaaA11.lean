/- Parts of the proofs of this seat: DeskNew, Dispatch, Pull, RefPullP. Each part says what it proves; no condition beyond those stated there. -/
import Derived.Deep.LoopGhost
import Derived.Deep.DeepCutAuto
import Derived.Test.YtcpnfcnobnjhdaaA10

/- The desk of package shop: a new one. -/
namespace Go.Proofs.Ytcpnfcnobnjhdaa
open Go.RowKit
def desk0 (p : Shop) : Desk := ⟨[], List.replicate p.jobs.length 0, p.jobs.map fun l => List.replicate l.length 0⟩
def NewDesk (s : Sh) (w : World) (e : Ending) (w' : World) : Prop := ∃ g mb bo bp brs, e = .returned (.pointer (some ⟨g, 0, none⟩)) ∧ Below w.heap.size w w' ∧ DeskAt w.heap.size w' g mb bo bp brs s (desk0 s.p)
/-- the rows that have been made so far -/
def rowK (brs : List Nat) (zs : List (List Int)) (i : Nat) : Value := match brs[i]?, zs[i]? with
  | some b, some l => rowV b l
  | _, _ => .slice none 0 0
def rowsK (brs : List Nat) (zs : List (List Int)) : Array Value := ((List.range zs.length).map (rowK brs zs)).toArray
theorem rowsK_size (brs : List Nat) (zs : List (List Int)) : (rowsK brs zs).size = zs.length := by simp [rowsK]
theorem rowsK_nil (zs : List (List Int)) : rowsK [] zs = (List.replicate zs.length (.slice none 0 0)).toArray := by
  unfold rowsK
  congr 1
  apply List.ext_getElem?
  intro i
  rw [List.getElem?_map]
  by_cases h : i < zs.length <;> simp [h, rowK]
theorem rowsK_set {brs : List Nat} {zs : List (List Int)} {b : Nat} {l : List Int} (hl : zs[brs.length]? = some l) : (rowsK brs zs).setIfInBounds brs.length (rowV b l) = rowsK (brs ++ [b]) zs := by
  have hlt := (List.getElem?_eq_some_iff.1 hl).1
  unfold rowsK
  rw [List.setIfInBounds_toArray]
  congr 1
  apply List.ext_getElem?
  intro i
  rw [List.getElem?_set, List.getElem?_map, List.getElem?_map]
  by_cases hi : brs.length = i
  · subst hi
    have hz := (List.getElem?_eq_some_iff.1 hl).2
    simp [hlt, rowK, hz]
  · rw [if_neg hi]
    by_cases h : i < zs.length
    · simp only [List.getElem?_range h, Option.map_some]
      congr 1
      unfold rowK
      by_cases h2 : i < brs.length
      · rw [List.getElem?_append_left h2]
      · rw [List.getElem?_append_right (by omega), show brs[i]? = none from List.getElem?_eq_none (by omega), show [b][i - brs.length]? = none from List.getElem?_eq_none (by simp only [List.length_cons, List.length_nil]; omega)]
    · simp [h]
theorem rowsK_all {brs : List Nat} {zs : List (List Int)} (h : brs.length = zs.length) : rowsK brs zs = rowsV brs zs := by
  unfold rowsK rowsV
  congr 1
  apply List.ext_getElem?
  intro i
  rw [List.getElem?_map, List.getElem?_zipWith]
  by_cases hi : i < zs.length
  · have h1 : brs[i]? = some (brs[i]'(by omega)) := List.getElem?_eq_getElem _
    have h2 : zs[i]? = some zs[i] := List.getElem?_eq_getElem hi
    simp [List.getElem?_range hi, rowK, h1, h2]
  · simp [hi]
theorem ints_zero (n : Nat) : (List.replicate n (Value.int .i64 0)).toArray = ints (List.replicate n 0) := by simp [ints, intV]
def RowsOk (w : World) (brs : List Nat) (zs : List (List Int)) : Prop := ∀ (i b : Nat) l, brs[i]? = some b → zs[i]? = some l → Blk w b 3 (ints l)
theorem RowsOk.below {w w' : World} {brs : List Nat} {zs : List (List Int)} (h : RowsOk w brs zs) (hb : Below w.heap.size w w') : RowsOk w' brs zs := fun i b l h1 h2 => (h i b l h1 h2).below hb (h i b l h1 h2).lt
theorem RowsOk.chg1 {w w' : World} {brs : List Nat} {zs : List (List Int)} {g : Nat} (h : RowsOk w brs zs) (hc : Chg (fun k => k = g) w w') (hn : ∀ b ∈ brs, b ≠ g) : RowsOk w' brs zs := fun i b l h1 h2 => (h i b l h1 h2).chg1 hc (hn b (List.mem_of_getElem? h1))
theorem RowsOk.snoc {w : World} {brs : List Nat} {zs : List (List Int)} {b : Nat} {l : List Int} (h : RowsOk w brs zs) (hl : zs[brs.length]? = some l) (hb : Blk w b 3 (ints l)) : RowsOk w (brs ++ [b]) zs := fun i b' l' h1 h2 => by
  by_cases hi : i < brs.length
  · rw [List.getElem?_append_left hi] at h1; exact h i b' l' h1 h2
  · have hlt := (List.getElem?_eq_some_iff.1 h1).1
    simp at hlt
    obtain rfl : i = brs.length := by omega
    simp at h1
    subst h1
    rw [hl] at h2
    injection h2 with h2
    subst h2
    exact hb
theorem RowsOk.lt {w : World} {brs : List Nat} {zs : List (List Int)} (h : RowsOk w brs zs) (hl : brs.length ≤ zs.length) : ∀ b ∈ brs, b < w.heap.size := fun b hb => by
  obtain ⟨i, hi⟩ := List.getElem?_of_mem hb
  have := (List.getElem?_eq_some_iff.1 hi).1
  exact (h i b _ hi (List.getElem?_eq_getElem (by omega))).lt
def Apart (B gb rmb rob rpb : Nat) (brs : List Nat) : Prop := (gb :: rmb :: rob :: rpb :: brs).Nodup ∧ ∀ b ∈ brs, B < b
theorem Apart.snoc {B gb rmb rob rpb b : Nat} {brs : List Nat} (h : Apart B gb rmb rob rpb brs) (h1 : b ≠ gb ∧ b ≠ rmb ∧ b ≠ rob ∧ b ≠ rpb) (h2 : b ∉ brs) (h3 : B < b) : Apart B gb rmb rob rpb (brs ++ [b]) := by
  obtain ⟨hn, hb⟩ := h
  refine ⟨?_, fun x hx => ?_⟩
  · have : gb :: rmb :: rob :: rpb :: (brs ++ [b]) = (gb :: rmb :: rob :: rpb :: brs) ++ [b] := rfl
    rw [this, List.nodup_append]
    refine ⟨hn, by simp, fun x hx y hy => ?_⟩
    simp at hy
    subst hy
    simp only [List.mem_cons] at hx
    rintro rfl
    rcases hx with hx | hx | hx | hx | hx
    · exact h1.1 hx
    · exact h1.2.1 hx
    · exact h1.2.2.1 hx
    · exact h1.2.2.2 hx
    · exact h2 hx
  · rcases List.mem_append.1 hx with hx | hx
    · exact hb x hx
    · simp at hx; subst hx; exact h3
set_option maxRecDepth 100000 in
set_option maxHeartbeats 2000000 in
theorem newDesk_any (s : Sh) (w : World) (hS : ShAt w w.heap.size s) (hv : VShop s.p) : Calls Try.prog 60 #[.agg #[.int .i64 s.p.op, .int .i64 s.p.cl, .slice s.aH s.p.hol.length s.cH, .int .i64 s.p.mach, .slice s.aS s.p.setup.length s.cS, .slice s.aJ s.p.jobs.length s.cJ]] w (NewDesk s w) := by
  have hjn := hv.jobn
  have MK1 := hide (run_make1 (P := Try.prog) (bytes := 8) (z := .int .i64 0) Try.underlying22 (by kernel_rfl) rfl (by omega))
  have MK2 := hide (run_make1 (P := Try.prog) (bytes := 24) (z := .slice none 0 0) Try.underlying44 (by kernel_rfl) rfl (by omega))
  obtain ⟨p, aH, cH, aS, cS, aJ, cJ⟩ := s
  dsimp only at *
  have hk := Blk.new w 25 #[.int .i64 p.op, .int .i64 p.cl, .slice aH p.hol.length cH, .int .i64 p.mach, .slice aS p.setup.length cS, .slice aJ p.jobs.length cJ]
  have hB := (Below.refl w.heap.size w).alloc (Nat.le_refl _) (.cells #[.int .i64 p.op, .int .i64 p.cl, .slice aH p.hol.length cH, .int .i64 p.mach, .slice aS p.setup.length cS, .slice aJ p.jobs.length cJ] 25)
  go_enter Try.func60, Try.ntmps60
  go_wp2_with fail
  generalize w.alloc (.cells #[.int .i64 p.op, .int .i64 p.cl, .slice aH p.hol.length cH, .int .i64 p.mach, .slice aS p.setup.length cS, .slice aJ p.jobs.length cJ] 25) = W at *
  have c0 := hk.cell_ 0 rfl
  have c1 := hk.cell_ 1 rfl
  have c2 := hk.cell_ 2 rfl
  have c3 := hk.cell_ 3 rfl
  have c4 := hk.cell_ 4 rfl
  have c5 := hk.cell_ 5 rfl
  have lk0 := hk.lt
  go_wp2_with fail
  have z_c0 := hide (fun w' (hb : Below W.heap.size W w') => Since.later hb c0)
  have z_c1 := hide (fun w' (hb : Below W.heap.size W w') => Since.later hb c1)
  have z_c2 := hide (fun w' (hb : Below W.heap.size W w') => Since.later hb c2)
  have z_c3 := hide (fun w' (hb : Below W.heap.size W w') => Since.later hb c3)
  have z_c4 := hide (fun w' (hb : Below W.heap.size W w') => Since.later hb c4)
  have z_c5 := hide (fun w' (hb : Below W.heap.size W w') => Since.later hb c5)
  have hok : FldOk W ([⟨1, .map, (.map #[] 0), 1, (.map #[] 0)⟩, ⟨5, (.slice p.jobs.length p.jobs.length), (.cells (List.replicate p.jobs.length (Value.int .i64 0)).toArray 3), 5, (.cells (List.replicate p.jobs.length (Value.int .i64 0)).toArray 3)⟩, ⟨9, (.slice p.jobs.length p.jobs.length), (.cells (List.replicate p.jobs.length (Value.slice none 0 0)).toArray 22), 9, (.cells (List.replicate p.jobs.length (Value.slice none 0 0)).toArray 22)⟩]) [] := FldOk.nil_
  refine wp_region_both 10 [0, 2, 3, 4, 6, 7, 8] [1, 5, 9] [⟨1, .map, (.map #[] 0), 1, (.map #[] 0)⟩, ⟨5, (.slice p.jobs.length p.jobs.length), (.cells (List.replicate p.jobs.length (Value.int .i64 0)).toArray 3), 5, (.cells (List.replicate p.jobs.length (Value.int .i64 0)).toArray 3)⟩, ⟨9, (.slice p.jobs.length p.jobs.length), (.cells (List.replicate p.jobs.length (Value.slice none 0 0)).toArray 22), 9, (.cells (List.replicate p.jobs.length (Value.slice none 0 0)).toArray 22)⟩] [] (fun f hf => by cases hf) (by kernel_rfl) (by kernel_rfl) (by kernel_rfl) (by kernel_rfl) (by kernel_rfl) (by simp) ?_
  apply Exists.intro
  refine ⟨fun W1 hc0 => ?_, ?_⟩
  · have hb := hc0.nil_
    have y_c0 := Since.cell (z_c0.out W1 hb)
    have y_c1 := Since.cell (z_c1.out W1 hb)
    have y_c2 := Since.cell (z_c2.out W1 hb)
    have y_c3 := Since.cell (z_c3.out W1 hb)
    have y_c4 := Since.cell (z_c4.out W1 hb)
    have y_c5 := Since.cell (z_c5.out W1 hb)
    replace hk := hk.below hb hk.lt
    replace hB := hB.trans (hb.mono hB.size)
    dsimp only [pick, List.filterMap, List.getElem?_cons_succ, List.getElem?_cons_zero]
    repeat (go_big_quiet_step ((fail)))
    exact wpQuiet_nil rfl
  · refine ownWalk_alloc ⟨1, .map, (.map #[] 0), 1, (.map #[] 0)⟩ hok (by kernel_rfl) rfl rfl rfl rfl (fun _ => rfl) (by simp) (by simp) (fun _ => rfl) ?_
    intro rmb
    simp only [Shape.val, List.setIfInBounds_toArray, List.set_cons_succ, List.set_cons_zero]
    refine ownWalk_alloc ⟨5, (.slice p.jobs.length p.jobs.length), (.cells (List.replicate p.jobs.length (Value.int .i64 0)).toArray 3), 5, (.cells (List.replicate p.jobs.length (Value.int .i64 0)).toArray 3)⟩ hok (by kernel_rfl) rfl rfl rfl rfl (fun w => run_exec_make rfl (MK1.out p.jobs.length (by omega) w)) (by simp) (by simp) (fun _ => rfl) ?_
    intro rob
    simp only [Shape.val, List.setIfInBounds_toArray, List.set_cons_succ, List.set_cons_zero]
    refine ownWalk_alloc ⟨9, (.slice p.jobs.length p.jobs.length), (.cells (List.replicate p.jobs.length (Value.slice none 0 0)).toArray 22), 9, (.cells (List.replicate p.jobs.length (Value.slice none 0 0)).toArray 22)⟩ hok (by kernel_rfl) rfl rfl rfl rfl (fun w => run_exec_make rfl (MK2.out p.jobs.length (by omega) w)) (by simp) (by simp) (fun _ => rfl) ?_
    intro rpb
    simp only [Shape.val, List.setIfInBounds_toArray, List.set_cons_succ, List.set_cons_zero]
    refine ownWalk_nil ?_
    intro w' hc0 hD
    have hb := hc0.nil_
    obtain ⟨rmge, rm⟩ := hD.box.get (x := ⟨1, .map, (.map #[] 0), 1, (.map #[] 0)⟩) (o := (.map #[] 0)) (by simp) rfl rfl
    obtain ⟨roge, ro⟩ := hD.box.get (x := ⟨5, (.slice p.jobs.length p.jobs.length), (.cells (List.replicate p.jobs.length (Value.int .i64 0)).toArray 3), 5, (.cells (List.replicate p.jobs.length (Value.int .i64 0)).toArray 3)⟩) (o := (.cells (List.replicate p.jobs.length (Value.int .i64 0)).toArray 3)) (by simp) rfl rfl
    replace ro : Blk _ _ _ _ := ro
    obtain ⟨rpge, rp⟩ := hD.box.get (x := ⟨9, (.slice p.jobs.length p.jobs.length), (.cells (List.replicate p.jobs.length (Value.slice none 0 0)).toArray 22), 9, (.cells (List.replicate p.jobs.length (Value.slice none 0 0)).toArray 22)⟩) (o := (.cells (List.replicate p.jobs.length (Value.slice none 0 0)).toArray 22)) (by simp) rfl rfl
    replace rp : Blk _ _ _ _ := rp
    have rm_ro := hD.box.apart (x := ⟨1, .map, (.map #[] 0), 1, (.map #[] 0)⟩) (y := ⟨5, (.slice p.jobs.length p.jobs.length), (.cells (List.replicate p.jobs.length (Value.int .i64 0)).toArray 3), 5, (.cells (List.replicate p.jobs.length (Value.int .i64 0)).toArray 3)⟩) (by simp) (by simp) (by simp) rfl rfl
    have rm_rp := hD.box.apart (x := ⟨1, .map, (.map #[] 0), 1, (.map #[] 0)⟩) (y := ⟨9, (.slice p.jobs.length p.jobs.length), (.cells (List.replicate p.jobs.length (Value.slice none 0 0)).toArray 22), 9, (.cells (List.replicate p.jobs.length (Value.slice none 0 0)).toArray 22)⟩) (by simp) (by simp) (by simp) rfl rfl
    have ro_rp := hD.box.apart (x := ⟨5, (.slice p.jobs.length p.jobs.length), (.cells (List.replicate p.jobs.length (Value.int .i64 0)).toArray 3), 5, (.cells (List.replicate p.jobs.length (Value.int .i64 0)).toArray 3)⟩) (y := ⟨9, (.slice p.jobs.length p.jobs.length), (.cells (List.replicate p.jobs.length (Value.slice none 0 0)).toArray 22), 9, (.cells (List.replicate p.jobs.length (Value.slice none 0 0)).toArray 22)⟩) (by simp) (by simp) (by simp) rfl rfl
    clear hD
    try simp only [List.drop_succ_cons, List.drop_zero]
    clear z_c0 z_c1 z_c2 z_c3 z_c4 z_c5
    have hWge := hB.size
    clear c0 c1 c2 c3 c4 c5
    replace hk := hk.below hb hk.lt
    replace hB := hB.trans (hb.mono hB.size)
    clear hb hok hc0
    obtain ⟨W, rfl⟩ : ∃ W : World, W = w' := ⟨_, rfl⟩
    have c0 := hk.cell_ 0 rfl
    have c1 := hk.cell_ 1 rfl
    have c2 := hk.cell_ 2 rfl
    have c3 := hk.cell_ 3 rfl
    have c4 := hk.cell_ 4 rfl
    have c5 := hk.cell_ 5 rfl
    have hm : MapOf W rmb [] := ⟨#[], 0, rm, MapKept.stamped_empty 0, by simp, rfl⟩
    rw [ints_zero] at ro
    obtain ⟨zs, hzs⟩ : ∃ zs : List (List Int), zs = p.jobs.map fun l => List.replicate l.length 0 := ⟨_, rfl⟩
    have hzl : zs.length = p.jobs.length := by rw [hzs, List.length_map]
    have hp : Blk W rpb 22 (rowsK [] zs) := by rw [rowsK_nil, hzl]; exact rp
    have HZ := hide (And.intro hzs hzl)
    clear rm rp hzs hzl
    have lm := hm.lt
    have lo := ro.lt
    have lp := hp.lt
    have lk := hk.lt
    have q_c0 := (hk.alloc (.cells #[.int .i64 p.op, .int .i64 p.cl, .slice aH p.hol.length cH, .int .i64 p.mach, .slice aS p.setup.length cS, .slice aJ p.jobs.length cJ, .map (some rmb), .slice (some ⟨rob, 0, none⟩) p.jobs.length p.jobs.length, .slice (some ⟨rpb, 0, none⟩) p.jobs.length p.jobs.length] 83)).cell_ 0 rfl
    have q_c1 := (hk.alloc (.cells #[.int .i64 p.op, .int .i64 p.cl, .slice aH p.hol.length cH, .int .i64 p.mach, .slice aS p.setup.length cS, .slice aJ p.jobs.length cJ, .map (some rmb), .slice (some ⟨rob, 0, none⟩) p.jobs.length p.jobs.length, .slice (some ⟨rpb, 0, none⟩) p.jobs.length p.jobs.length] 83)).cell_ 1 rfl
    have q_c2 := (hk.alloc (.cells #[.int .i64 p.op, .int .i64 p.cl, .slice aH p.hol.length cH, .int .i64 p.mach, .slice aS p.setup.length cS, .slice aJ p.jobs.length cJ, .map (some rmb), .slice (some ⟨rob, 0, none⟩) p.jobs.length p.jobs.length, .slice (some ⟨rpb, 0, none⟩) p.jobs.length p.jobs.length] 83)).cell_ 2 rfl
    have q_c3 := (hk.alloc (.cells #[.int .i64 p.op, .int .i64 p.cl, .slice aH p.hol.length cH, .int .i64 p.mach, .slice aS p.setup.length cS, .slice aJ p.jobs.length cJ, .map (some rmb), .slice (some ⟨rob, 0, none⟩) p.jobs.length p.jobs.length, .slice (some ⟨rpb, 0, none⟩) p.jobs.length p.jobs.length] 83)).cell_ 3 rfl
    have q_c4 := (hk.alloc (.cells #[.int .i64 p.op, .int .i64 p.cl, .slice aH p.hol.length cH, .int .i64 p.mach, .slice aS p.setup.length cS, .slice aJ p.jobs.length cJ, .map (some rmb), .slice (some ⟨rob, 0, none⟩) p.jobs.length p.jobs.length, .slice (some ⟨rpb, 0, none⟩) p.jobs.length p.jobs.length] 83)).cell_ 4 rfl
    have q_c5 := (hk.alloc (.cells #[.int .i64 p.op, .int .i64 p.cl, .slice aH p.hol.length cH, .int .i64 p.mach, .slice aS p.setup.length cS, .slice aJ p.jobs.length cJ, .map (some rmb), .slice (some ⟨rob, 0, none⟩) p.jobs.length p.jobs.length, .slice (some ⟨rpb, 0, none⟩) p.jobs.length p.jobs.length] 83)).cell_ 5 rfl
    go_wp2_with fail
    clear q_c0 q_c1 q_c2 q_c3 q_c4 q_c5
    clear c0 c1 c2 c3 c4 c5
    have hg := Blk.new W 83 #[.int .i64 p.op, .int .i64 p.cl, .slice aH p.hol.length cH, .int .i64 p.mach, .slice aS p.setup.length cS, .slice aJ p.jobs.length cJ, .map (some rmb), .slice (some ⟨rob, 0, none⟩) p.jobs.length p.jobs.length, .slice (some ⟨rpb, 0, none⟩) p.jobs.length p.jobs.length]
    replace hk := hk.alloc (.cells #[.int .i64 p.op, .int .i64 p.cl, .slice aH p.hol.length cH, .int .i64 p.mach, .slice aS p.setup.length cS, .slice aJ p.jobs.length cJ, .map (some rmb), .slice (some ⟨rob, 0, none⟩) p.jobs.length p.jobs.length, .slice (some ⟨rpb, 0, none⟩) p.jobs.length p.jobs.length] 83)
    replace hm := hm.alloc (.cells #[.int .i64 p.op, .int .i64 p.cl, .slice aH p.hol.length cH, .int .i64 p.mach, .slice aS p.setup.length cS, .slice aJ p.jobs.length cJ, .map (some rmb), .slice (some ⟨rob, 0, none⟩) p.jobs.length p.jobs.length, .slice (some ⟨rpb, 0, none⟩) p.jobs.length p.jobs.length] 83)
    replace ro := ro.alloc (.cells #[.int .i64 p.op, .int .i64 p.cl, .slice aH p.hol.length cH, .int .i64 p.mach, .slice aS p.setup.length cS, .slice aJ p.jobs.length cJ, .map (some rmb), .slice (some ⟨rob, 0, none⟩) p.jobs.length p.jobs.length, .slice (some ⟨rpb, 0, none⟩) p.jobs.length p.jobs.length] 83)
    replace hp := hp.alloc (.cells #[.int .i64 p.op, .int .i64 p.cl, .slice aH p.hol.length cH, .int .i64 p.mach, .slice aS p.setup.length cS, .slice aJ p.jobs.length cJ, .map (some rmb), .slice (some ⟨rob, 0, none⟩) p.jobs.length p.jobs.length, .slice (some ⟨rpb, 0, none⟩) p.jobs.length p.jobs.length] 83)
    have hsz_gb : (W.alloc (.cells #[.int .i64 p.op, .int .i64 p.cl, .slice aH p.hol.length cH, .int .i64 p.mach, .slice aS p.setup.length cS, .slice aJ p.jobs.length cJ, .map (some rmb), .slice (some ⟨rob, 0, none⟩) p.jobs.length p.jobs.length, .slice (some ⟨rpb, 0, none⟩) p.jobs.length p.jobs.length] 83)).heap.size = W.heap.size + 1 := by simp
    have gbge := hB.size
    replace hB := hB.alloc hB.size (.cells #[.int .i64 p.op, .int .i64 p.cl, .slice aH p.hol.length cH, .int .i64 p.mach, .slice aS p.setup.length cS, .slice aJ p.jobs.length cJ, .map (some rmb), .slice (some ⟨rob, 0, none⟩) p.jobs.length p.jobs.length, .slice (some ⟨rpb, 0, none⟩) p.jobs.length p.jobs.length] 83)
    generalize hgb : W.heap.size = gb at *
    generalize W.alloc (.cells #[.int .i64 p.op, .int .i64 p.cl, .slice aH p.hol.length cH, .int .i64 p.mach, .slice aS p.setup.length cS, .slice aJ p.jobs.length cJ, .map (some rmb), .slice (some ⟨rob, 0, none⟩) p.jobs.length p.jobs.length, .slice (some ⟨rpb, 0, none⟩) p.jobs.length p.jobs.length] 83) = W at *
    clear hgb
    have c0 := hk.cell_ 0 rfl
    have c1 := hk.cell_ 1 rfl
    have c2 := hk.cell_ 2 rfl
    have c3 := hk.cell_ 3 rfl
    have c4 := hk.cell_ 4 rfl
    have c5 := hk.cell_ 5 rfl
    have g0 := hg.cell_ 0 rfl
    have g1 := hg.cell_ 1 rfl
    have g2 := hg.cell_ 2 rfl
    have g3 := hg.cell_ 3 rfl
    have g4 := hg.cell_ 4 rfl
    have g5 := hg.cell_ 5 rfl
    have g6 := hg.cell_ 6 rfl
    have g7 := hg.cell_ 7 rfl
    have g8 := hg.cell_ 8 rfl
    have hAp : Apart w.heap.size gb rmb rob rpb [] := ⟨by simp; omega, fun b hb => by cases hb⟩
    have hr0 : RowsOk W [] zs := fun i b l h1 _ => by simp at h1
    clear c0 c1 c2 c3 c4 c5 g0 g1 g2 g3 g4 g5 g6 g7 g8
    go_loopw [21] (fun x W => ∃ (k : Nat) (brs : List Nat), x = .int .i64 k ∧ k ≤ p.jobs.length ∧ Hid (brs.length = k) ∧ Blk W rpb 22 (rowsK brs zs) ∧ RowsOk W brs zs ∧ Apart w.heap.size gb rmb rob rpb brs ∧ Blk W w.heap.size 25 #[.int .i64 p.op, .int .i64 p.cl, .slice aH p.hol.length cH, .int .i64 p.mach, .slice aS p.setup.length cS, .slice aJ p.jobs.length cJ] ∧ MapOf W rmb [] ∧ Blk W rob 3 (ints (List.replicate p.jobs.length 0)) ∧ Blk W gb 83 #[.int .i64 p.op, .int .i64 p.cl, .slice aH p.hol.length cH, .int .i64 p.mach, .slice aS p.setup.length cS, .slice aJ p.jobs.length cJ, .map (some rmb), .slice (some ⟨rob, 0, none⟩) p.jobs.length p.jobs.length, .slice (some ⟨rpb, 0, none⟩) p.jobs.length p.jobs.length] ∧ Below w.heap.size w W) (fun x _ => p.jobs.length - (intOf x).toNat)
    case atStart => exact ⟨0, [], rfl, Nat.zero_le _, hide rfl, hp, hr0, hAp, hk, hm, ro, hg, hB⟩
    case round =>
      clear hk hm ro hg hB hp hr0 hAp
      obtain ⟨W, rfl⟩ : ∃ W : World, W = wr := ⟨_, rfl⟩
      obtain ⟨k, brs, rfl, hkn, HBL, hp, hr, hAp, hk, hm, ro, hg, hB⟩ := hrel
      by_cases hlt : k < p.jobs.length
      · obtain ⟨st, hst⟩ : ∃ st, p.jobs[k]? = some st := ⟨_, List.getElem?_eq_getElem hlt⟩
        have hsl := (hv.steps k st hst).1
        obtain ⟨b, off, A', c', hA, hb0, hc, hSl⟩ := job_at (hS.on hB).jobs hst
        dsimp only at hA
        subst hA
        have HST := hide hst
        have hki : (k : Int) < (p.jobs.length : Int) := by omega
        have LB := hide (hr.lt (by have := HBL.out; have := HZ.out.2; omega))
        clear hst
        have c0 := hk.cell_ 0 rfl
        have c1 := hk.cell_ 1 rfl
        have c2 := hk.cell_ 2 rfl
        have c3 := hk.cell_ 3 rfl
        have c4 := hk.cell_ 4 rfl
        have c5 := hk.cell_ 5 rfl
        have g0 := hg.cell_ 0 rfl
        have g1 := hg.cell_ 1 rfl
        have g2 := hg.cell_ 2 rfl
        have g3 := hg.cell_ 3 rfl
        have g4 := hg.cell_ 4 rfl
        have g5 := hg.cell_ 5 rfl
        have g6 := hg.cell_ 6 rfl
        have g7 := hg.cell_ 7 rfl
        have g8 := hg.cell_ 8 rfl
        have q_c0 := (hk.alloc (.cells #[.slice A' st.length c'] 67)).cell_ 0 rfl
        have q_c1 := (hk.alloc (.cells #[.slice A' st.length c'] 67)).cell_ 1 rfl
        have q_c2 := (hk.alloc (.cells #[.slice A' st.length c'] 67)).cell_ 2 rfl
        have q_c3 := (hk.alloc (.cells #[.slice A' st.length c'] 67)).cell_ 3 rfl
        have q_c4 := (hk.alloc (.cells #[.slice A' st.length c'] 67)).cell_ 4 rfl
        have q_c5 := (hk.alloc (.cells #[.slice A' st.length c'] 67)).cell_ 5 rfl
        have q_g0 := (hg.alloc (.cells #[.slice A' st.length c'] 67)).cell_ 0 rfl
        have q_g1 := (hg.alloc (.cells #[.slice A' st.length c'] 67)).cell_ 1 rfl
        have q_g2 := (hg.alloc (.cells #[.slice A' st.length c'] 67)).cell_ 2 rfl
        have q_g3 := (hg.alloc (.cells #[.slice A' st.length c'] 67)).cell_ 3 rfl
        have q_g4 := (hg.alloc (.cells #[.slice A' st.length c'] 67)).cell_ 4 rfl
        have q_g5 := (hg.alloc (.cells #[.slice A' st.length c'] 67)).cell_ 5 rfl
        have q_g6 := (hg.alloc (.cells #[.slice A' st.length c'] 67)).cell_ 6 rfl
        have q_g7 := (hg.alloc (.cells #[.slice A' st.length c'] 67)).cell_ 7 rfl
        have q_g8 := (hg.alloc (.cells #[.slice A' st.length c'] 67)).cell_ 8 rfl
        go_wp2_with fail
        clear q_c0 q_c1 q_c2 q_c3 q_c4 q_c5 q_g0 q_g1 q_g2 q_g3 q_g4 q_g5 q_g6 q_g7 q_g8
        clear c0 c1 c2 c3 c4 c5 g0 g1 g2 g3 g4 g5 g6 g7 g8
        have hx := Blk.new W 67 #[.slice A' st.length c']
        replace hk := hk.alloc (.cells #[.slice A' st.length c'] 67)
        replace hm := hm.alloc (.cells #[.slice A' st.length c'] 67)
        replace ro := ro.alloc (.cells #[.slice A' st.length c'] 67)
        replace hp := hp.alloc (.cells #[.slice A' st.length c'] 67)
        replace hg := hg.alloc (.cells #[.slice A' st.length c'] 67)
        replace hr := hr.below ((Below.refl _ W).alloc (Nat.le_refl _) (.cells #[.slice A' st.length c'] 67))
        have hsz_xb : (W.alloc (.cells #[.slice A' st.length c'] 67)).heap.size = W.heap.size + 1 := by simp
        have xbge := hB.size
        replace hB := hB.alloc hB.size (.cells #[.slice A' st.length c'] 67)
        generalize hxb : W.heap.size = xb at *
        generalize W.alloc (.cells #[.slice A' st.length c'] 67) = W at *
        clear hxb
        have c0 := hk.cell_ 0 rfl
        have c1 := hk.cell_ 1 rfl
        have c2 := hk.cell_ 2 rfl
        have c3 := hk.cell_ 3 rfl
        have c4 := hk.cell_ 4 rfl
        have c5 := hk.cell_ 5 rfl
        have g0 := hg.cell_ 0 rfl
        have g1 := hg.cell_ 1 rfl
        have g2 := hg.cell_ 2 rfl
        have g3 := hg.cell_ 3 rfl
        have g4 := hg.cell_ 4 rfl
        have g5 := hg.cell_ 5 rfl
        have g6 := hg.cell_ 6 rfl
        have g7 := hg.cell_ 7 rfl
        have g8 := hg.cell_ 8 rfl
        have x0 := hx.cell_ 0 rfl
        clear hc
        have lx := hx.lt
        have lg := hg.lt
        have lm := hm.lt
        have lo := ro.lt
        have lp := hp.lt
        have lk := hk.lt
        go_wp2_with fail
        have z_c0 := hide (fun w' (hb : Below W.heap.size W w') => Since.later hb c0)
        have z_c1 := hide (fun w' (hb : Below W.heap.size W w') => Since.later hb c1)
        have z_c2 := hide (fun w' (hb : Below W.heap.size W w') => Since.later hb c2)
        have z_c3 := hide (fun w' (hb : Below W.heap.size W w') => Since.later hb c3)
        have z_c4 := hide (fun w' (hb : Below W.heap.size W w') => Since.later hb c4)
        have z_c5 := hide (fun w' (hb : Below W.heap.size W w') => Since.later hb c5)
        have z_g0 := hide (fun w' (hb : Below W.heap.size W w') => Since.later hb g0)
        have z_g1 := hide (fun w' (hb : Below W.heap.size W w') => Since.later hb g1)
        have z_g2 := hide (fun w' (hb : Below W.heap.size W w') => Since.later hb g2)
        have z_g3 := hide (fun w' (hb : Below W.heap.size W w') => Since.later hb g3)
        have z_g4 := hide (fun w' (hb : Below W.heap.size W w') => Since.later hb g4)
        have z_g5 := hide (fun w' (hb : Below W.heap.size W w') => Since.later hb g5)
        have z_g6 := hide (fun w' (hb : Below W.heap.size W w') => Since.later hb g6)
        have z_g7 := hide (fun w' (hb : Below W.heap.size W w') => Since.later hb g7)
        have z_g8 := hide (fun w' (hb : Below W.heap.size W w') => Since.later hb g8)
        have z_x0 := hide (fun w' (hb : Below W.heap.size W w') => Since.later hb x0)
        have hok : FldOk W ([⟨8, (.slice st.length st.length), (.cells (List.replicate st.length (Value.int .i64 0)).toArray 3), 8, (.cells (List.replicate st.length (Value.int .i64 0)).toArray 3)⟩]) [] := FldOk.nil_
        refine wp_region_both 9 [0, 1, 2, 3, 4, 5, 6, 7] [8] [⟨8, (.slice st.length st.length), (.cells (List.replicate st.length (Value.int .i64 0)).toArray 3), 8, (.cells (List.replicate st.length (Value.int .i64 0)).toArray 3)⟩] [] (fun f hf => by cases hf) (by kernel_rfl) (by kernel_rfl) (by kernel_rfl) (by kernel_rfl) (by kernel_rfl) (by simp) ?_
        apply Exists.intro
        refine ⟨fun W1 hc0 => ?_, ?_⟩
        · have hb := hc0.nil_
          have y_c0 := Since.cell (z_c0.out W1 hb)
          have y_c1 := Since.cell (z_c1.out W1 hb)
          have y_c2 := Since.cell (z_c2.out W1 hb)
          have y_c3 := Since.cell (z_c3.out W1 hb)
          have y_c4 := Since.cell (z_c4.out W1 hb)
          have y_c5 := Since.cell (z_c5.out W1 hb)
          have y_g0 := Since.cell (z_g0.out W1 hb)
          have y_g1 := Since.cell (z_g1.out W1 hb)
          have y_g2 := Since.cell (z_g2.out W1 hb)
          have y_g3 := Since.cell (z_g3.out W1 hb)
          have y_g4 := Since.cell (z_g4.out W1 hb)
          have y_g5 := Since.cell (z_g5.out W1 hb)
          have y_g6 := Since.cell (z_g6.out W1 hb)
          have y_g7 := Since.cell (z_g7.out W1 hb)
          have y_g8 := Since.cell (z_g8.out W1 hb)
          have y_x0 := Since.cell (z_x0.out W1 hb)
          replace hk := hk.below hb hk.lt
          replace hm := hm.below hb hm.lt
          replace ro := ro.below hb ro.lt
          replace hp := hp.below hb hp.lt
          replace hg := hg.below hb hg.lt
          replace hr := hr.below hb
          replace hx := hx.below hb hx.lt
          replace hB := hB.trans (hb.mono hB.size)
          dsimp only [pick, List.filterMap, List.getElem?_cons_succ, List.getElem?_cons_zero]
          repeat (go_big_quiet_step ((fail)))
          exact wpQuiet_nil rfl
        · refine ownWalk_alloc ⟨8, (.slice st.length st.length), (.cells (List.replicate st.length (Value.int .i64 0)).toArray 3), 8, (.cells (List.replicate st.length (Value.int .i64 0)).toArray 3)⟩ hok (by kernel_rfl) rfl rfl rfl rfl (fun w => run_exec_make rfl (MK1.out st.length (by omega) w)) (by simp) (by simp) (fun _ => rfl) ?_
          intro rnb
          simp only [Shape.val, List.setIfInBounds_toArray, List.set_cons_succ, List.set_cons_zero]
          refine ownWalk_nil ?_
          intro w' hc0 hD
          have hb := hc0.nil_
          obtain ⟨rnge, rn⟩ := hD.box.get (x := ⟨8, (.slice st.length st.length), (.cells (List.replicate st.length (Value.int .i64 0)).toArray 3), 8, (.cells (List.replicate st.length (Value.int .i64 0)).toArray 3)⟩) (o := (.cells (List.replicate st.length (Value.int .i64 0)).toArray 3)) (by simp) rfl rfl
          replace rn : Blk _ _ _ _ := rn
          clear hD
          try simp only [List.drop_succ_cons, List.drop_zero]
          clear z_c0 z_c1 z_c2 z_c3 z_c4 z_c5 z_g0 z_g1 z_g2 z_g3 z_g4 z_g5 z_g6 z_g7 z_g8 z_x0
          have hWge := hB.size
          clear c0 c1 c2 c3 c4 c5 g0 g1 g2 g3 g4 g5 g6 g7 g8 x0
          replace hk := hk.below hb hk.lt
          replace hm := hm.below hb hm.lt
          replace ro := ro.below hb ro.lt
          replace hp := hp.below hb hp.lt
          replace hg := hg.below hb hg.lt
          replace hr := hr.below hb
          replace hx := hx.below hb hx.lt
          replace hB := hB.trans (hb.mono hB.size)
          clear hb hok hc0
          obtain ⟨W, rfl⟩ : ∃ W : World, W = w' := ⟨_, rfl⟩
          have c0 := hk.cell_ 0 rfl
          have c1 := hk.cell_ 1 rfl
          have c2 := hk.cell_ 2 rfl
          have c3 := hk.cell_ 3 rfl
          have c4 := hk.cell_ 4 rfl
          have c5 := hk.cell_ 5 rfl
          have g0 := hg.cell_ 0 rfl
          have g1 := hg.cell_ 1 rfl
          have g2 := hg.cell_ 2 rfl
          have g3 := hg.cell_ 3 rfl
          have g4 := hg.cell_ 4 rfl
          have g5 := hg.cell_ 5 rfl
          have g6 := hg.cell_ 6 rfl
          have g7 := hg.cell_ 7 rfl
          have g8 := hg.cell_ 8 rfl
          have x0 := hx.cell_ 0 rfl
          have hz2 : k < (rowsK brs zs).size := by rw [rowsK_size]; have := HZ.out.2; omega
          have HZ2 := hide hz2
          clear hz2
          go_wp2_with (refine wpList_store_at rfl 22 _ _ rfl (.slice (some ⟨rnb, 0, none⟩) st.length st.length) hp rfl rfl (by kernel_rfl) rfl HZ2.out rfl ?_; intro W2 hp2 hc2)
          have hz : zs[brs.length]? = some (List.replicate st.length 0) := by rw [HBL.out, HZ.out.1, List.getElem?_map, HST.out]; rfl
          have hrv : Value.slice (some ⟨rnb, 0, none⟩) st.length st.length = rowV rnb (List.replicate st.length 0) := by simp [rowV]
          rw [hrv, ← HBL.out, rowsK_set hz] at hp2
          rw [ints_zero] at rn
          have nb : ∀ q ∈ brs, q < xb := LB.out
          have q1 : rnb ≠ rpb := by omega
          have q2 : w.heap.size ≠ rpb := by have := hAp.1; omega
          have q3 : ∀ q ∈ brs, q ≠ rpb := fun q hq he => by have := hAp.1; simp only [List.nodup_cons, List.mem_cons, not_or] at this; exact this.2.2.2.1 (he ▸ hq)
          have q4 : gb ≠ rpb ∧ rmb ≠ rpb ∧ rob ≠ rpb := by have := hAp.1; simp only [List.nodup_cons, List.mem_cons, not_or] at this; exact ⟨this.1.2.2.1, this.2.1.2.1, this.2.2.1.1⟩
          replace hr := (hr.chg1 hc2 q3).snoc hz (rn.chg1 hc2 q1)
          replace hm := hm.same (hc2.block _ hm.lt q4.2.1)
          replace ro := ro.chg1 hc2 q4.2.2
          replace hg := hg.chg1 hc2 q4.1
          replace hk := hk.chg1 hc2 q2
          replace hB := hB.trans (hc2.below1 hB.size (by omega))
          have hAp2 : Apart w.heap.size gb rmb rob rpb (brs ++ [rnb]) := hAp.snoc ⟨by omega, by omega, by omega, by omega⟩ (fun hq => by have := nb _ hq; omega) (by omega)
          have HBL2 : Hid ((brs ++ [rnb]).length = k + 1) := by show _ = _; rw [List.length_append, HBL.out]; rfl
          clear hz hrv nb q1 q2 q3 q4 hp hAp HBL hx rn hc2
          go_roundw
          case rel => exact ⟨k + 1, brs ++ [rnb], by go_num, by omega, HBL2, hp2, hr, hAp2, hk, hm, ro, hg, hB⟩
          case measure => simp [intOf]; omega
      · obtain rfl : k = p.jobs.length := by omega
        have c0 := hk.cell_ 0 rfl
        have c1 := hk.cell_ 1 rfl
        have c2 := hk.cell_ 2 rfl
        have c3 := hk.cell_ 3 rfl
        have c4 := hk.cell_ 4 rfl
        have c5 := hk.cell_ 5 rfl
        have g0 := hg.cell_ 0 rfl
        have g1 := hg.cell_ 1 rfl
        have g2 := hg.cell_ 2 rfl
        have g3 := hg.cell_ 3 rfl
        have g4 := hg.cell_ 4 rfl
        have g5 := hg.cell_ 5 rfl
        have g6 := hg.cell_ 6 rfl
        have g7 := hg.cell_ 7 rfl
        have g8 := hg.cell_ 8 rfl
        go_wp2_with fail
        go_ret
        have hD : DeskAt w.heap.size W gb rmb rob rpb brs ⟨p, aH, cH, aS, cS, aJ, cJ⟩ (desk0 p) := by
          obtain ⟨h1, h2⟩ := HZ.out
          have h3 := HBL.out
          refine ⟨by simpa [desk0] using hg, hm, ro, ?_, by simp [desk0, h3], fun i b l g1 g2 => hr i b l g1 (by rw [h1]; exact g2), hAp.1, fun q hq => ?_⟩
          · show Blk W rpb _ (rowsV brs (p.jobs.map fun l => List.replicate l.length 0))
            rw [← h1, ← rowsK_all (by omega)]; exact hp
          · simp only [List.mem_cons] at hq
            rcases hq with rfl | rfl | rfl | rfl | hq
            · omega
            · omega
            · omega
            · omega
            · exact Nat.le_of_lt (hAp.2 q hq)
        exact ⟨gb, rmb, rob, rpb, brs, rfl, hB, hD⟩
end Go.Proofs.Ytcpnfcnobnjhdaa

/- Dispatch of package shop: the walk. -/
namespace Go.Proofs.Ytcpnfcnobnjhdaa
open Go.RowKit
theorem DeskAt.notOf {B : Nat} {w : World} {g mb bo bp : Nat} {brs : List Nat} {s : Sh} {D : Desk} (h : DeskAt B w g mb bo bp brs s D) {q : Nat} (hq : q < B ∨ w.heap.size ≤ q) : ¬ OfDesk mb bo brs q := fun ho => by
  have hm : q ∈ g :: mb :: bo :: bp :: brs := by
    rcases ho with rfl | rfl | ho
    · simp
    · simp
    · simp [ho]
  have h1 := h.base q hm
  have h2 := h.lts q hm
  omega
/-- the desk and the counts of package shop, and the state -/
structure PD (p : Shop) (S : DS) (D : Desk) (dn : List Int) : Prop where
  last : D.last = S.last
  onl : D.on.length = p.jobs.length
  pll : D.plan.length = p.jobs.length
  dnl : dn.length = p.jobs.length
  on : ∀ (j : Nat) st l, p.jobs[j]? = some st → S.pl[j]? = some l → D.on[j]? = some (rdy st l)
  pl : ∀ (j : Nat) st l, p.jobs[j]? = some st → S.pl[j]? = some l → D.plan[j]? = some (l ++ List.replicate (st.length - l.length) 0)
  dn : ∀ (j : Nat) st l, p.jobs[j]? = some st → S.pl[j]? = some l → dn[j]? = some (l.length : Int)
theorem PD.start (p : Shop) : PD p (ds0 p) (desk0 p) (List.replicate p.jobs.length 0) := by
  have hl : ∀ {j : Nat} {l : List Int}, (ds0 p).pl[j]? = some l → l = [] := fun {j l} h => by
    simp [ds0, List.getElem?_replicate] at h
    exact h.2
  refine ⟨rfl, by simp [desk0], by simp [desk0], by simp, fun j st l h1 h2 => ?_, fun j st l h1 h2 => ?_, fun j st l h1 h2 => ?_⟩
  · obtain rfl := hl h2
    have := (List.getElem?_eq_some_iff.1 h1).1
    simp [desk0, this, rdy]
  · obtain rfl := hl h2
    simp [desk0, h1]
  · obtain rfl := hl h2
    have := (List.getElem?_eq_some_iff.1 h1).1
    simp [this]
theorem PD.earl {p : Shop} {S : DS} {D : Desk} {dn : List Int} (h : PD p S D dn) {j : Nat} {st : List Step} {l : List Int} {x : Step} (hj : p.jobs[j]? = some st) (hl : S.pl[j]? = some l) : earlF p D j x = nextF p (prevF p S.last x (rdy st l)) x.mi := by
  have e1 : D.on.getD j 0 = rdy st l := by rw [List.getD_eq_getElem?_getD, h.on j st l hj hl]; rfl
  unfold earlF prevF
  rw [e1, h.last]
  rfl
theorem modify_get {α : Type} {l : List α} {j i : Nat} {f : α → α} : (l.modify j f)[i]? = if j = i then l[i]?.map f else l[i]? := by
  rw [List.getElem?_modify]
  cases l[i]? <;> by_cases h : j = i <;> simp [h]
theorem PD.put_ {p : Shop} {S : DS} {D : Desk} {dn : List Int} (h : PD p S D dn) {j : Nat} {st : List Step} {l : List Int} {x : Step} (t : Int) (hj : p.jobs[j]? = some st) (hl : S.pl[j]? = some l) (hx : st[l.length]? = some x) :
    PD p (putS p S j t) (D.put ⟨j, l.length, t, x⟩) (dn.set j ((l.length : Int) + 1)) := by
  rw [putS_eq t hj hl hx]
  have hlt := (List.getElem?_eq_some_iff.1 hx).1
  have hjl := (List.getElem?_eq_some_iff.1 hj).1
  have key : ∀ (i : Nat) st' l', p.jobs[i]? = some st' → (S.pl.modify j fun l => l ++ [t])[i]? = some l' → (j = i ∧ st' = st ∧ l' = l ++ [t]) ∨ (j ≠ i ∧ S.pl[i]? = some l') := fun i st' l' h1 h2 => by
    rw [modify_get] at h2
    by_cases hji : j = i
    · subst hji
      rw [if_pos rfl, hl] at h2
      rw [hj] at h1
      injection h1 with h1
      injection h2 with h2
      exact .inl ⟨rfl, h1.symm, h2.symm⟩
    · rw [if_neg hji] at h2
      exact .inr ⟨hji, h2⟩
  refine ⟨by simp [Desk.put, h.last], by simp [Desk.put, h.onl], by simp [Desk.put, h.pll], by simp [h.dnl], fun i st' l' h1 h2 => ?_, fun i st' l' h1 h2 => ?_, fun i st' l' h1 h2 => ?_⟩
  · show (D.on.set j (At.dry ⟨j, l.length, t, x⟩))[i]? = _
    rw [List.getElem?_set]
    rcases key i st' l' h1 h2 with ⟨rfl, rfl, rfl⟩ | ⟨hji, h3⟩
    · rw [if_pos rfl, if_pos (by rw [h.onl]; exact hjl)]
      congr 1
      unfold rdy At.dry
      simp only [List.length_append, List.length_cons, List.length_nil]
      rw [List.getD_eq_getElem?_getD, List.getD_eq_getElem?_getD, hx]
      simp
    · rw [if_neg hji]; exact h.on i st' l' h1 h3
  · show (D.plan.modify j fun y => y.set l.length t)[i]? = _
    rw [modify_get]
    rcases key i st' l' h1 h2 with ⟨rfl, rfl, rfl⟩ | ⟨hji, h3⟩
    · rw [if_pos rfl, h.pl j st' l hj hl]
      simp only [Option.map_some]
      congr 1
      obtain ⟨m, hm⟩ : ∃ m, st'.length - l.length = m + 1 := ⟨st'.length - l.length - 1, by omega⟩
      rw [hm, show st'.length - (l ++ [t]).length = m by simp; omega, List.replicate_succ]
      rw [List.set_append_right _ _ (Nat.le_refl _)]
      simp
    · rw [if_neg hji]; exact h.pl i st' l' h1 h3
  · rw [List.getElem?_set]
    rcases key i st' l' h1 h2 with ⟨rfl, rfl, rfl⟩ | ⟨hji, h3⟩
    · rw [if_pos rfl, if_pos (by rw [h.dnl]; exact hjl)]
      simp
    · rw [if_neg hji]; exact h.dn i st' l' h1 h3
/-- where nothing is left the desk's plan is the starts -/
theorem PD.done {p : Shop} {S : DS} {D : Desk} {dn : List Int} (h : PD p S D dn) (hs : VS p S) (hn : bestF p S = none) : D.plan = S.pl := by
  have h1 := (bestFrom_none hn).2
  apply List.ext_getElem?
  intro i
  by_cases hi : i < p.jobs.length
  · have hj : p.jobs[i]? = some p.jobs[i] := List.getElem?_eq_getElem hi
    have hl : S.pl[i]? = some (S.pl[i]'(by rw [hs.len]; exact hi)) := List.getElem?_eq_getElem _
    have h2 := h1 i _ _ hj hl
    rw [h.pl i _ _ hj hl, hl]
    have h3 := (hs.row i _ _ hj hl).1
    unfold candT at h2
    have h4 : p.jobs[i].length ≤ (S.pl[i]'(by rw [hs.len]; exact hi)).length := by
      cases hx : p.jobs[i][(S.pl[i]'(by rw [hs.len]; exact hi)).length]? with
      | none => exact List.getElem?_eq_none_iff.1 hx
      | some x => rw [hx] at h2; cases h2
    rw [show p.jobs[i].length - (S.pl[i]'(by rw [hs.len]; exact hi)).length = 0 by omega]
    simp
  · rw [List.getElem?_eq_none (by rw [h.pll]; omega), List.getElem?_eq_none (by rw [hs.len]; omega)]
def accB (acc : Option (Nat × Int)) : Int := match acc with
  | none => -1
  | some (b, _) => b
def accT (acc : Option (Nat × Int)) : Int := match acc with
  | none => 0
  | some (_, t) => t
def DispPost (p : Shop) (w : World) (e : Ending) (w' : World) : Prop := ∃ A c, e = .returned (.tuple #[.slice A (dispF p).length c, .int .i64 0]) ∧ Below w.heap.size w w' ∧ Plan w' w'.heap.size A (dispF p)
theorem ints_zero' (n : Nat) : Array.replicate n (Value.int .i64 0) = ints (List.replicate n 0) := by simp [ints, intV]
/-- the search so far -/
def AccOk (p : Shop) (S : DS) (acc : Option (Nat × Int)) : Prop := ∀ b t, acc = some (b, t) → 0 ≤ t ∧ t ≤ 1000000000 ∧ b < p.jobs.length
set_option maxRecDepth 100000 in
set_option maxHeartbeats 4000000 in
theorem dispatch_any (s : Sh) (w : World) (hS : ShAt w w.heap.size s) (hvB : validShop s.p = true) : Calls Try.prog 33 #[.agg #[.int .i64 s.p.op, .int .i64 s.p.cl, .slice s.aH s.p.hol.length s.cH, .int .i64 s.p.mach, .slice s.aS s.p.setup.length s.cS, .slice s.aJ s.p.jobs.length s.cJ]] w (DispPost s.p w) := by
  have hv := valid_facts hvB
  have hfs := hv.fits
  have hjn := hv.jobn
  have hmk := run_make1 (P := Try.prog) (bytes := 8) (z := .int .i64 0) Try.underlying22 (by kernel_rfl) rfl (by omega) s.p.jobs.length (by omega)
  have HMK := hide hmk
  clear hmk
  obtain ⟨p, aH, cH, aS, cS, aJ, cJ⟩ := s
  dsimp only at *
  have hk := Blk.new w 25 #[.int .i64 p.op, .int .i64 p.cl, .slice aH p.hol.length cH, .int .i64 p.mach, .slice aS p.setup.length cS, .slice aJ p.jobs.length cJ]
  have hB := (Below.refl w.heap.size w).alloc (Nat.le_refl _) (.cells #[.int .i64 p.op, .int .i64 p.cl, .slice aH p.hol.length cH, .int .i64 p.mach, .slice aS p.setup.length cS, .slice aJ p.jobs.length cJ] 25)
  go_enter Try.func33, Try.ntmps33
  go_wp2_with fail
  generalize w.alloc (.cells #[.int .i64 p.op, .int .i64 p.cl, .slice aH p.hol.length cH, .int .i64 p.mach, .slice aS p.setup.length cS, .slice aJ p.jobs.length cJ] 25) = W at *
  have c0 := hk.cell_ 0 rfl
  have c1 := hk.cell_ 1 rfl
  have c2 := hk.cell_ 2 rfl
  have c3 := hk.cell_ 3 rfl
  have c4 := hk.cell_ 4 rfl
  have c5 := hk.cell_ 5 rfl
  go_wp2_with fail
  refine (valid_any ⟨p, aH, cH, aS, cS, aJ, cJ⟩ _ (hS.on hB) hfs.h1 hfs.h2 hfs.h3 hfs.h4).mono ?_
  rintro e W ⟨rfl, hb⟩
  clear c0 c1 c2 c3 c4 c5
  replace hk := hk.below hb hk.lt
  replace hB := hB.trans (hb.mono hB.size)
  clear hb
  have c0 := hk.cell_ 0 rfl
  have c1 := hk.cell_ 1 rfl
  have c2 := hk.cell_ 2 rfl
  have c3 := hk.cell_ 3 rfl
  have c4 := hk.cell_ 4 rfl
  have c5 := hk.cell_ 5 rfl
  dsimp only
  rw [hvB]
  have lk0 := hk.lt
  go_wp2_with fail
  refine (newDesk_any ⟨p, aH, cH, aS, cS, aJ, cJ⟩ _ (hS.on hB) hv).mono ?_
  rintro e W ⟨g, mb, bo, bp, brs, rfl, hb, hD⟩
  clear c0 c1 c2 c3 c4 c5
  replace hk := hk.below hb hk.lt
  replace hB := hB.trans (hb.mono hB.size)
  clear hb
  have c0 := hk.cell_ 0 rfl
  have c1 := hk.cell_ 1 rfl
  have c2 := hk.cell_ 2 rfl
  have c3 := hk.cell_ 3 rfl
  have c4 := hk.cell_ 4 rfl
  have c5 := hk.cell_ 5 rfl
  obtain ⟨B0, hB0⟩ : ∃ B0 : Nat, w.heap.size < B0 ∧ DeskAt B0 W g mb bo bp brs ⟨p, aH, cH, aS, cS, aJ, cJ⟩ (desk0 p) := ⟨_, lk0, hD⟩
  clear hD lk0
  obtain ⟨hB0, hD⟩ := hB0
  have hmk : ∀ w, (Instr.makeSlice 22 (.int .i64 p.jobs.length) (.int .i64 p.jobs.length)).run Try.prog w = .ok (.slice (some ⟨w.heap.size, 0, none⟩) p.jobs.length p.jobs.length) (w.alloc (.cells (Array.replicate p.jobs.length (Value.int .i64 0)) 3)) := fun w => by
    have := HMK.out w
    simpa using this
  have HDB := hide (hD.notOf (q := W.heap.size) (.inr (Nat.le_refl _)))
  have HDN := hide (fun q (hq : q ∈ g :: mb :: bo :: bp :: brs) => Nat.ne_of_lt (hD.lts q hq))
  have lk1 := hk.lt
  have q_c0 := (hk.alloc (.cells (Array.replicate p.jobs.length (Value.int .i64 0)) 3)).cell_ 0 rfl
  have q_c1 := (hk.alloc (.cells (Array.replicate p.jobs.length (Value.int .i64 0)) 3)).cell_ 1 rfl
  have q_c2 := (hk.alloc (.cells (Array.replicate p.jobs.length (Value.int .i64 0)) 3)).cell_ 2 rfl
  have q_c3 := (hk.alloc (.cells (Array.replicate p.jobs.length (Value.int .i64 0)) 3)).cell_ 3 rfl
  have q_c4 := (hk.alloc (.cells (Array.replicate p.jobs.length (Value.int .i64 0)) 3)).cell_ 4 rfl
  have q_c5 := (hk.alloc (.cells (Array.replicate p.jobs.length (Value.int .i64 0)) 3)).cell_ 5 rfl
  go_wp2_with fail
  clear q_c0 q_c1 q_c2 q_c3 q_c4 q_c5
  clear c0 c1 c2 c3 c4 c5
  have hdn := Blk.new W 3 (Array.replicate p.jobs.length (Value.int .i64 0))
  replace hk := hk.alloc (.cells (Array.replicate p.jobs.length (Value.int .i64 0)) 3)
  replace hD := hD.below ((Below.refl _ W).alloc (Nat.le_refl _) (.cells (Array.replicate p.jobs.length (Value.int .i64 0)) 3))
  have hsz_db : (W.alloc (.cells (Array.replicate p.jobs.length (Value.int .i64 0)) 3)).heap.size = W.heap.size + 1 := by simp
  have dbge := hB.size
  replace hB := hB.alloc hB.size (.cells (Array.replicate p.jobs.length (Value.int .i64 0)) 3)
  generalize hdb : W.heap.size = db at *
  generalize W.alloc (.cells (Array.replicate p.jobs.length (Value.int .i64 0)) 3) = W at *
  clear hdb
  have c0 := hk.cell_ 0 rfl
  have c1 := hk.cell_ 1 rfl
  have c2 := hk.cell_ 2 rfl
  have c3 := hk.cell_ 3 rfl
  have c4 := hk.cell_ 4 rfl
  have c5 := hk.cell_ 5 rfl
  rw [ints_zero'] at hdn
  clear hmk hsz_db
  clear c0 c1 c2 c3 c4 c5
  go_loopg [6] (total p) (fun gk x W => ∃ (S : DS) (D : Desk) (dn : List Int), Hid (iterS p gk S = iterS p (total p) (ds0 p)) ∧ Hid (gk + cnt S.pl = total p) ∧ VS p S ∧ PD p S D dn ∧ DeskAt B0 W g mb bo bp brs ⟨p, aH, cH, aS, cS, aJ, cJ⟩ D ∧ Blk W db 3 (ints dn) ∧ Blk W w.heap.size 25 #[.int .i64 p.op, .int .i64 p.cl, .slice aH p.hol.length cH, .int .i64 p.mach, .slice aS p.setup.length cS, .slice aJ p.jobs.length cJ] ∧ Below w.heap.size w W)
  case atStart => exact ⟨ds0 p, desk0 p, List.replicate p.jobs.length 0, hide rfl, hide (by rw [cnt_start]; omega), VS.start p, PD.start p, hD, hdn, hk, hB⟩
  case round =>
    clear hk hB hD hdn
    obtain ⟨W, rfl⟩ : ∃ W : World, W = wr := ⟨_, rfl⟩
    obtain ⟨S, D, dn, HIT, HCN, hVS, hPD, hD, hdn, hk, hB⟩ := hrel
    have c0 := hk.cell_ 0 rfl
    have c1 := hk.cell_ 1 rfl
    have c2 := hk.cell_ 2 rfl
    have c3 := hk.cell_ 3 rfl
    have c4 := hk.cell_ 4 rfl
    have c5 := hk.cell_ 5 rfl
    go_wp2_with fail
    clear c0 c1 c2 c3 c4 c5
    go_loopw [6, 7, 23] (fun a b c W => ∃ (j : Nat) (acc : Option (Nat × Int)), a = .int .i64 (accB acc) ∧ b = .int .i64 (accT acc) ∧ c = .int .i64 j ∧ j ≤ p.jobs.length ∧ Hid (bestF p S = bestFrom p S.last j (p.jobs.drop j) (S.pl.drop j) acc) ∧ AccOk p S acc ∧ Blk W w.heap.size 25 #[.int .i64 p.op, .int .i64 p.cl, .slice aH p.hol.length cH, .int .i64 p.mach, .slice aS p.setup.length cS, .slice aJ p.jobs.length cJ] ∧ DeskAt B0 W g mb bo bp brs ⟨p, aH, cH, aS, cS, aJ, cJ⟩ D ∧ Blk W db 3 (ints dn) ∧ Below w.heap.size w W) (fun a b c _ => p.jobs.length - (intOf c).toNat)
    case atStart => exact ⟨0, none, rfl, rfl, rfl, Nat.zero_le _, hide rfl, (fun b t h => by cases h), hk, hD, hdn, hB⟩
    case round =>
      clear hk hB hD hdn
      obtain ⟨W, rfl⟩ : ∃ W : World, W = wr := ⟨_, rfl⟩
      obtain ⟨j, acc, rfl, rfl, rfl, hj, HS, hAc, hk, hD, hdn, hB⟩ := hrel
      by_cases hlt : j < p.jobs.length
      · obtain ⟨st, hst⟩ : ∃ st, p.jobs[j]? = some st := ⟨_, List.getElem?_eq_getElem hlt⟩
        obtain ⟨l, hl⟩ : ∃ l, S.pl[j]? = some l := ⟨_, List.getElem?_eq_getElem (by rw [hVS.len]; exact hlt)⟩
        have hrw := (hVS.row j st l hst hl).1
        have hsl := (hv.steps j st hst).1
        obtain ⟨b, off, A', c', hA', hb0, hc, hSl⟩ := job_at (hS.on hB).jobs hst
        dsimp only at hA'
        subst hA'
        have HDR := hide (bestFrom_drop (p := p) (last := S.last) (acc := acc) hst hl)
        have HX := hide (And.intro hst hl)
        clear hst hl
        have hji : (j : Int) < (p.jobs.length : Int) := by omega
        have c0 := hk.cell_ 0 rfl
        have c1 := hk.cell_ 1 rfl
        have c2 := hk.cell_ 2 rfl
        have c3 := hk.cell_ 3 rfl
        have c4 := hk.cell_ 4 rfl
        have c5 := hk.cell_ 5 rfl
        have q_c0 := (hk.alloc (.cells #[.slice A' st.length c'] 67)).cell_ 0 rfl
        have q_c1 := (hk.alloc (.cells #[.slice A' st.length c'] 67)).cell_ 1 rfl
        have q_c2 := (hk.alloc (.cells #[.slice A' st.length c'] 67)).cell_ 2 rfl
        have q_c3 := (hk.alloc (.cells #[.slice A' st.length c'] 67)).cell_ 3 rfl
        have q_c4 := (hk.alloc (.cells #[.slice A' st.length c'] 67)).cell_ 4 rfl
        have q_c5 := (hk.alloc (.cells #[.slice A' st.length c'] 67)).cell_ 5 rfl
        go_wp2_with fail
        clear q_c0 q_c1 q_c2 q_c3 q_c4 q_c5
        clear c0 c1 c2 c3 c4 c5
        have hx := Blk.new W 67 #[.slice A' st.length c']
        replace hk := hk.alloc (.cells #[.slice A' st.length c'] 67)
        replace hD := hD.below ((Below.refl _ W).alloc (Nat.le_refl _) (.cells #[.slice A' st.length c'] 67))
        replace hdn := hdn.alloc (.cells #[.slice A' st.length c'] 67)
        replace hSl := (hSl.below ((Below.refl _ W).alloc (Nat.le_refl _) (.cells #[.slice A' st.length c'] 67))).more ((Below.refl _ W).alloc (Nat.le_refl _) (.cells #[.slice A' st.length c'] 67)).size
        replace hB := hB.alloc hB.size (.cells #[.slice A' st.length c'] 67)
        generalize W.alloc (.cells #[.slice A' st.length c'] 67) = W at *
        have c0 := hk.cell_ 0 rfl
        have c1 := hk.cell_ 1 rfl
        have c2 := hk.cell_ 2 rfl
        have c3 := hk.cell_ 3 rfl
        have c4 := hk.cell_ 4 rfl
        have c5 := hk.cell_ 5 rfl
        have x0 := hx.cell_ 0 rfl
        clear hc
        have dnj := hdn.cell_ j (ints_get (hPD.dn j st l HX.out.1 HX.out.2))
        by_cases hfull : l.length = st.length
        · have hbq : ((l.length : Int) == (st.length : Int)) = true := by simp; omega
          have HC : Hid (candT p S.last st l = none) := by show _ = _; unfold candT; rw [List.getElem?_eq_none (by omega)]
          have HFULL := hide hfull
          clear hfull
          go_wp2_with fail
          refine wp_region_quiet (C := fun w' => ∃ u : Since W, w' = u.w) (by kernel_rfl) (by kernel_rfl) (Since.start W) ?_
          dsimp only
          have y_c0 := Since.cell c0
          have y_c1 := Since.cell c1
          have y_c2 := Since.cell c2
          have y_c3 := Since.cell c3
          have y_c4 := Since.cell c4
          have y_c5 := Since.cell c5
          have y_x0 := Since.cell x0
          have y_dnj := Since.cell dnj
          clear c0 c1 c2 c3 c4 c5 x0
          repeat (go_big_quiet_step ((fail)))
          refine wpQuiet_nil ?_
          rintro W ⟨⟨_, hb⟩, rfl⟩
          try dsimp only at hb ⊢
          replace dnj : W.cell? _ = _ := y_dnj ⟨W, hb⟩
          clear y_c0 y_c1 y_c2 y_c3 y_c4 y_c5 y_x0 y_dnj
          replace hk := hk.below hb hk.lt
          replace hD := hD.below hb
          replace hdn := hdn.below hb hdn.lt
          replace hSl := (hSl.below hb).more hb.size
          replace hx := hx.below hb hx.lt
          replace hB := hB.trans (hb.mono hB.size)
          clear hb
          have c0 := hk.cell_ 0 rfl
          have c1 := hk.cell_ 1 rfl
          have c2 := hk.cell_ 2 rfl
          have c3 := hk.cell_ 3 rfl
          have c4 := hk.cell_ 4 rfl
          have c5 := hk.cell_ 5 rfl
          have x0 := hx.cell_ 0 rfl
          go_wp2_with fail
          go_roundw
          case rel => exact ⟨j + 1, acc, rfl, rfl, by go_num, by omega, (by show _ = _; rw [HS.out, HDR.out, HC.out]; rfl), hAc, hk, hD, hdn, hB⟩
          case measure => simp [intOf]; omega
        · have hbq : ((l.length : Int) == (st.length : Int)) = false := by simp; omega
          obtain ⟨x, hxx⟩ : ∃ x, st[l.length]? = some x := ⟨_, List.getElem?_eq_getElem (by omega)⟩
          obtain ⟨b2, off2, hA2, hb2, d0, d1, d2, d3⟩ := hSl.at4_ hxx
          obtain ⟨t0, hcd⟩ : ∃ t0, candT p S.last st l = some t0 := by unfold candT; rw [hxx]; exact ⟨_, rfl⟩
          obtain ⟨x', hx1, ht1, ht2, ht3⟩ := candT_some hv hVS HX.out.1 HX.out.2 hcd
          obtain rfl : x' = x := by rw [hxx] at hx1; injection hx1 with hx1; exact hx1.symm
          obtain ⟨r1, r2⟩ := rdy_bd hv hVS HX.out.1 HX.out.2
          obtain ⟨_, _, x1, x2, _, _, _, _⟩ := (hv.steps j st HX.out.1).2 _ _ hxx
          have htl := total_le hv
          have hcl := hVS.cnt_le
          have hbd1 : bd (cnt S.pl) + 11440 ≤ 1000000000 := by unfold bd; omega
          have hbd2 : bd (cnt S.pl + 1) ≤ 1000000000 := by unfold bd; push_cast; omega
          have HEF := hide (show earlF p D j x' = t0 by rw [hPD.earl HX.out.1 HX.out.2]; exact ht1.symm)
          have HCD := hide hcd
          have HON := hide (hPD.on j st l HX.out.1 HX.out.2)
          have HLF := hide (fun b (hb : look D.last x'.m = some b) => (hVS.last _ b (by rw [← hPD.last]; exact hb)).1)
          have hli : (l.length : Int) < (st.length : Int) := by omega
          clear hxx hcd hx1 ht1
          subst hA2
          go_wp2_with fail
          refine wp_region_quiet (C := fun w' => ∃ u : Since W, w' = u.w) (by kernel_rfl) (by kernel_rfl) (Since.start W) ?_
          dsimp only
          have y_c0 := Since.cell c0
          have y_c1 := Since.cell c1
          have y_c2 := Since.cell c2
          have y_c3 := Since.cell c3
          have y_c4 := Since.cell c4
          have y_c5 := Since.cell c5
          have y_x0 := Since.cell x0
          have y_dnj := Since.cell dnj
          have y_d0 := Since.cell d0
          have y_d1 := Since.cell d1
          have y_d2 := Since.cell d2
          have y_d3 := Since.cell d3
          clear c0 c1 c2 c3 c4 c5 x0
          repeat (go_big_quiet_step ((fail)))
          refine wpQuiet_nil ?_
          rintro W ⟨⟨_, hb⟩, rfl⟩
          try dsimp only at hb ⊢
          replace dnj : W.cell? _ = _ := y_dnj ⟨W, hb⟩
          replace d0 : W.cell? _ = _ := y_d0 ⟨W, hb⟩
          replace d1 : W.cell? _ = _ := y_d1 ⟨W, hb⟩
          replace d2 : W.cell? _ = _ := y_d2 ⟨W, hb⟩
          replace d3 : W.cell? _ = _ := y_d3 ⟨W, hb⟩
          clear y_c0 y_c1 y_c2 y_c3 y_c4 y_c5 y_x0 y_dnj y_d0 y_d1 y_d2 y_d3
          replace hk := hk.below hb hk.lt
          replace hD := hD.below hb
          replace hdn := hdn.below hb hdn.lt
          replace hSl := (hSl.below hb).more hb.size
          replace hx := hx.below hb hx.lt
          replace hB := hB.trans (hb.mono hB.size)
          clear hb
          have c0 := hk.cell_ 0 rfl
          have c1 := hk.cell_ 1 rfl
          have c2 := hk.cell_ 2 rfl
          have c3 := hk.cell_ 3 rfl
          have c4 := hk.cell_ 4 rfl
          have c5 := hk.cell_ 5 rfl
          have x0 := hx.cell_ 0 rfl
          have HSW := hS.on hB
          go_wp2_with fail
          refine wp_region_quiet (C := fun w' => ∃ u : Since W, w' = u.w) (by kernel_rfl) (by kernel_rfl) (Since.start W) ?_
          dsimp only
          have y_c0 := Since.cell c0
          have y_c1 := Since.cell c1
          have y_c2 := Since.cell c2
          have y_c3 := Since.cell c3
          have y_c4 := Since.cell c4
          have y_c5 := Since.cell c5
          have y_x0 := Since.cell x0
          have y_dnj := Since.cell dnj
          have y_d0 := Since.cell d0
          have y_d1 := Since.cell d1
          have y_d2 := Since.cell d2
          have y_d3 := Since.cell d3
          clear c0 c1 c2 c3 c4 c5 x0
          repeat (go_big_quiet_step ((go_at_call 61; exact Since.calls (earliest_is B0 g mb bo bp brs ⟨p, aH, cH, aS, cS, some ⟨b, off, none⟩, cJ⟩ D j x' _ t0 _ (HSW.on (Since.h _)) hv (hD.below (Since.h _)) HON.out r1 (by omega) HLF.out x1 x2 HEF.out))))
          refine wpQuiet_nil ?_
          rintro W ⟨⟨_, hb⟩, rfl⟩
          try dsimp only at hb ⊢
          replace dnj : W.cell? _ = _ := y_dnj ⟨W, hb⟩
          replace d0 : W.cell? _ = _ := y_d0 ⟨W, hb⟩
          replace d1 : W.cell? _ = _ := y_d1 ⟨W, hb⟩
          replace d2 : W.cell? _ = _ := y_d2 ⟨W, hb⟩
          replace d3 : W.cell? _ = _ := y_d3 ⟨W, hb⟩
          clear y_c0 y_c1 y_c2 y_c3 y_c4 y_c5 y_x0 y_dnj y_d0 y_d1 y_d2 y_d3
          replace hk := hk.below hb hk.lt
          replace hD := hD.below hb
          replace hdn := hdn.below hb hdn.lt
          replace hSl := (hSl.below hb).more hb.size
          replace hx := hx.below hb hx.lt
          replace hB := hB.trans (hb.mono hB.size)
          clear hb
          have c0 := hk.cell_ 0 rfl
          have c1 := hk.cell_ 1 rfl
          have c2 := hk.cell_ 2 rfl
          have c3 := hk.cell_ 3 rfl
          have c4 := hk.cell_ 4 rfl
          have c5 := hk.cell_ 5 rfl
          have x0 := hx.cell_ 0 rfl
          cases acc with
          | none =>
            have eb : accB (none : Option (Nat × Int)) = -1 := rfl
            have HUP : Hid (upd none j (candT p S.last st l) = some (j, t0)) := by show _ = _; rw [HCD.out]; rfl
            go_wp2_with fail
            go_roundw
            case rel => exact ⟨j + 1, some (j, t0), rfl, rfl, by go_num, by omega, (by show _ = _; rw [HS.out, HDR.out, HUP.out]), (fun b t h => by injection h with h; injection h with h1 h2; subst h1 h2; exact ⟨ht2, by omega, hlt⟩), hk, hD, hdn, hB⟩
            case measure => simp [intOf]; omega
          | some q =>
            obtain ⟨b0, w0⟩ := q
            obtain ⟨a1, a2, a3⟩ := hAc b0 w0 rfl
            have eb : accB (some (b0, w0)) = (b0 : Int) := rfl
            have et : accT (some (b0, w0)) = w0 := rfl
            have eb2 : ¬ (b0 : Int) < 0 := by omega
            have eb3 : decide ((b0 : Int) < 0) = false := decide_eq_false eb2
            by_cases htw : t0 < w0
            · have htw2 : decide (t0 < w0) = true := decide_eq_true htw
              have HUP : Hid (upd (some (b0, w0)) j (candT p S.last st l) = some (j, t0)) := by show _ = _; rw [HCD.out]; unfold upd; simp [htw]
              go_wp2_with fail
              go_roundw
              case rel => exact ⟨j + 1, some (j, t0), rfl, rfl, by go_num, by omega, (by show _ = _; rw [HS.out, HDR.out, HUP.out]), (fun b t h => by injection h with h; injection h with h1 h2; subst h1 h2; exact ⟨ht2, by omega, hlt⟩), hk, hD, hdn, hB⟩
              case measure => simp [intOf]; omega
            · have htw2 : decide (t0 < w0) = false := decide_eq_false htw
              have HUP : Hid (upd (some (b0, w0)) j (candT p S.last st l) = some (b0, w0)) := by show _ = _; rw [HCD.out]; unfold upd; simp [htw]
              go_wp2_with fail
              go_roundw
              case rel => exact ⟨j + 1, some (b0, w0), rfl, rfl, by go_num, by omega, (by show _ = _; rw [HS.out, HDR.out, HUP.out]), hAc, hk, hD, hdn, hB⟩
              case measure => simp [intOf]; omega
      · obtain rfl : j = p.jobs.length := by omega
        have HBF : Hid (bestF p S = acc) := by show _ = _; rw [HS.out, nomore]; simp [bestFrom]
        cases acc with
        | none =>
          have eb : accB (none : Option (Nat × Int)) = -1 := rfl
          have hfin : dispF p = D.plan := by unfold dispF; rw [← HIT.out, iterS_none HBF.out]; exact (hPD.done hVS HBF.out).symm
          have HFIN := hide hfin
          clear hfin
          have g8 := hD.blk.cell_ 8 rfl
          go_wp2_with fail
          go_ret2
          exact ⟨some ⟨bp, 0, none⟩, D.plan.length, by rw [HFIN.out]; rfl, hB, by rw [HFIN.out]; exact hD.plan_⟩
        | some q =>
          obtain ⟨b0, t0⟩ := q
          obtain ⟨st, l, x, h1, h2, h3, h4, h5, h6, h7⟩ := best_at hv hVS HBF.out
          clear h4
          obtain ⟨hVS2, hcn2⟩ := hVS.put_ hv HBF.out
          have htl := total_le hv
          have hcl := hVS.cnt_le
          have hbd2 : bd (cnt S.pl + 1) ≤ 1000000000 := by unfold bd; push_cast; omega
          have hjl := (List.getElem?_eq_some_iff.1 h1).1
          have hxl := (List.getElem?_eq_some_iff.1 h3).1
          have hs8 := (hv.steps b0 st h1).1
          have hrw := (hVS.row b0 st l h1 h2).1
          have hpp := hPD.pl b0 st l h1 h2
          have hfit : AtFit p ⟨b0, l.length, t0, x⟩ := by
            have hq := hVS2.last x.m ⟨b0, l.length, t0, x⟩ (by rw [putS_eq t0 h1 h2 h3]; show look (put _ _ _) _ = _; rw [look_put, if_pos rfl])
            exact hq.1
          have hPD2 := hPD.put_ t0 h1 h2 h3
          have dnb := hdn.cell_ b0 (ints_get (hPD.dn b0 st l h1 h2))
          have eb : accB (some (b0, t0)) = (b0 : Int) := rfl
          have et : accT (some (b0, t0)) = t0 := rfl
          have eb2 : ¬ (b0 : Int) < 0 := by omega
          have hbi : (b0 : Int) < (p.jobs.length : Int) := by omega
          have hdl := hPD.dnl
          have HPL := hide (show b0 < D.on.length by rw [hPD.onl]; exact hjl)
          have HH := hide (And.intro h1 (And.intro h2 (And.intro h3 hpp)))
          have HVC := hide hcn2
          have HDL := hide (show b0 < (ints dn).size by rw [ints_size, hdl]; exact hjl)
          have HIT2 : Hid (iterS p (gk - 1) (putS p S b0 t0) = iterS p (total p) (ds0 p)) := by
            show _ = _
            have := HCN.out
            rw [← HIT.out, show gk = (gk - 1) + 1 by omega, iterS_some HBF.out]; rfl
          have HCN2 : Hid (gk - 1 + cnt (putS p S b0 t0).pl = total p) := by show _ = _; have := HCN.out; rw [hcn2]; omega
          have hgk := hide (show gk - 1 < gk by have := HCN.out; omega)
          clear h1 h2 h3 hpp hcn2 hdl
          have c0 := hk.cell_ 0 rfl
          have c1 := hk.cell_ 1 rfl
          have c2 := hk.cell_ 2 rfl
          have c3 := hk.cell_ 3 rfl
          have c4 := hk.cell_ 4 rfl
          have c5 := hk.cell_ 5 rfl
          go_wp2_with fail
          refine (put_any B0 g mb bo bp brs ⟨p, aH, cH, aS, cS, aJ, cJ⟩ D b0 l.length t0 st x _ _ (hS.on hB) hD HH.out.1 HH.out.2.2.1 HH.out.2.2.2 (by simp; omega) HPL.out h5 (by omega) hfit (by show p.jobs.length ≤ _; omega) (by omega)).mono ?_
          rintro e W2 ⟨rfl, hD2, hC⟩
          have hdn2 := hdn.chg hC HDB.out
          have hk2 := hk.chg hC (hD.notOf (.inl hB0))
          have hB2 := hB.trans (hC.to_below hB.size fun q hq => hD.notOf (.inl (by omega)))
          clear hD hdn hk hB hC dnb c0 c1 c2 c3 c4 c5
          have dnb := hdn2.cell_ b0 (ints_get (hPD.dn b0 st l HH.out.1 HH.out.2.1))
          go_wp2_with (refine wpList_store_at rfl 3 _ _ rfl (.int .i64 ((l.length : Int) + 1)) hdn2 rfl rfl (by kernel_rfl) rfl HDL.out rfl ?_; intro W3 hdn3 hc3)
          rw [ints_set] at hdn3
          have hD3 := hD2.chg hc3 (fun q hq he => HDN.out q hq he)
          go_roundg (gk - 1)
          case measure => exact hgk.out
          case rel => exact ⟨putS p S b0 t0, _, _, HIT2, HCN2, hVS2, hPD2, hD3, hdn3, hk2.chg1 hc3 (by omega), hB2.trans (hc3.below1 hB2.size dbge)⟩
end Go.Proofs.Ytcpnfcnobnjhdaa

/- Pull of package shop: the walk. -/
namespace Go.Proofs.Ytcpnfcnobnjhdaa
open Go Go.Sort Go.RowKit StabAt
structure DR (p : Shop) (R : List At) (D : Desk) : Prop where
  last : ∀ m, look D.last m = lastP (onB m) R
  onl : D.on.length = p.jobs.length
  on : ∀ j, j < p.jobs.length → D.on[j]? = some (rdyR R j)
  plan : D.plan = planR p R
theorem rdyR_snoc (R : List At) (a : At) (j : Nat) : rdyR (R ++ [a]) j = if a.j = j then a.dry else rdyR R j := by
  unfold rdyR
  rw [lastP_snoc]
  by_cases h : a.j = j <;> simp [ofJ, h]
theorem tOf_nil (j k : Nat) : tOf [] j k = 0 := rfl
theorem tOf_snoc {R : List At} {a : At} (h : ∀ b ∈ R, b.j = a.j → b.k ≠ a.k) (j k : Nat) : tOf (R ++ [a]) j k = if j = a.j ∧ k = a.k then a.t else tOf R j k := by
  unfold tOf
  rw [List.find?_append]
  by_cases hjk : j = a.j ∧ k = a.k
  · obtain ⟨rfl, rfl⟩ := hjk
    have : R.find? (fun b => decide (b.j = a.j) && decide (b.k = a.k)) = none := by
      rw [List.find?_eq_none]
      intro b hb
      simp only [Bool.and_eq_true, decide_eq_true_eq, not_and]
      exact h b hb
    rw [this]
    simp
  · rw [if_neg hjk]
    have : ([a].find? fun b => decide (b.j = j) && decide (b.k = k)) = none := by
      rw [List.find?_eq_none]
      intro b hb
      simp at hb
      subst hb
      simp only [Bool.and_eq_true, decide_eq_true_eq]
      exact fun h => hjk ⟨h.1.symm, h.2.symm⟩
    rw [this, Option.or_none]
theorem DR.start (p : Shop) : DR p [] (desk0 p) := by
  refine ⟨fun m => rfl, by simp [desk0], fun j hj => by simp [desk0, List.getElem?_replicate, hj, rdyR, lastP_nil], ?_⟩
  unfold desk0 planR
  apply List.ext_getElem?
  intro i
  simp only [List.getElem?_map, List.getElem?_zipIdx]
  cases h : p.jobs[i]? with
  | none => rfl
  | some s =>
    simp only [Option.map_some, tOf_nil]
    congr 1
    apply List.ext_getElem?
    intro k
    simp only [List.getElem?_replicate, List.getElem?_map, List.getElem?_range']
    by_cases hk : k < s.length
    · rw [if_pos hk, List.getElem?_range hk]; rfl
    · rw [if_neg hk, List.getElem?_eq_none (by simp; omega)]; rfl
theorem DR.put_ {p : Shop} {R : List At} {D : Desk} (h : DR p R D) {a : At} {s : List Step} (hs : p.jobs[a.j]? = some s) (hk : a.k < s.length) (hn : ∀ b ∈ R, b.j = a.j → b.k ≠ a.k) : DR p (R ++ [a]) (D.put a) := by
  have hj := (List.getElem?_eq_some_iff.1 hs).1
  refine ⟨fun m => ?_, by simpa [Desk.put] using h.onl, fun j hjl => ?_, ?_⟩
  · show look (Go.Proofs.Ytcpnfcnobnjhdaa.put D.last a.x.m a) m = _
    rw [look_put, lastP_snoc, h.last]
    by_cases hm : m = a.x.m
    · subst hm; simp [onB]
    · rw [if_neg hm, if_neg (by simp only [onB, decide_eq_true_eq]; exact fun h => hm h.symm)]
  · show (D.on.set a.j a.dry)[j]? = _
    rw [rdyR_snoc, List.getElem?_set]
    by_cases hja : a.j = j
    · rw [if_pos hja, if_pos (by rw [h.onl]; exact hj), if_pos hja]
    · rw [if_neg hja, if_neg hja]; exact h.on j hjl
  · show D.plan.modify a.j (fun l => l.set a.k a.t) = _
    rw [h.plan]
    apply List.ext_getElem?
    intro i
    rw [List.getElem?_modify]
    cases hi : p.jobs[i]? with
    | none =>
      have h1 : (planR p R)[i]? = none := List.getElem?_eq_none (by rw [planR_len]; exact List.getElem?_eq_none_iff.1 hi)
      have h2 : (planR p (R ++ [a]))[i]? = none := List.getElem?_eq_none (by rw [planR_len]; exact List.getElem?_eq_none_iff.1 hi)
      rw [h1, h2]; rfl
    | some s' =>
      rw [planR_row hi, planR_row hi]
      simp only [Option.map_eq_map, Option.map_some]
      congr 1
      by_cases hai : a.j = i
      · subst hai
        rw [hs] at hi
        injection hi with hi
        subst hi
        simp only [if_true]
        apply List.ext_getElem?
        intro k
        rw [List.getElem?_set, List.getElem?_map, List.getElem?_map]
        by_cases hak : a.k = k
        · subst hak
          rw [if_pos rfl, if_pos (by simpa using hk), List.getElem?_range hk]
          simp [tOf_snoc hn]
        · rw [if_neg hak]
          by_cases hkl : k < s.length
          · rw [List.getElem?_range hkl]
            simp only [Option.map_some, tOf_snoc hn]
            rw [if_neg (fun h => hak h.2.symm)]
          · rw [List.getElem?_eq_none (by simp; omega)]; rfl
      · simp only [if_neg hai, id]
        apply List.map_congr_left
        intro k _
        rw [tOf_snoc hn, if_neg (fun h => hai h.1.symm)]
theorem DR.earl {p : Shop} {R : List At} {D : Desk} (h : DR p R D) {a : At} (hj : a.j < p.jobs.length) : earlF p D a.j a.x = startF p R a := by
  have h1 : D.on.getD a.j 0 = rdyR R a.j := by rw [List.getD_eq_getElem?_getD, h.on a.j hj]; rfl
  unfold earlF startF fromR
  rw [h.last, h1]
  cases lastP (onB a.x.m) R <;> rfl
theorem Slc.chg_ {α : Type} {enc : α → List Value} {sz : Nat} {w w' : World} {B : Nat} {A : Option Addr} {xs : List α} {S : Nat → Prop} (h : Slc enc sz w B A xs) (hc : Chg S w w') (hB : B ≤ w.heap.size) (hS : ∀ k, k < B → ¬ S k) : Slc enc sz w' B A xs :=
  h.keep fun p hp => World.cell?_of_block (hc.block _ (Nat.lt_of_lt_of_le hp hB) (hS _ hp))
theorem Placed.fit {p : Shop} (hv : VShop p) {R : List At} (hq : SeqOk p R) (h : Placed p R) {b : At} (hb : b ∈ R) : AtFit p b := by
  obtain ⟨i, hi⟩ := List.getElem?_of_mem hb
  have h1 := (h i b hi).2
  have h2 := hq.step hv hb
  have v1 := hv.op0
  have v2 := hv.cl
  exact ⟨h1.1, by omega, by omega, by omega, by omega, by omega, by omega, by omega⟩
theorem rdyR_le {p : Shop} (hv : VShop p) {R : List At} (hq : SeqOk p R) (h : Placed p R) (i j : Nat) : rdyR (R.take i) j ≤ 1000000000 := by
  unfold rdyR
  cases hl : lastP (ofJ j) (R.take i) with
  | none => show (0 : Int) ≤ _; omega
  | some b =>
    obtain ⟨i', h1, _, _⟩ := lastP_some hl
    obtain ⟨_, h1⟩ := take_get h1
    have h2 := h i' b h1
    have h3 := (Placed.fit hv hq h (List.mem_of_getElem? h1))
    have := h3.mi1
    have := h3.d1
    show b.t + b.x.mi + b.x.d ≤ _
    omega
noncomputable def pullV (p : Shop) (pl : List (List Int)) : List (List Int) := if (judgeF p pl).2.2 = 0 then pullF p pl else []
def PullPost (p : Shop) (pl : List (List Int)) (w : World) (e : Ending) (w' : World) : Prop := ∃ A c, e = .returned (.tuple #[.slice A (pullV p pl).length c, .int .i64 (judgeF p pl).2.2]) ∧ Below w.heap.size w w' ∧ Plan w' w'.heap.size A (pullV p pl)
set_option maxRecDepth 100000 in
set_option maxHeartbeats 4000000 in
theorem pull_any (s : Sh) (A : Option Addr) (c : Nat) (pl : List (List Int)) (w : World) (hS : ShAt w w.heap.size s) (hvB : validShop s.p = true) (hP : Plan w w.heap.size A pl) (hf : PFits pl) :
    Calls Try.prog 44 #[.agg #[.int .i64 s.p.op, .int .i64 s.p.cl, .slice s.aH s.p.hol.length s.cH, .int .i64 s.p.mach, .slice s.aS s.p.setup.length s.cS, .slice s.aJ s.p.jobs.length s.cJ], .slice A pl.length c] w (PullPost s.p pl w) := by
  have hv := valid_facts hvB
  have hjn := hv.jobn
  have hk := Blk.new w 25 #[.int .i64 s.p.op, .int .i64 s.p.cl, .slice s.aH s.p.hol.length s.cH, .int .i64 s.p.mach, .slice s.aS s.p.setup.length s.cS, .slice s.aJ s.p.jobs.length s.cJ]
  have hB := (Below.refl w.heap.size w).alloc (Nat.le_refl _) (.cells #[.int .i64 s.p.op, .int .i64 s.p.cl, .slice s.aH s.p.hol.length s.cH, .int .i64 s.p.mach, .slice s.aS s.p.setup.length s.cS, .slice s.aJ s.p.jobs.length s.cJ] 25)
  go_enter Try.func44, Try.ntmps44
  go_wp2_with fail
  generalize w.alloc (.cells #[.int .i64 s.p.op, .int .i64 s.p.cl, .slice s.aH s.p.hol.length s.cH, .int .i64 s.p.mach, .slice s.aS s.p.setup.length s.cS, .slice s.aJ s.p.jobs.length s.cJ] 25) = W at *
  have c0 := hk.cell_ 0 rfl
  have c1 := hk.cell_ 1 rfl
  have c2 := hk.cell_ 2 rfl
  have c3 := hk.cell_ 3 rfl
  have c4 := hk.cell_ 4 rfl
  have c5 := hk.cell_ 5 rfl
  go_wp2_with fail
  refine (right_any s A c pl _ (hS.on hB) hvB (hP.on hB) hf).mono ?_
  rintro e W2 hR
  obtain ⟨AL, cL, rfl, hb, hL⟩ := hR.form
  have hk' := hk.below hb hk.lt
  replace hB := hB.trans (hb.mono hB.size)
  clear hb hR hk c0 c1 c2 c3 c4 c5
  have hk := hk'
  clear hk'
  obtain ⟨W, rfl⟩ : ∃ W : World, W = W2 := ⟨_, rfl⟩
  have c0 := hk.cell_ 0 rfl
  have c1 := hk.cell_ 1 rfl
  have c2 := hk.cell_ 2 rfl
  have c3 := hk.cell_ 3 rfl
  have c4 := hk.cell_ 4 rfl
  have c5 := hk.cell_ 5 rfl
  by_cases hz : (judgeF s.p pl).2.2 = 0
  · have hV : pullV s.p pl = pullF s.p pl := by unfold pullV; rw [if_pos hz]
    have HV := hide hV
    have HLN := hide (line_of hv (right_of hz))
    have hrl : rightL s.p pl = sortA (ats s.p pl) := by unfold rightL; rw [if_pos hz]
    have hPF : Hid (pullF s.p pl = planR s.p (pullL s.p [] (sortA (ats s.p pl)))) := rfl
    rw [hrl] at hL ⊢
    rw [hz]
    have HZ := hide hz
    have hll : (sortA (ats s.p pl)).length ≤ 96 := by
      have h1 := ats_len s.p pl
      have h2 := ents_len hv
      rw [sortA_len]; omega
    clear hV hrl hz
    generalize sortA (ats s.p pl) = L at *
    obtain ⟨base, hbase⟩ : ∃ n, n = W.heap.size := ⟨_, rfl⟩
    have hwb : w.heap.size ≤ base := by rw [hbase]; exact hB.size
    rw [← hbase] at hL
    have hz : base ≤ W.heap.size := Nat.le_of_eq hbase
    have lk0 := hk.lt
    go_wp2_with fail
    refine (newDesk_any s _ (hS.on hB) hv).mono ?_
    rintro e W ⟨g, mb, bo, bp, brs, rfl, hb, hD⟩
    clear c0 c1 c2 c3 c4 c5
    replace hk := hk.below hb hk.lt
    replace hL := hL.below (hb.mono (by omega))
    replace hz := Nat.le_trans hz hb.size
    replace hB := hB.trans (hb.mono hB.size)
    clear hb
    have c0 := hk.cell_ 0 rfl
    have c1 := hk.cell_ 1 rfl
    have c2 := hk.cell_ 2 rfl
    have c3 := hk.cell_ 3 rfl
    have c4 := hk.cell_ 4 rfl
    have c5 := hk.cell_ 5 rfl
    rw [← hbase] at hD
    clear hbase
    have HRQ := hide ((pull_alike s.p L).seq HLN.out.seq)
    have HRP := hide (pull_placed hv HLN.out)
    have HRA := hide (pull_alike s.p L)
    have HRG := hide (fun (i : Nat) (a : At) (h : L[i]? = some a) => pullL_get (p := s.p) L [] i a h)
    obtain ⟨R, hR⟩ : ∃ R, pullL s.p [] L = R := ⟨_, rfl⟩
    rw [hR] at HRQ HRP HRA HRG hPF
    clear hR
    have hRl : R.length = L.length := HRA.out.1
    clear c0 c1 c2 c3 c4 c5
    clear hk lk0
    go_wp2_with fail
    go_loopw [24] (fun y W => ∃ (i : Nat) (D : Desk), y = .int .i64 i ∧ i ≤ L.length ∧ DR s.p (R.take i) D ∧ Slc At.enc 7 W base AL L ∧ DeskAt base W g mb bo bp brs s D ∧ base ≤ W.heap.size ∧ Below w.heap.size w W) (fun y _ => L.length - (intOf y).toNat)
    case atStart => exact ⟨0, desk0 s.p, rfl, Nat.zero_le _, DR.start s.p, hL, hD, hz, hB⟩
    case round =>
      clear hL hD hz hB
      obtain ⟨W, rfl⟩ : ∃ W : World, W = wr := ⟨_, rfl⟩
      obtain ⟨i, D, rfl, hi, hDR, hL, hD, hz, hB⟩ := hrel
      by_cases hlt : i < L.length
      · obtain ⟨a, ha⟩ : ∃ a, L[i]? = some a := ⟨_, List.getElem?_eq_getElem hlt⟩
        obtain ⟨b, off, hA, hb0, d0, d1, d2, d3, d4, d5, d6⟩ := at7 hL ha
        have HG : Hid (R[i]? = some ⟨a.j, a.k, startF s.p (R.take i) a, a.x⟩) := HRG.out i a ha
        have hj := HLN.out.seq.ok a (List.mem_of_getElem? ha)
        obtain ⟨st, hj1, hj2⟩ := hj
        have HJ := hide (And.intro hj1 hj2)
        have hjl := (List.getElem?_eq_some_iff.1 hj1).1
        have hkl := (List.getElem?_eq_some_iff.1 hj2).1
        have hbn := (HRP.out i _ HG.out).2
        dsimp only at hbn
        obtain ⟨t0, ht0⟩ : ∃ t, startF s.p (R.take i) a = t := ⟨_, rfl⟩
        rw [ht0] at HG hbn
        have HEF := hide (show earlF s.p D a.j a.x = t0 by rw [hDR.earl hjl]; exact ht0)
        have HON := hide (hDR.on a.j hjl)
        have r1 := rdyR_ge hv HRQ.out HRP.out i a.j
        have r2 := rdyR_le hv HRQ.out HRP.out i a.j
        have HLF := hide (fun c (hc : look D.last a.x.m = some c) => show AtFit s.p c by
          rw [hDR.last] at hc
          obtain ⟨i', h1, _, _⟩ := lastP_some hc
          exact Placed.fit hv HRQ.out HRP.out (List.mem_of_getElem? (take_get h1).2))
        have hfit := Placed.fit hv HRQ.out HRP.out (List.mem_of_getElem? HG.out)
        obtain ⟨m0, m1, x1, x2, _, _, _, _⟩ := HLN.out.seq.step hv (List.mem_of_getElem? ha)
        have hpl : D.plan[a.j]? = some ((List.range st.length).map fun k => tOf (R.take i) a.j k) := by rw [hDR.plan]; exact planR_row hj1
        have HPL := hide hpl
        have hDR2 := hDR.put_ (a := ⟨a.j, a.k, t0, a.x⟩) (s := st) hj1 hkl (fun c hc hcj => by
          obtain ⟨i', h1⟩ := List.getElem?_of_mem hc
          obtain ⟨h2, h3⟩ := take_get h1
          have := pair_get HRQ.out.asc h2 h3 HG.out hcj
          have h4 : c.k < a.k := this
          exact Nat.ne_of_lt h4)
        rw [show R.take i ++ [(⟨a.j, a.k, t0, a.x⟩ : At)] = R.take (i + 1) by rw [List.take_add_one, HG.out]; rfl] at hDR2
        have honl : a.j < D.on.length := by rw [hDR.onl]; exact hjl
        have hs8 := (hv.steps a.j st hj1).1
        clear ha hj1 hj2 ht0 hpl
        subst hA
        have hij : (i : Int) < (L.length : Int) := by omega
        go_wp2_with fail
        have hx := Blk.new W 91 #[.int .i64 a.j, .int .i64 a.k, .int .i64 a.t, .int .i64 a.x.m, .int .i64 a.x.mi, .int .i64 a.x.c, .int .i64 a.x.d]
        replace hL := hL.below (((Below.refl _ W).alloc (Nat.le_refl _) (.cells #[.int .i64 a.j, .int .i64 a.k, .int .i64 a.t, .int .i64 a.x.m, .int .i64 a.x.mi, .int .i64 a.x.c, .int .i64 a.x.d] 91)).mono (by omega))
        replace hD := hD.below ((Below.refl _ W).alloc (Nat.le_refl _) (.cells #[.int .i64 a.j, .int .i64 a.k, .int .i64 a.t, .int .i64 a.x.m, .int .i64 a.x.mi, .int .i64 a.x.c, .int .i64 a.x.d] 91))
        replace hz := Nat.le_trans hz ((Below.refl _ W).alloc (Nat.le_refl _) (.cells #[.int .i64 a.j, .int .i64 a.k, .int .i64 a.t, .int .i64 a.x.m, .int .i64 a.x.mi, .int .i64 a.x.c, .int .i64 a.x.d] 91)).size
        replace hB := hB.alloc hB.size (.cells #[.int .i64 a.j, .int .i64 a.k, .int .i64 a.t, .int .i64 a.x.m, .int .i64 a.x.mi, .int .i64 a.x.c, .int .i64 a.x.d] 91)
        generalize W.alloc (.cells #[.int .i64 a.j, .int .i64 a.k, .int .i64 a.t, .int .i64 a.x.m, .int .i64 a.x.mi, .int .i64 a.x.c, .int .i64 a.x.d] 91) = W at *
        have a0 := hx.cell_ 0 rfl
        have a1 := hx.cell_ 1 rfl
        have a2 := hx.cell_ 2 rfl
        have a3 := hx.cell_ 3 rfl
        have a4 := hx.cell_ 4 rfl
        have a5 := hx.cell_ 5 rfl
        have a6 := hx.cell_ 6 rfl
        clear d0 d1 d2 d3 d4 d5 d6
        have HSW := hS.on hB
        go_wp2_with fail
        refine wp_region_quiet_tail (C := fun w' => ∃ u : Since W, w' = u.w) 11 (by kernel_rfl) (by kernel_rfl) (Since.start W) ?_
        simp only [List.take_succ_cons, List.take_zero, List.drop_succ_cons, List.drop_zero]
        have y_a0 := Since.cell a0
        have y_a1 := Since.cell a1
        have y_a2 := Since.cell a2
        have y_a3 := Since.cell a3
        have y_a4 := Since.cell a4
        have y_a5 := Since.cell a5
        have y_a6 := Since.cell a6
        clear a0 a1 a2 a3 a4 a5 a6
        repeat (go_big_quiet_step ((go_at_call 61; exact Since.calls (earliest_is base g mb bo bp brs s D a.j a.x _ t0 _ (HSW.on (Since.h _)) hv (hD.below (Since.h _)) HON.out r1 r2 HLF.out x1 x2 HEF.out))))
        refine wpQuiet_nil ?_
        rintro W ⟨⟨_, hb⟩, rfl⟩
        try dsimp only at hb ⊢
        clear y_a0 y_a1 y_a2 y_a3 y_a4 y_a5 y_a6
        replace hL := hL.below (hb.mono (by omega))
        replace hD := hD.below hb
        replace hz := Nat.le_trans hz hb.size
        replace hx := hx.below hb hx.lt
        replace hB := hB.trans (hb.mono hB.size)
        clear hb
        have a0 := hx.cell_ 0 rfl
        have a1 := hx.cell_ 1 rfl
        have a2 := hx.cell_ 2 rfl
        have a3 := hx.cell_ 3 rfl
        have a4 := hx.cell_ 4 rfl
        have a5 := hx.cell_ 5 rfl
        have a6 := hx.cell_ 6 rfl
        go_wp2_with fail
        refine (put_any base g mb bo bp brs s D a.j a.k t0 st a.x _ _ (hS.on hB) hD HJ.out.1 HJ.out.2 HPL.out (by simp; omega) honl hbn.1 (by omega) hfit (by omega) (by omega)).mono ?_
        rintro e W2 ⟨rfl, hD2, hC⟩
        have hL2 := hL.chg_ hC hz (fun k hk' => hD.notOf (.inl hk'))
        have hz2 := Nat.le_trans hz hC.size
        have hB2 := hB.trans (hC.to_below hB.size fun q hq => hD.notOf (.inl (by omega)))
        clear hL hz hB hD hC hx a0 a1 a2 a3 a4 a5 a6
        go_wp2_with fail
        go_roundw
        case rel => exact ⟨i + 1, _, by go_num, by omega, hDR2, hL2, hD2, hz2, hB2⟩
        case measure => simp [intOf]; omega
      · obtain rfl : i = L.length := by omega
        have HFIN : Hid (pullV s.p pl = D.plan) := by
          show _ = _
          rw [HV.out, hPF.out, hDR.plan, ← hRl, List.take_length]
        have g8 := hD.blk.cell_ 8 rfl
        go_wp2_with fail
        go_ret2
        exact ⟨some ⟨bp, 0, none⟩, D.plan.length, by rw [HFIN.out, HZ.out]; rfl, hB, by rw [HFIN.out]; exact hD.plan_⟩
  · have hzb : ((judgeF s.p pl).2.2 != 0) = true := by simpa using hz
    have HV := hide (show pullV s.p pl = [] by unfold pullV; rw [if_neg hz])
    clear hz
    go_wp2_with fail
    go_ret2
    exact ⟨none, 0, by rw [HV.out]; rfl, hB, by rw [HV.out]; exact Nest.nil_⟩
end Go.Proofs.Ytcpnfcnobnjhdaa

/- The reference's Pull: the plain law: what its rounds do, and where they stop. -/
namespace Go.Proofs.Ytcpnfcnobnjhdaa
open Go Go.Sort Go.RowKit StabAt
def key (a : At) : Nat × Nat × Step := (a.j, a.k, a.x)
theorem key_eq {a b : At} : key a = key b ↔ a.j = b.j ∧ a.k = b.k ∧ a.x = b.x := by simp [key]
theorem Alike.keys {l R : List At} (h : Alike l R) : l.map key = R.map key := by
  apply List.ext_getElem?
  intro i
  rw [List.getElem?_map, List.getElem?_map]
  cases hl : l[i]? with
  | none =>
    have : R[i]? = none := List.getElem?_eq_none (by rw [h.1]; exact List.getElem?_eq_none_iff.1 hl)
    rw [this]
  | some a =>
    obtain ⟨b, hb, e1, e2, e3⟩ := h.got hl
    rw [hb]
    simp only [Option.map_some]
    rw [key_eq.2 ⟨e1.symm, e2.symm, e3.symm⟩]
theorem filter_keys {m : Int} : ∀ {l R : List At}, l.map key = R.map key → (l.filter (onB m)).map key = (R.filter (onB m)).map key
  | [], [], _ => rfl
  | [], _ :: _, h => by simp at h
  | _ :: _, [], h => by simp at h
  | a :: l, b :: R, h => by
    simp only [List.map_cons, List.cons.injEq] at h
    have ih := filter_keys (m := m) h.2
    have hx := (key_eq.1 h.1).2.2
    have hm : onB m a = onB m b := by unfold onB; rw [hx]
    by_cases hb : onB m b = true
    · rw [List.filter_cons_of_pos (by rw [hm]; exact hb), List.filter_cons_of_pos hb, List.map_cons, List.map_cons, ih, h.1]
    · rw [List.filter_cons_of_neg (by rw [hm]; exact hb), List.filter_cons_of_neg hb, ih]
theorem keys_get {l R : List At} (h : l.map key = R.map key) {n : Nat} {a : At} (ha : l[n]? = some a) : ∃ b, R[n]? = some b ∧ b.j = a.j ∧ b.k = a.k ∧ b.x = a.x := by
  have h1 : (R.map key)[n]? = some (key a) := by rw [← h, List.getElem?_map, ha]; rfl
  rw [List.getElem?_map] at h1
  cases hb : R[n]? with
  | none => rw [hb] at h1; cases h1
  | some b =>
    rw [hb] at h1
    simp only [Option.map_some, Option.some.injEq] at h1
    exact ⟨b, rfl, key_eq.1 h1⟩
/-- the earliest start that a plan O lets a step have -/
def rdyO (p : Shop) (O : List (List Int)) (a : At) : Int := match a.k with
  | 0 => 0
  | k + 1 => planAt O a.j k + (stepAt p a.j k).mi + (stepAt p a.j k).d
def atO (O : List (List Int)) (b : At) : At := ⟨b.j, b.k, planAt O b.j b.k, b.x⟩
noncomputable def prevO (p : Shop) (O : List (List Int)) (M : List At) (n : Nat) (a : At) : Int := match n with
  | 0 => rdyO p O a
  | k + 1 => match M[k]? with
    | some b => max (rdyO p O a) (roomF p (atO O b) a.x.c)
    | none => rdyO p O a
noncomputable def refT (p : Shop) (O : List (List Int)) (M : List At) (n : Nat) (a : At) : Int := nextF p (prevO p O M n a) a.x.mi
theorem prevO_key {p : Shop} {O : List (List Int)} {M M' : List At} (h : M.map key = M'.map key) {a b : At} (hj : b.j = a.j) (hk : b.k = a.k) (hx : b.x = a.x) (n : Nat) : prevO p O M n a = prevO p O M' n b := by
  have hr : rdyO p O a = rdyO p O b := by unfold rdyO; rw [hj, hk]
  unfold prevO
  cases n with
  | zero => exact hr
  | succ k =>
    simp only
    cases hM : M[k]? with
    | none =>
      have : M'[k]? = none := by
        have h1 := congrArg List.length h
        simp at h1
        exact List.getElem?_eq_none (by rw [← h1]; exact List.getElem?_eq_none_iff.1 hM)
      rw [this]; exact hr
    | some c =>
      obtain ⟨d, hd, e1, e2, e3⟩ := keys_get h hM
      rw [hd]
      simp only
      rw [hr, hx, show atO O d = atO O c by unfold atO; rw [e1, e2, e3]]
theorem refT_key {p : Shop} {O : List (List Int)} {M M' : List At} (h : M.map key = M'.map key) {a b : At} (hj : b.j = a.j) (hk : b.k = a.k) (hx : b.x = a.x) (n : Nat) : refT p O M n a = refT p O M' n b := by
  unfold refT
  rw [prevO_key h hj hk hx, hx]
def prevI (M : List At) : Nat → Option At
  | 0 => none
  | k + 1 => M[k]?
theorem lastP_prev {M l : List At} {f : At → Bool} {n : Nat} {b : At} (h : l.filter f = M.take n) (hn : M[n]? = some b) : lastP f l = prevI M n := by
  unfold lastP
  rw [h, getLast_take hn]
  cases n <;> rfl
/-- the reference's plan while it grows -/
structure OutOk (p : Shop) (R : List At) (O : List (List Int)) : Prop where
  len : O.length = p.jobs.length
  row : ∀ (j : Nat) s l, p.jobs[j]? = some s → O[j]? = some l → l.length = s.length
  bd : ∀ b ∈ R, 0 ≤ planAt O b.j b.k ∧ planAt O b.j b.k ≤ b.t
theorem stepAt_eq {p : Shop} {j k : Nat} {s : List Step} {x : Step} (hj : p.jobs[j]? = some s) (hk : s[k]? = some x) : stepAt p j k = x := by
  unfold stepAt
  simp [List.getD_eq_getElem?_getD, hj, hk]
section
variable {p : Shop} {R : List At} {O : List (List Int)}
theorem OutOk.rdy (hv : VShop p) (hq : SeqOk p R) (h : OutOk p R O) {i : Nat} {b : At} (hb : R[i]? = some b) : 0 ≤ rdyO p O b ∧ rdyO p O b ≤ rdyR (R.take i) b.j := by
  unfold rdyO rdyR
  rcases hq.prev hb with ⟨h1, h2⟩ | ⟨k, h1, i', c, h2, h3, h4, h5, h6⟩
  · rw [h1, h2]; exact ⟨Int.le_refl _, Int.le_refl _⟩
  · rw [h1, h6]
    simp only
    have hm := List.mem_of_getElem? h3
    obtain ⟨s, g1, g2⟩ := hq.ok c hm
    have h7 := h.bd c hm
    have h8 := hq.step hv hm
    rw [h4] at g1 h7
    rw [h5] at g2 h7
    rw [stepAt_eq g1 g2]
    unfold At.dry
    omega
theorem OutOk.prev (hv : VShop p) (hq : SeqOk p R) (h : OutOk p R O) {m : Int} {n i : Nat} {b : At} (hb : R[i]? = some b) (hm : b.x.m = m) (hn : (R.filter (onB m))[n]? = some b) (ht : (R.take i).filter (onB m) = (R.filter (onB m)).take n) :
    0 ≤ prevO p O (R.filter (onB m)) n b ∧ prevO p O (R.filter (onB m)) n b ≤ fromR p (R.take i) b := by
  have h1 := h.rdy hv hq hb
  have h2 : lastP (onB b.x.m) (R.take i) = prevI (R.filter (onB m)) n := by rw [hm]; exact lastP_prev ht hn
  unfold prevO fromR
  rw [h2]
  cases n with
  | zero => exact h1
  | succ k =>
    simp only [prevI]
    cases hc : (R.filter (onB m))[k]? with
    | none => exact h1
    | some c =>
      simp only
      have hcm := List.mem_filter.1 (List.mem_of_getElem? hc)
      have h3 := (h.bd c hcm.1).2
      have h4 := room_mono (p := p) (a := atO O c) (b := c) (c := b.x.c) h3 rfl
      omega
/-- no round goes beyond the plan that was put step by step -/
theorem refT_le (hv : VShop p) (hq : SeqOk p R) (hp : Placed p R) (h : OutOk p R O) {m : Int} {n : Nat} {b : At} (hn : (R.filter (onB m))[n]? = some b) :
    0 ≤ prevO p O (R.filter (onB m)) n b ∧ prevO p O (R.filter (onB m)) n b ≤ 100000000 ∧ 0 ≤ refT p O (R.filter (onB m)) n b ∧ refT p O (R.filter (onB m)) n b ≤ b.t ∧ b ∈ R := by
  obtain ⟨i, hi, hf, ht⟩ := filter_from hn
  have hm : b.x.m = m := by simpa [onB] using hf
  have h1 := h.prev hv hq hi hm hn ht
  have h2 := (hp i b hi)
  have h3 := start_ge hv hq hp hi
  have h4 := hq.step hv (List.mem_of_getElem? hi)
  have h5 := next_mono hv h1.1 h1.2 h4.2.2.2.1
  have h6 := next_ge hv h1.1 h4.2.2.2.1
  have h7 : b.t = nextF p (fromR p (R.take i) b) b.x.mi := h2.1
  refine ⟨h1.1, by omega, ?_, ?_, List.mem_of_getElem? hi⟩
  · unfold refT; omega
  · unfold refT; omega
/-- where nothing is raised any more the plan is the one that was put step by step -/
theorem refT_done (hv : VShop p) (hq : SeqOk p R) (hp : Placed p R) (h : OutOk p R O) (hd : ∀ m : Nat, (m : Int) < p.mach → ∀ (n : Nat) b, (R.filter (onB m))[n]? = some b → refT p O (R.filter (onB m)) n b ≤ planAt O b.j b.k) : ∀ (i : Nat) (b : At), R[i]? = some b → planAt O b.j b.k = b.t := by
  intro i
  induction i using Nat.strongRecOn with
  | _ i ih =>
    intro b hb
    have hs := hq.step hv (List.mem_of_getElem? hb)
    obtain ⟨n, hn, ht⟩ := filter_place (f := onB b.x.m) hb (by simp [onB])
    have h1 := hd b.x.m.toNat (by omega) n b (by rw [show ((b.x.m.toNat : Nat) : Int) = b.x.m by omega]; exact hn)
    rw [show ((b.x.m.toNat : Nat) : Int) = b.x.m by omega] at h1
    have h2 := (h.bd b (List.mem_of_getElem? hb)).2
    have hr : rdyO p O b = rdyR (R.take i) b.j := by
      unfold rdyO rdyR
      rcases hq.prev hb with ⟨g1, g2⟩ | ⟨k, g1, i', c, g2, g3, g4, g5, g6⟩
      · rw [g1, g2]
      · rw [g1, g6]
        simp only
        obtain ⟨s, q1, q2⟩ := hq.ok c (List.mem_of_getElem? g3)
        have g7 := ih i' g2 c g3
        rw [g4] at q1 g7
        rw [g5] at q2 g7
        rw [stepAt_eq q1 q2, g7]
        rfl
    have hl : lastP (onB b.x.m) (R.take i) = prevI (R.filter (onB b.x.m)) n := lastP_prev ht hn
    have hpf : prevO p O (R.filter (onB b.x.m)) n b = fromR p (R.take i) b := by
      unfold prevO fromR
      rw [hl]
      cases n with
      | zero => exact hr
      | succ k =>
        simp only [prevI]
        cases hc : (R.filter (onB b.x.m))[k]? with
        | none => exact hr
        | some c =>
          simp only
          have hc2 : lastP (onB b.x.m) (R.take i) = some c := by rw [hl]; exact hc
          obtain ⟨i', g1, g2, _⟩ := lastP_some hc2
          obtain ⟨g3, g4⟩ := take_get g1
          have g5 := ih i' g3 c g4
          rw [hr, show atO O c = c by unfold atO; rw [g5]]
    have h3 : refT p O (R.filter (onB b.x.m)) n b = b.t := by
      unfold refT
      rw [hpf]
      exact (hp i b hb).1.symm
    omega
theorem OutOk.eq (hv : VShop p) (hq : SeqOk p R) (h : OutOk p R O) (he : ∀ (i : Nat) (b : At), R[i]? = some b → planAt O b.j b.k = b.t) : O = planR p R := by
  apply List.ext_getElem?
  intro j
  by_cases hj : j < p.jobs.length
  · have hs : p.jobs[j]? = some p.jobs[j] := List.getElem?_eq_getElem hj
    have hO : O[j]? = some (O[j]'(by rw [h.len]; exact hj)) := List.getElem?_eq_getElem _
    rw [planR_row hs, hO]
    congr 1
    have hl := h.row j _ _ hs hO
    apply List.ext_getElem?
    intro k
    by_cases hk : k < p.jobs[j].length
    · have hx : p.jobs[j][k]? = some p.jobs[j][k] := List.getElem?_eq_getElem hk
      obtain ⟨b, hb, rfl, rfl⟩ := hq.all j k _ _ hs hx
      obtain ⟨i, hi⟩ := List.getElem?_of_mem hb
      have h1 := he i b hi
      have hok : (O[b.j]'(by rw [h.len]; exact hj))[b.k]? = some ((O[b.j]'(by rw [h.len]; exact hj))[b.k]'(by rw [hl]; exact hk)) := List.getElem?_eq_getElem _
      rw [planAt_eq hO hok] at h1
      rw [hok, h1, List.getElem?_map, List.getElem?_range hk]
      simp [tOf_eq hq hb]
    · rw [List.getElem?_eq_none (by rw [hl]; omega), List.getElem?_eq_none (by simp; omega)]
  · rw [List.getElem?_eq_none (by rw [h.len]; omega), List.getElem?_eq_none (by rw [planR_len]; omega)]
/-- how far the plan is from the one that it becomes -/
def meas (R : List At) (O : List (List Int)) : Nat := (R.map fun b => (b.t - planAt O b.j b.k).toNat).sum
theorem sum_le_ {α : Type} {f g : α → Nat} : ∀ {l : List α}, (∀ a ∈ l, f a ≤ g a) → (l.map f).sum ≤ (l.map g).sum
  | [], _ => Nat.le_refl _
  | a :: l, h => by
    have h1 := h a (by simp)
    have h2 := sum_le_ (l := l) fun a ha => h a (by simp [ha])
    simp only [List.map_cons, List.sum_cons]; omega
theorem sum_lt_ {α : Type} {f g : α → Nat} : ∀ {l : List α}, (∀ a ∈ l, f a ≤ g a) → (∃ a ∈ l, f a < g a) → (l.map f).sum < (l.map g).sum
  | [], _, ⟨a, ha, _⟩ => by cases ha
  | a :: l, h, ⟨b, hb, hlt⟩ => by
    have h1 := h a (by simp)
    have h2 := sum_le_ (l := l) fun a ha => h a (by simp [ha])
    simp only [List.map_cons, List.sum_cons]
    rcases List.mem_cons.1 hb with rfl | hb
    · omega
    · have h3 := sum_lt_ (l := l) (fun a ha => h a (by simp [ha])) ⟨b, hb, hlt⟩
      omega
theorem planAt_set {O : List (List Int)} {j k : Nat} {l : List Int} {t : Int} (hj : O[j]? = some l) (hk : k < l.length) (j' k' : Nat) : planAt (O.modify j fun l => l.set k t) j' k' = if j' = j ∧ k' = k then t else planAt O j' k' := by
  unfold planAt
  simp only [List.getD_eq_getElem?_getD, modify_get]
  by_cases hjj : j = j'
  · subst hjj
    rw [if_pos rfl, hj]
    simp only [Option.map_some, Option.getD_some, List.getElem?_set]
    by_cases hkk : k = k'
    · subst hkk; simp [hk]
    · rw [if_neg hkk, if_neg (fun h => hkk h.2.symm)]
  · rw [if_neg hjj, if_neg (fun h => hjj h.1.symm)]
theorem OutOk.raise (hq : SeqOk p R) (h : OutOk p R O) {b : At} (hb : b ∈ R) {t : Int} {l : List Int} (hl : O[b.j]? = some l) (h1 : planAt O b.j b.k < t) (h2 : t ≤ b.t) :
    OutOk p R (O.modify b.j fun l => l.set b.k t) ∧ meas R (O.modify b.j fun l => l.set b.k t) < meas R O := by
  obtain ⟨s, g1, g2⟩ := hq.ok b hb
  have hk : b.k < l.length := by rw [h.row _ s l g1 hl]; exact (List.getElem?_eq_some_iff.1 g2).1
  have hset := planAt_set (t := t) hl hk
  have h0 := h.bd b hb
  refine ⟨⟨by simpa using h.len, fun j s' l' e1 e2 => ?_, fun c hc => ?_⟩, sum_lt_ (fun c hc => ?_) ⟨b, hb, ?_⟩⟩
  · rw [modify_get] at e2
    by_cases hj : b.j = j
    · rw [if_pos hj] at e2
      cases hO : O[j]? with
      | none => rw [hO] at e2; cases e2
      | some l0 =>
        rw [hO] at e2
        simp only [Option.map_some, Option.some.injEq] at e2
        rw [← e2, List.length_set]
        exact h.row j s' l0 e1 hO
    · rw [if_neg hj] at e2
      exact h.row j s' l' e1 e2
  · rw [hset]
    split
    · rename_i he
      obtain ⟨u, hu⟩ := List.getElem?_of_mem hc
      obtain ⟨v, hv'⟩ := List.getElem?_of_mem hb
      rw [(hq.inj hu hv' he.1 he.2).2]
      omega
    · exact h.bd c hc
  · rw [hset]
    split
    · rename_i he
      obtain ⟨u, hu⟩ := List.getElem?_of_mem hc
      obtain ⟨v, hv'⟩ := List.getElem?_of_mem hb
      rw [(hq.inj hu hv' he.1 he.2).2]
      omega
    · exact Nat.le_refl _
  · rw [hset, if_pos ⟨rfl, rfl⟩]
    omega
end
/-- nothing is raised on the machines before m, and on m before its n-th step -/
def Still (p : Shop) (R : List At) (O : List (List Int)) (m n : Nat) : Prop :=
  (∀ m' : Nat, m' < m → ∀ (q : Nat) b, (R.filter (onB m'))[q]? = some b → refT p O (R.filter (onB m')) q b ≤ planAt O b.j b.k) ∧
  ∀ (q : Nat) b, q < n → (R.filter (onB m))[q]? = some b → refT p O (R.filter (onB m)) q b ≤ planAt O b.j b.k
/-- the state of a round: raised, or still -/
def Rnd (p : Shop) (R : List At) (O : List (List Int)) (gk m n : Nat) (ag : Bool) : Prop := (ag = true ∧ meas R O + 1 < gk) ∨ (ag = false ∧ meas R O + 1 ≤ gk ∧ Still p R O m n)
theorem Rnd.start {p : Shop} {R : List At} {O : List (List Int)} {gk : Nat} (h : meas R O + 1 ≤ gk) : Rnd p R O gk 0 0 false := .inr ⟨rfl, h, fun m' hm => absurd hm (Nat.not_lt_zero _), fun q b hq => absurd hq (Nat.not_lt_zero _)⟩
theorem Rnd.pass {p : Shop} {R : List At} {O : List (List Int)} {gk m n : Nat} {ag : Bool} (h : Rnd p R O gk m n ag) {b : At} (hb : (R.filter (onB m))[n]? = some b) (hle : refT p O (R.filter (onB m)) n b ≤ planAt O b.j b.k) : Rnd p R O gk m (n + 1) ag := by
  rcases h with h | ⟨h1, h2, h3, h4⟩
  · exact .inl h
  · refine .inr ⟨h1, h2, h3, fun q c hq hc => ?_⟩
    rcases Nat.lt_or_ge q n with hlt | hge
    · exact h4 q c hlt hc
    · obtain rfl : q = n := by omega
      rw [hb] at hc
      injection hc with hc
      subst hc; exact hle
theorem Rnd.next {p : Shop} {R : List At} {O : List (List Int)} {gk m : Nat} {ag : Bool} (h : Rnd p R O gk m (R.filter (onB m)).length ag) : Rnd p R O gk (m + 1) 0 ag := by
  rcases h with h | ⟨h1, h2, h3, h4⟩
  · exact .inl h
  · refine .inr ⟨h1, h2, fun m' hm q b hb => ?_, fun q b hq => absurd hq (Nat.not_lt_zero _)⟩
    rcases Nat.lt_or_ge m' m with hlt | hge
    · exact h3 m' hlt q b hb
    · obtain rfl : m' = m := by omega
      exact h4 q b (List.getElem?_eq_some_iff.1 hb).1 hb
theorem Rnd.up {p : Shop} {R : List At} {O O' : List (List Int)} {gk m n m' n' : Nat} {ag : Bool} (h : Rnd p R O gk m n ag) (hlt : meas R O' < meas R O) : Rnd p R O' gk m' n' true := by
  rcases h with ⟨_, h⟩ | ⟨_, h, _⟩ <;> exact .inl ⟨rfl, by omega⟩
end Go.Proofs.Ytcpnfcnobnjhdaa
