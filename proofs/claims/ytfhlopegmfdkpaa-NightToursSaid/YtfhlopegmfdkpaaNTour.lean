/- Tour of package night: the walk. -/
import Derived.Test.YtfhlopegmfdkpaaNRightApi
import Derived.Test.YtfhlopegmfdkpaaStabSInt
import Derived.Test.YtfhlopegmfdkpaaKeyP
namespace Go.Proofs.Ytfhlopegmfdkpaa
open Go Go.Sort Go.RowKit StabInt
def natEnc (x : Nat) : List Value := [.int .i64 (x : Int)]
def natV (n : Nat) (x : Nat) : Value := .int .i64 ((x % n : Nat) : Int)
def chF (js : List Job) (x : Nat) : Int := match js[x % js.length]? with | some j => j.chain | none => 0
def cfC (js : List Job) (x y : Nat) : Int := chF js x - chF js y
theorem ltC (js : List Job) (x y : Nat) : ltF (cfC js) x y = decide (chF js x < chF js y) := by
  unfold ltF cfC
  by_cases h : chF js x < chF js y
  · rw [decide_eq_true h, decide_eq_true (by omega)]
  · rw [decide_eq_false h, decide_eq_false (by omega)]
theorem chF_at {js : List Job} {x : Nat} {j : Job} (h : js[x]? = some j) : chF js x = j.chain := by
  have hx := (List.getElem?_eq_some_iff.1 h).1
  unfold chF
  rw [Nat.mod_eq_of_lt hx, h]
theorem chF_mod (js : List Job) (x : Nat) : chF js (x % js.length) = chF js x := by unfold chF; rw [Nat.mod_mod]
set_option maxHeartbeats 1000000 in
theorem tour1_any (AJ : Option Addr) (cJ : Nat) (js : List Job) (a b bj : Nat) (w : World) (ha : a < js.length) (hb : b < js.length) (hl : js.length ≤ 1000) (hJ : Slc Job.enc 8 w w.heap.size AJ js) (hbx : Blk w bj 22 #[.slice AJ js.length cJ]) (hok : ∀ j ∈ js, 0 ≤ j.chain ∧ j.chain ≤ 10000000) :
    Calls Try.prog 68 #[.int .i64 a, .int .i64 b, .pointer (some ⟨bj, 0, none⟩)] w fun e w' => e = .returned (.int .i64 (chF js a - chF js b)) ∧ ∃ q, w' = w.drewN q := by
  obtain ⟨x, b1, o1, hx, hA, _, hc1⟩ := job_at hJ ha
  obtain ⟨y, b2, o2, hy, hA2, _, hc2⟩ := job_at hJ hb
  have HV : Hid (chF js a - chF js b = x.chain - y.chain) := by show _ = _; rw [chF_at hx, chF_at hy]
  have hx1 := hok x (List.mem_of_getElem? hx)
  have hy1 := hok y (List.mem_of_getElem? hy)
  have e9 : IntKind.i64.wrap (x.chain - y.chain) = x.chain - y.chain := IntWalk.i64_in _ (by omega)
  subst hA
  obtain ⟨rfl, rfl⟩ : b1 = b2 ∧ o1 = o2 := by simpa using hA2
  have d2 := hc1 2 _ rfl
  have e2 := hc2 2 _ rfl
  have c0 := hbx.cell_ 0 rfl
  have hai : (a : Int) < (js.length : Int) := by omega
  have hbi : (b : Int) < (js.length : Int) := by omega
  clear hx hy hc1 hc2 hok
  rw [HV.out]
  clear HV
  go_enter Try.func68, Try.ntmps68
  go_wp2_with fail
  go_quiet (fail)
  go_wp2_with fail
  go_ret
  exact ⟨rfl, _, rfl⟩
theorem sw_below {w : World} {enc : Nat × Nat → Value} {B g off m : Nat} {dk : Array (Nat × Nat)} {os : Array Obj} (hB : B ≤ g) (hg : g < w.heap.size) : Below B w (sortWorld enc w g off m dk os) := by
  refine ⟨rfl, rfl, rfl, size_sw_c _ _ _ _ _ _ _, fun k hk => ?_⟩
  unfold sortWorld
  rw [heap_grow_old _ _ (by rw [size_putRow]; show k < w.heap.size; omega)]
  unfold putRow mapBlock
  simp only [Array.getElem?_modify]
  rw [if_neg (by omega)]
  rfl
theorem cmp_tour (AJ : Option Addr) (cJ : Nat) (js : List Job) (bj B g size : Nat) (w : World) (hn : 0 < js.length) (hl : js.length ≤ 1000) (hJ : Slc Job.enc 8 w B AJ js) (hbx : Blk w bj 22 #[.slice AJ js.length cJ]) (hok : ∀ j ∈ js, 0 ≤ j.chain ∧ j.chain ≤ 10000000) (hbj : bj < B) (hB : B ≤ g) (hg : g < w.heap.size) :
    Cmp Try.prog 68 #[.pointer (some ⟨bj, 0, none⟩)] (encT (natV js.length)) (cfT (cfC js)) g 0 size w := fun m os dk _ x y => by
  have hb := sw_below (w := w) (enc := encT (natV js.length)) (B := B) (off := 0) (m := m) (dk := dk) (os := os) hB hg
  have hs : B ≤ (sortWorld (encT (natV js.length)) w g 0 m dk os).heap.size := Nat.le_trans (by omega) hb.size
  refine (tour1_any AJ cJ js (x.1 % js.length) (y.1 % js.length) bj _ (Nat.mod_lt _ hn) (Nat.mod_lt _ hn) hl ((hJ.below hb).more hs) (hbx.below hb hbj) hok).mono fun e w' ⟨he, q, hq⟩ => ⟨?_, q, #[], by rw [hq, grow_empty]⟩
  rw [he, chF_mod, chF_mod]
  rfl
theorem lay_int : Lay Try.prog := by
  constructor
  all_goals first | (by_cases True <;> kernel_rfl) | (intros; kernel_rfl) | kernel_rfl
theorem oneCell_nat (n : Nat) : OneCell (natV n) := fun _ => rfl
/-- the sort of the indexes that the call owns -/
theorem sortT_any (AJ : Option Addr) (cJ : Nat) (js : List Job) (bj B g c : Nat) (l : List Nat) (js7 : List Value) (w : World) (hl0 : l ≠ []) (hln : ∀ x ∈ l, x < js.length) (hll : l.length ≤ 1000) (hl : js.length ≤ 1000) (hJ : Slc Job.enc 8 w B AJ js) (hbx : Blk w bj 22 #[.slice AJ js.length cJ]) (hok : ∀ j ∈ js, 0 ≤ j.chain ∧ j.chain ≤ 10000000) (hbj : bj < B) (hB : B ≤ g)
    (hG : Blk w g 3 (l.map (fun x : Nat => Value.int .i64 (x : Int)) ++ js7).toArray) :
    Calls Try.prog 67 #[.slice (some ⟨g, 0, none⟩) l.length c, .func (.func 68) #[] #[.pointer (some ⟨bj, 0, none⟩)]] w fun e w' => e = .returned (.tuple #[]) ∧ Below B w w' ∧ Slc intEnc 1 w' w'.heap.size (some ⟨g, 0, none⟩) ((sortK (chF js) l).map fun x : Nat => (x : Int)) := by
  have hg := hG.lt
  have hn : 0 < js.length := by
    obtain ⟨x, hx⟩ := List.exists_mem_of_ne_nil l hl0
    have := hln x hx
    omega
  have hH : Holds (encT (natV js.length)) w g 0 (tagK l) := fun j hj => by
    rw [tagK_size] at hj
    have hj' : l[j]? = some l[j] := List.getElem?_eq_getElem hj
    rw [tagK_at hj']
    refine ⟨?_, frozen_of_row w g _ _ 3 hG⟩
    have := hG.cell_ j (v := .int .i64 (l[j] : Int)) (by rw [List.getElem?_toArray, List.getElem?_append_left (by simpa using hj), List.getElem?_map, hj']; rfl)
    rw [Nat.zero_add, this]
    show _ = some (Value.int .i64 ((l[j] % js.length : Nat) : Int))
    rw [Nat.mod_eq_of_lt (hln _ (List.getElem_mem hj))]
  have C := sortStable_any lay_int (natV js.length) (oneCell_nat _) (cfC js) (swoK (key := chF js) (ltC js)) 68 #[.pointer (some ⟨bj, 0, none⟩)] g 0 c (tagK l) w (fun _ _ => by kernel_rfl) (cmp_tour AJ cJ js bj B g _ w hn hl hJ hbx hok hbj hB hg) hH hg (by rw [tagK_size]; omega) (fun i hi => by
    rw [tagK_size] at hi
    rw [tagK_at (List.getElem?_eq_getElem hi)])
  rw [tagK_size] at C
  refine C.mono fun e w' ⟨he, q, r, os, hw, hp, ht⟩ => ⟨he, ?_, ?_⟩
  · rw [hw]; exact sw_below hB hg
  · have hs : r.size = l.length := by rw [hp.1, tagK_size]
    have hH2 : Holds (encT (natV js.length)) w' g 0 r := by rw [hw]; exact holds_sw_c _ w g 0 (tagK l) r q os hH hg (by rw [hs, tagK_size])
    have he2 := sortedK_eq (ltC js) hp ht
    have hlt : g < w'.heap.size := by rw [hw]; exact Nat.lt_of_lt_of_le hg (size_sw_c _ _ _ _ _ _ _)
    intro i z hz
    rw [List.getElem?_map] at hz
    obtain ⟨x, hx, rfl⟩ := Option.map_eq_some_iff.1 hz
    have hxn : x < js.length := hln x ((sortK_perm (chF js) l).subset (List.mem_of_getElem? hx))
    rw [← he2, List.getElem?_map] at hx
    obtain ⟨y, hy, rfl⟩ := Option.map_eq_some_iff.1 hx
    have hi : i < r.size := by have := (List.getElem?_eq_some_iff.1 hy).1; simpa using this
    have hri : y = r[i]! := by
      rw [getElem!_pos r i hi]
      have : r.toList[i]? = some r[i] := by simp [hi]
      rw [this] at hy
      injection hy with hy
      exact hy.symm
    refine ⟨g, 0, rfl, hlt, fun j v hv => ?_⟩
    obtain rfl : j = 0 := by
      have := (List.getElem?_eq_some_iff.1 hv).1
      simpa [intEnc] using this
    have h9 := (hH2 i hi).1
    rw [← hri] at h9
    have h8 : Value.int .i64 ((y.1 : Nat) : Int) = v := by simpa [intEnc] using hv
    rw [Nat.mul_one, Nat.add_zero, h9, ← h8]
    show some (Value.int .i64 ((y.1 % js.length : Nat) : Int)) = _
    rw [Nat.mod_eq_of_lt hxn]
/-- the jobs of a night, in the order of the list -/
def idxT (pl : List Int) (k : Int) : Nat → List Nat
  | 0 => []
  | i + 1 => idxT pl k i ++ (if pl[i]? = some k then [i] else [])
theorem idxT_yes {pl : List Int} {k : Int} {i : Nat} (h : pl[i]? = some k) : idxT pl k (i + 1) = idxT pl k i ++ [i] := by rw [idxT, if_pos h]
theorem idxT_no {pl : List Int} {k : Int} {i : Nat} {v : Int} (h : pl[i]? = some v) (hv : v ≠ k) : idxT pl k (i + 1) = idxT pl k i := by
  rw [idxT, if_neg (by rw [h]; intro h; injection h with h; exact hv h), List.append_nil]
theorem idxT_mem {pl : List Int} {k : Int} : ∀ {m x : Nat}, x ∈ idxT pl k m ↔ x < m ∧ pl[x]? = some k
  | 0, x => by simp [idxT]
  | m + 1, x => by
    rw [idxT, List.mem_append, idxT_mem]
    constructor
    · rintro (h | h)
      · exact ⟨by omega, h.2⟩
      · split at h
        · rename_i h2
          simp at h
          subst h
          exact ⟨by omega, h2⟩
        · cases h
    · rintro ⟨h1, h2⟩
      by_cases h3 : x = m
      · subst h3; right; rw [if_pos h2]; simp
      · left; exact ⟨by omega, h2⟩
theorem idxT_len (pl : List Int) (k : Int) : ∀ m, (idxT pl k m).length ≤ m
  | 0 => by simp [idxT]
  | m + 1 => by
    have := idxT_len pl k m
    rw [idxT, List.length_append]
    split <;> simp <;> omega
def tourL (js : List Job) (pl : List Int) (k : Int) : List Int := (sortK (chF js) (idxT pl k pl.length)).map fun x : Nat => (x : Int)
noncomputable def tourE (js : List Job) (ns : List Nit) (pl : List Int) (k : Int) : Int := if pErr js ns pl = 0 then (if inB 0 k ((ns.length : Int) - 1) then 0 else 2) else pErr js ns pl
noncomputable def tourT (js : List Job) (ns : List Nit) (pl : List Int) (k : Int) : List Int := if tourE js ns pl k = 0 then tourL js pl k else []
def farF (js : List Job) (l : List Int) : Int := match l.head?, l.getLast? with | some a, some b => chF js b.toNat - chF js a.toNat | _, _ => 0
def TourPost (js : List Job) (ns : List Nit) (pl : List Int) (k : Int) (w : World) (e : Ending) (w' : World) : Prop :=
  ∃ A c, e = .returned (.tuple #[.slice A (tourT js ns pl k).length c, .int .i64 (farF js (tourT js ns pl k)), .int .i64 (tourE js ns pl k)]) ∧ Below w.heap.size w w' ∧ Slc intEnc 1 w' w'.heap.size A (tourT js ns pl k)
end Go.Proofs.Ytfhlopegmfdkpaa
