/- slices.Clone of numbers. -/
import Derived.Test.YtecaaimaeaocbaaDoorOwns
import Derived.Test.YtecaaimaeaocbaaDoorKValid
namespace Go.Proofs.YtecaaimaeaocbaaDoor
open Go Go.RowKit
theorem et_ints : ElemT Tryd.prog 25 3 1 := elemT_mk Tryd.underlying25 (z := .int .i64 0) (bytes := 8) (by kernel_rfl) rfl (by omega) (by omega)
theorem intEnc_len (n : Int) : (intEnc n).length = 1 := rfl
theorem intEnc_one (n : Int) : ∀ u ∈ intEnc n, u.oneCell' = true := fun u hu => by simp [intEnc] at hu; subst hu; rfl
def ClonePost {α : Type} (t : TypeId) (f : α → List Value) (sz : Nat) (l : List α) (w : World) (e : Ending) (w' : World) : Prop :=
  ∃ A' c', e = .returned (.slice A' l.length c') ∧ Below w.heap.size w w' ∧ Slc f sz w' w'.heap.size A' l ∧ (l ≠ [] → Own w' w.heap.size t sz f (.slice A' l.length c') l)
set_option maxRecDepth 100000 in
theorem cloneInt_any (A : Option Addr) (c : Nat) (l : List Int) (w : World) (hl : l.length ≤ 100000) (hS : Slc intEnc 1 w w.heap.size A l) :
    Calls Tryd.prog 92 #[.slice A l.length c] w (ClonePost 3 intEnc 1 l w) := by
  have q22 : ∀ (w : World) (a : Option Addr) (n c n' c' : Nat), (binOp .eql 25 (.slice a n c) (.slice none n' c')).run Tryd.prog w = .ok (.bool a.isNone) w := fun w a n c n' c' => Lib.run_eql_slice_nil w _ _ a n c n' c' Tryd.underlying25
  cases A with
  | none =>
    have hn : l = [] := by
      cases l with
      | nil => rfl
      | cons x r => obtain ⟨b, off, h, _⟩ := hS 0 x rfl; cases h
    subst hn
    go_enter Tryd.func92, Tryd.ntmps92
    go_wp2_with fail
    go_ret
    exact ⟨none, 0, rfl, Below.refl _ _, Slc.nil_, fun h => absurd rfl h⟩
  | some a =>
    have HS := hide hS
    have hsz : (w.alloc (.cells #[] 3)).heap.size = w.heap.size + 1 := by simp
    have HSZ := hide hsz
    have HB0 := hide ((Below.refl w.heap.size w).alloc (Nat.le_refl _) (.cells #[] 3))
    clear hS hsz
    go_enter Tryd.func92, Tryd.ntmps92
    go_wp2_with (at_builtin; refine wpList_app_full (xs := []) (ys := l) (B1 := 0) (B2 := w.heap.size) _ _ rfl rfl et_ints rfl rfl Slc.nil_ rfl (HS.out.below HB0.out) rfl (Nat.zero_le _) intEnc_len intEnc_one (by omega) ?_; intro A' c' W' hb hS' hc' hO')
    go_ret
    have hb2 := HB0.out.trans (hb.mono HB0.out.size)
    refine ⟨A', c', by simp, hb2, by simpa using hS', fun hne => ?_⟩
    have h := (hO' hne).mono_base (b' := w.heap.size) HB0.out.size
    simpa using h
/-- a list that a call made, all of one-cell elements, as a block -/
theorem own_blk {α : Type} {g : α → Value} {w : World} {base : Nat} {e : TypeId} {A : Option Addr} {c : Nat} {l : List α} {n : Nat} (h : Own w base e 1 (fun x => [g x]) (.slice A n c) l) (hl : l ≠ []) : ∃ b js, A = some ⟨b, 0, none⟩ ∧ base ≤ b ∧ Blk w b e (l.map g ++ js).toArray := by
  rcases h.2 with ⟨_, h2⟩ | ⟨b, cap, cur, h1, h2, h3, _, _, _, h7⟩
  · exact absurd (List.length_eq_zero_iff.1 h2) hl
  · injection h1 with h1 _ _
    have e1 : ∀ l : List α, l.map g = l.flatMap fun x => [g x] := fun l => by
      induction l with
      | nil => rfl
      | cons x r ih => rw [List.map_cons, List.flatMap_cons, ih]; rfl
    have e2 : cur = (l.map g ++ cur.toList.drop (l.length * 1)).toArray := by
      rw [e1, ← h7, List.take_append_drop]
    refine ⟨b, cur.toList.drop (l.length * 1), h1, h2, ?_⟩
    show _ = _
    rw [h3]
    exact congrArg (fun x => some (Obj.cells x e (0, 0))) e2
def intJ (l : List Int) (js : List Value) : Array Value := (l.map (Value.int .i64) ++ js).toArray
def bools (l : List Bool) : Array Value := (l.map Value.bool).toArray
theorem intJ_get {l : List Int} {js : List Value} {i : Nat} {v : Int} (h : l[i]? = some v) : (intJ l js)[i]? = some (.int .i64 v) := by
  have hi := (List.getElem?_eq_some_iff.1 h).1
  unfold intJ
  rw [List.getElem?_toArray, List.getElem?_append_left (by simpa using hi), List.getElem?_map, h]; rfl
theorem intJ_set {l : List Int} {js : List Value} {i : Nat} (h : i < l.length) (v : Int) : (intJ l js).setIfInBounds i (.int .i64 v) = intJ (l.set i v) js := by
  unfold intJ
  rw [List.setIfInBounds_toArray, List.set_append_left _ _ (by simpa using h), List.map_set]
theorem intJ_lt {l : List Int} {js : List Value} {i : Nat} (h : i < l.length) : i < (intJ l js).size := by
  unfold intJ; simp; omega
theorem bools_get {l : List Bool} {i : Nat} {v : Bool} (h : l[i]? = some v) : (bools l)[i]? = some (.bool v) := by
  unfold bools; simp [h]
theorem bools_set {l : List Bool} {i : Nat} (v : Bool) : (bools l).setIfInBounds i (.bool v) = bools (l.set i v) := by
  unfold bools; rw [List.setIfInBounds_toArray, List.map_set]
theorem bools_lt {l : List Bool} {i : Nat} (h : i < l.length) : i < (bools l).size := by unfold bools; simpa using h
theorem map_flat : ∀ l : List Int, l.map (Value.int .i64) = l.flatMap intEnc
  | [] => rfl
  | x :: r => by rw [List.map_cons, List.flatMap_cons, map_flat r]; rfl
theorem intJ_own {w : World} {base : Nat} {A : Option Addr} {c : Nat} {l : List Int} {n : Nat} (h : Own w base 3 1 intEnc (.slice A n c) l) (hl : l ≠ []) : ∃ b js, A = some ⟨b, 0, none⟩ ∧ base ≤ b ∧ Blk w b 3 (intJ l js) := by
  rcases h.2 with ⟨_, h2⟩ | ⟨g, cap, cur, h1, h2, h3, _, _, _, h7⟩
  · exact absurd (List.length_eq_zero_iff.1 h2) hl
  · injection h1 with h1 _ _
    have e := map_flat l
    have e2 : cur = intJ l (cur.toList.drop (l.length * 1)) := by
      unfold intJ
      rw [e, ← h7, List.take_append_drop]
    refine ⟨g, cur.toList.drop (l.length * 1), h1, h2, ?_⟩
    show _ = _
    rw [h3]
    exact congrArg (fun x => some (Obj.cells x 3 (0, 0))) e2
theorem intJ_slc {w : World} {b : Nat} {l : List Int} {js : List Value} (h : Blk w b 3 (intJ l js)) : Slc intEnc 1 w w.heap.size (some ⟨b, 0, none⟩) l := fun i x hx => by
  refine ⟨b, 0, rfl, h.lt, fun j v hv => ?_⟩
  cases j with
  | zero =>
    simp [intEnc] at hv
    subst hv
    have := h.cell_ i (intJ_get hx)
    simpa using this
  | succ j => simp [intEnc] at hv
theorem cloneInt_n (A : Option Addr) (c : Nat) (l : List Int) (w : World) {n : Nat} (hn : l.length = n) (hl : l.length ≤ 100000) (hS : Slc intEnc 1 w w.heap.size A l) :
    Calls Tryd.prog 92 #[.slice A n c] w (ClonePost 3 intEnc 1 l w) := by
  subst hn; exact cloneInt_any A c l w hl hS
end Go.Proofs.YtecaaimaeaocbaaDoor
