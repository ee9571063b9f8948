/- slices.Clone of numbers and of rows; slices.Index. -/
import Derived.Test.YtkcfalehebacpaaMost
import Derived.WalkSpells
import Derived.Outline
namespace Go.Proofs.Ytkcfalehebacpaa
open Go Go.RowKit
/-- a row of numbers: its address, length, capacity -/
abbrev Rw := Option Addr × Nat × Nat
def rwV (r : Rw) : Value := .slice r.1 r.2.1 r.2.2
def rwEnc (r : Rw) : List Value := [rwV r]
theorem et_rows : ElemT Try.prog 73 26 1 := elemT_mk Try.underlying73 (z := .slice none 0 0) (bytes := 24) (by kernel_rfl) rfl (by omega) (by omega)
theorem intEnc_len (n : Int) : (intEnc n).length = 1 := rfl
theorem intEnc_one (n : Int) : ∀ u ∈ intEnc n, u.oneCell' = true := fun u hu => by simp [intEnc] at hu; subst hu; rfl
theorem rwEnc_len (r : Rw) : (rwEnc r).length = 1 := rfl
theorem rwEnc_one (r : Rw) : ∀ u ∈ rwEnc r, u.oneCell' = true := fun u hu => by simp [rwEnc] at hu; subst hu; rfl
def ClonePost {α : Type} (t : TypeId) (f : α → List Value) (sz : Nat) (l : List α) (w : World) (e : Ending) (w' : World) : Prop :=
  ∃ A' c', e = .returned (.slice A' l.length c') ∧ Below w.heap.size w w' ∧ Slc f sz w' w'.heap.size A' l ∧ (l ≠ [] → Own w' w.heap.size t sz f (.slice A' l.length c') l)
set_option maxRecDepth 100000 in
theorem cloneInt_any (A : Option Addr) (c : Nat) (l : List Int) (w : World) (hl : l.length ≤ 100000) (hS : Slc intEnc 1 w w.heap.size A l) :
    Calls Try.prog 87 #[.slice A l.length c] w (ClonePost 3 intEnc 1 l w) := by
  have q22 : ∀ (w : World) (a : Option Addr) (n c n' c' : Nat), (binOp .eql 26 (.slice a n c) (.slice none n' c')).run Try.prog w = .ok (.bool a.isNone) w := fun w a n c n' c' => Lib.run_eql_slice_nil w _ _ a n c n' c' Try.underlying26
  cases A with
  | none =>
    have hn : l = [] := by
      cases l with
      | nil => rfl
      | cons x r => obtain ⟨b, off, h, _⟩ := hS 0 x rfl; cases h
    subst hn
    go_enter Try.func87, Try.ntmps87
    go_wp2_with fail
    go_ret
    exact ⟨none, 0, rfl, Below.refl _ _, Slc.nil_, fun h => absurd rfl h⟩
  | some a =>
    have HS := hide hS
    have hsz : (w.alloc (.cells #[] 3)).heap.size = w.heap.size + 1 := by simp
    have HSZ := hide hsz
    have HB0 := hide ((Below.refl w.heap.size w).alloc (Nat.le_refl _) (.cells #[] 3))
    clear hS hsz
    go_enter Try.func87, Try.ntmps87
    go_wp2_with (at_builtin; refine wpList_app_full (xs := []) (ys := l) (B1 := 0) (B2 := w.heap.size) _ _ rfl rfl et_ints rfl rfl Slc.nil_ rfl (HS.out.below HB0.out) rfl (Nat.zero_le _) intEnc_len intEnc_one (by omega) ?_; intro A' c' W' hb hS' hc' hO')
    go_ret
    have hb2 := HB0.out.trans (hb.mono HB0.out.size)
    refine ⟨A', c', by simp, hb2, by simpa using hS', fun hne => ?_⟩
    have h := (hO' hne).mono_base (b' := w.heap.size) HB0.out.size
    simpa using h
set_option maxRecDepth 100000 in
theorem cloneRow_any (A : Option Addr) (c : Nat) (l : List Rw) (w : World) (hl : l.length ≤ 100000) (hS : Slc rwEnc 1 w w.heap.size A l) :
    Calls Try.prog 67 #[.slice A l.length c] w (ClonePost 26 rwEnc 1 l w) := by
  have q22 : ∀ (w : World) (a : Option Addr) (n c n' c' : Nat), (binOp .eql 73 (.slice a n c) (.slice none n' c')).run Try.prog w = .ok (.bool a.isNone) w := fun w a n c n' c' => Lib.run_eql_slice_nil w _ _ a n c n' c' Try.underlying73
  cases A with
  | none =>
    have hn : l = [] := by
      cases l with
      | nil => rfl
      | cons x r => obtain ⟨b, off, h, _⟩ := hS 0 x rfl; cases h
    subst hn
    go_enter Try.func67, Try.ntmps67
    go_wp2_with fail
    go_ret
    exact ⟨none, 0, rfl, Below.refl _ _, Slc.nil_, fun h => absurd rfl h⟩
  | some a =>
    have HS := hide hS
    have hsz : (w.alloc (.cells #[] 26)).heap.size = w.heap.size + 1 := by simp
    have HSZ := hide hsz
    have HB0 := hide ((Below.refl w.heap.size w).alloc (Nat.le_refl _) (.cells #[] 26))
    clear hS hsz
    go_enter Try.func67, Try.ntmps67
    go_wp2_with (at_builtin; refine wpList_app_full (xs := []) (ys := l) (B1 := 0) (B2 := w.heap.size) _ _ rfl rfl et_rows rfl rfl Slc.nil_ rfl (HS.out.below HB0.out) rfl (Nat.zero_le _) rwEnc_len rwEnc_one (by omega) ?_; intro A' c' W' hb hS' hc' hO')
    go_ret
    have hb2 := HB0.out.trans (hb.mono HB0.out.size)
    refine ⟨A', c', by simp, hb2, by simpa using hS', fun hne => ?_⟩
    have h := (hO' hne).mono_base (b' := w.heap.size) HB0.out.size
    simpa using h
/-- a list that a call made, all of one-cell elements, as a block -/
theorem own_blk {α : Type} {g : α → Value} {w : World} {base : Nat} {e : TypeId} {A : Option Addr} {c : Nat} {l : List α} {n : Nat} (h : Own w base e 1 (fun x => [g x]) (.slice A n c) l) (hl : l ≠ []) : ∃ b js, A = some ⟨b, 0, none⟩ ∧ base ≤ b ∧ Blk w b e (l.map g ++ js).toArray := by
  rcases h.2 with ⟨_, h2⟩ | ⟨b, cap, cur, h1, h2, h3, _, _, _, h7⟩
  · exact absurd (List.length_eq_zero_iff.1 h2) hl
  · injection h1 with h1 _ _
    have e1 : ∀ l : List α, l.map g = l.flatMap fun x => [g x] := fun l => by
      induction l with
      | nil => rfl
      | cons x r ih => rw [List.map_cons, List.flatMap_cons, ih]; rfl
    have e2 : cur = (l.map g ++ cur.toList.drop (l.length * 1)).toArray := by
      rw [e1, ← h7, List.take_append_drop]
    refine ⟨b, cur.toList.drop (l.length * 1), h1, h2, ?_⟩
    show _ = _
    rw [h3]
    exact congrArg (fun x => some (Obj.cells x e (0, 0))) e2
/-- where a number first stands in a list -/
def IndexPost (l : List Int) (v : Int) (w : World) (e : Ending) (w' : World) : Prop :=
  w = w' ∧ ((e = .returned (.int .i64 (-1)) ∧ v ∉ l) ∨ ∃ i : Nat, e = .returned (.int .i64 i) ∧ l[i]? = some v ∧ ∀ j, j < i → l[j]? ≠ some v)
set_option maxRecDepth 100000 in
set_option maxHeartbeats 1000000 in
theorem index_any (A : Option Addr) (c B : Nat) (l : List Int) (v : Int) (w : World) (hl : l.length ≤ 100000) (hS : Slc intEnc 1 w B A l) :
    Calls Try.prog 30 #[.slice A l.length c, .int .i64 v] w (IndexPost l v w) := by
  go_enter Try.func30, Try.ntmps30
  go_wp2_with fail
  go_loopw [8] (fun x W => ∃ k : Nat, x = .int .i64 k ∧ k ≤ l.length ∧ w = W ∧ Hid (∀ j, j < k → l[j]? ≠ some v)) (fun x _ => l.length - (intOf x).toNat)
  case atStart => exact ⟨0, rfl, Nat.zero_le _, rfl, hide fun j h => absurd h (Nat.not_lt_zero _)⟩
  case round =>
    obtain ⟨k, rfl, hk, rfl, HT⟩ := hrel
    by_cases hlt : k < l.length
    · obtain ⟨x, b, off, hx, hA, hb, hc⟩ := ints_at' hS hlt
      have hki : (k : Int) < (l.length : Int) := by omega
      have HX := hide hx
      clear hx
      subst hA
      by_cases he : v = x
      · subst he
        go_wp2_with fail
        go_ret
        exact ⟨rfl, .inr ⟨k, rfl, HX.out, HT.out⟩⟩
      · have he' : (v == x) = false := by simpa using he
        have HE := hide he
        clear he
        go_wp2_with fail
        go_roundw
        case rel => exact ⟨k + 1, by go_num, by omega, by simp, hide fun j hj => by
          by_cases e : j = k
          · subst e
            rw [HX.out]
            intro h
            injection h with h
            exact HE.out h.symm
          · exact HT.out j (by omega)⟩
        case measure => simp [intOf]; omega
    · obtain rfl : k = l.length := by omega
      go_wp2_with fail
      go_ret
      exact ⟨rfl, .inl ⟨rfl, fun hm => by
        obtain ⟨j, hj⟩ := List.getElem?_of_mem hm
        exact HT.out j (List.getElem?_eq_some_iff.1 hj).1 hj⟩⟩
end Go.Proofs.Ytkcfalehebacpaa
