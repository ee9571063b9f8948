/- The law SheetLeast: the walk. -/
import Derived.Test.YtcffjleecklhcaaLaws1
namespace Go.Proofs.Ytcffjleecklhcaa
open Go.RowKit

def hitB (fs : List Pt) (x : Int) : Bool := fs.any fun f => decide (f.a ≤ x) && decide (x < f.b)
theorem hitB_of {fs : List Pt} {x : Int} {i : Nat} {f t : Int} (h : fs[i]? = some ⟨f, t⟩) (h1 : f ≤ x) (h2 : x < t) : hitB fs x = true := by
  unfold hitB
  rw [List.any_eq_true]
  exact ⟨⟨f, t⟩, List.mem_of_getElem? h, by simp [h1, h2]⟩
theorem hitB_no {fs : List Pt} {x : Int} (h : ∀ (i : Nat) f, fs[i]? = some f → ¬ (f.a ≤ x ∧ x < f.b)) : hitB fs x = false := by
  unfold hitB
  rw [List.any_eq_false]
  intro f hf
  obtain ⟨i, hi⟩ := List.getElem?_of_mem hf
  have := h i f hi
  simp; omega
theorem not_free_iff {fs : List Pt} {q n : Int} (hn : 1 ≤ n) : freeB fs q n = false ↔ ∃ x, q ≤ x ∧ x < q + n ∧ hitB fs x = true := by
  constructor
  · intro h
    have : ¬ ∀ (i : Nat) f, fs[i]? = some f → ¬ hits f q n := fun h' => by rw [free_of h'] at h; cases h
    simp only [Classical.not_forall, Classical.not_not] at this
    obtain ⟨i, ⟨f, t⟩, hi, h1, h2, h3⟩ := this
    simp only at h1 h2 h3
    by_cases hq : q ≤ f
    · exact ⟨f, hq, h2, hitB_of hi (Int.le_refl _) h1⟩
    · exact ⟨q, Int.le_refl _, by omega, hitB_of hi (by omega) h3⟩
  · rintro ⟨x, h1, h2, h3⟩
    unfold hitB at h3
    rw [List.any_eq_true] at h3
    obtain ⟨⟨f, t⟩, hf, h4⟩ := h3
    obtain ⟨i, hi⟩ := List.getElem?_of_mem hf
    simp at h4
    exact not_free hi ⟨by simp; omega, by simp; omega, by simp; omega⟩

set_option maxHeartbeats 1000000 in
theorem hit_any (x : Int) (A : Option Addr) (c : Nat) (fs : List Pt) (w : World) (hlen : fs.length ≤ 100000) (hS : Slc Pt.enc 2 w w.heap.size A fs) :
    Calls Try.prog 13 #[.slice A fs.length c, .int .i64 x] w fun e w' => e = .returned (.bool (hitB fs x)) ∧ Below w.heap.size w w' := by
  go_enter Try.func13, Try.ntmps13
  go_wp2
  go_loopw [5] (fun i wr => ∃ k : Nat, k ≤ fs.length ∧ i = .int .i64 k ∧ (∀ (j : Nat) f, j < k → fs[j]? = some f → ¬ (f.a ≤ x ∧ x < f.b)) ∧ Below w.heap.size w wr) (fun i _ => (fs.length - (intOf i).toNat))
  case atStart => exact ⟨0, Nat.zero_le _, rfl, fun j f h => by omega, Below.refl _ _⟩
  case round =>
    obtain ⟨k, hk, rfl, hs, hbel⟩ := hrel
    have HS := hide hs
    clear hs
    by_cases hlt : k < fs.length
    · obtain ⟨f, t, bb, off, hx, rfl, hb, c0, c1⟩ := pts_at (hS.below hbel) hlt
      have HX := hide hx
      clear hx
      by_cases g1 : f ≤ x
      all_goals
        go_wp2
        all_goals first
          | (go_ret; exact ⟨ret_bool (hitB_of HX.out (by omega) (by omega)).symm, hbel⟩)
          | (go_roundw
             case rel => exact ⟨k + 1, by omega, by go_num, fun j f' hj hf' => by
               by_cases hjk : j = k
               · subst hjk; have := HX.out.symm.trans hf'; injection this with this; subst this; simp; omega
               · exact HS.out j f' (by omega) hf', hbel⟩
             case measure => simp [intOf]; omega)
    · obtain rfl : k = fs.length := by omega
      go_wp2
      go_ret
      exact ⟨ret_bool (hitB_no fun i f hf => HS.out i f (List.getElem?_eq_some_iff.1 hf).1 hf).symm, hbel⟩

/-- the outer loop: no place before q is free -/
def LeastAt (fs : List Pt) (want : Int) (q : Int) : Prop := ∀ q', 0 ≤ q' → q' < q → freeB fs q' want = false
/-- the inner loop: 'bad' says whether a place from q to less than x is hit -/
def BadAt (fs : List Pt) (q x : Int) (b : Bool) : Prop := b = true ↔ ∃ x', q ≤ x' ∧ x' < x ∧ hitB fs x' = true
theorem BadAt.start {fs : List Pt} {q : Int} : BadAt fs q q false := ⟨fun h => (by cases h), fun ⟨x', h1, h2, _⟩ => by omega⟩
theorem BadAt.step_true {fs : List Pt} {q x : Int} (h : BadAt fs q x true) : BadAt fs q (x + 1) true := ⟨fun _ => by
  obtain ⟨x', h1, h2, h3⟩ := h.1 rfl
  exact ⟨x', h1, by omega, h3⟩, fun _ => rfl⟩
theorem BadAt.step_false {fs : List Pt} {q x : Int} (hx : q ≤ x) (h : BadAt fs q x false) : BadAt fs q (x + 1) (hitB fs x) := ⟨fun hb => ⟨x, hx, by omega, hb⟩, fun ⟨x', h1, h2, h3⟩ => by
  by_cases he : x' = x
  · rw [← he]; exact h3
  · have := h.2 ⟨x', h1, by omega, h3⟩
    cases this⟩
theorem BadAt.bad {fs : List Pt} {q want : Int} (hw : 1 ≤ want) (h : BadAt fs q (q + want) true) : freeB fs q want = false := (not_free_iff hw).2 (h.1 rfl)
theorem BadAt.good {fs : List Pt} {q want : Int} (hw : 1 ≤ want) (h : BadAt fs q (q + want) false) : freeB fs q want = true := by
  cases hb : freeB fs q want
  · have := h.2 ((not_free_iff hw).1 hb); cases this
  · rfl
theorem LeastAt.next {fs : List Pt} {want q : Int} (h : LeastAt fs want q) (hb : freeB fs q want = false) : LeastAt fs want (q + 1) := fun q' h0 h1 => by
  by_cases he : q' = q
  · rw [he]; exact hb
  · exact h q' h0 (by omega)

set_option maxHeartbeats 4000000 in
theorem least_walk (a m : Int) (A : Option Addr) (c : Nat) (fs : List Pt) (w : World) (ha : 0 ≤ a) (ha' : a ≤ 255) (hm0 : 0 ≤ m) (hm' : m ≤ 255) (hm : fs.length ≤ 9223372036854775807) (hS : Slc Pt.enc 2 w w.heap.size A fs) :
    Calls Try.prog 5 #[.int .u8 a, .slice A fs.length c, .int .u8 m] w fun e w' => e = .returned (.bool true) ∧ Below w.heap.size w w' := by
  by_cases h12 : 12 < fs.length
  · go_enter Try.func5, Try.ntmps5
    go_wp2_with (go_at_call 6; refine (awake_any _).mono ?_; rintro e w' ⟨rfl, hb⟩)
    go_ret
    exact ⟨rfl, hb⟩
  · have hN0 : 0 ≤ a % 121 := by omega
    have hN1 : a % 121 ≤ 120 := by omega
    have hW0 : 1 ≤ 1 + m % 120 := by omega
    have hW1 : 1 + m % 120 ≤ 120 := by omega
    go_enter Try.func5, Try.ntmps5
    go_wp2_with fail
    generalize a % 121 = N at *
    generalize 1 + m % 120 = W at *
    obtain ⟨x, b, hx⟩ : ∃ x b, clearVal N fs W = .tuple #[.int .i64 x, .bool b] := ⟨_, _, rfl⟩
    have HX := hide hx
    clear hx
    refine (clear_any N W A c fs _ (by omega) (by omega) hS).mono ?_
    rintro e w1 ⟨rfl, hb1⟩
    rw [HX.out]
    go_wp2_with fail
    go_loopw [11] (fun q wr => ∃ k : Nat, k ≤ 121 ∧ q = .int .i64 k ∧ LeastAt fs W k ∧ Below w.heap.size w wr) (fun q _ => (121 - (intOf q).toNat))
    case atStart => exact ⟨0, by omega, rfl, fun q' h0 h1 => by omega, hb1⟩
    case round =>
      obtain ⟨k, hk, rfl, hat, hbel⟩ := hrel
      by_cases hle : (k : Int) + W ≤ N
      · obtain ⟨wo, rfl⟩ : ∃ wo : World, wo = wr := ⟨_, rfl⟩
        go_wp2_with fail
        go_loopw [12, 13] (fun g i w2 => ∃ (bd : Bool) (j : Nat), (k : Int) ≤ j ∧ (j : Int) ≤ k + W ∧ g = .bool bd ∧ i = .int .i64 j ∧ BadAt fs k j bd ∧ Below w.heap.size w w2) (fun _ i _ => (300 - (intOf i).toNat))
        case atStart => exact ⟨false, k, Int.le_refl _, by omega, rfl, rfl, BadAt.start, hbel⟩
        case round =>
          obtain ⟨bd, j, hj0, hj1, rfl, rfl, hbad, hbel'⟩ := hrel
          by_cases hlt : (j : Int) < k + W
          · cases bd
            · go_wp2_with fail
              refine (hit_any _ A c fs _ (by omega) ((hS.below hbel').more hbel'.size)).mono ?_
              rintro e w3 ⟨rfl, hb3⟩
              go_wp2_with fail
              go_roundw
              case rel => exact ⟨hitB fs j, j + 1, by omega, by omega, rfl, by go_num, hbad.step_false hj0, hbel'.trans (hb3.mono hbel'.size)⟩
              case measure => simp [intOf]; omega
            · go_wp2_with fail
              go_roundw
              case rel => exact ⟨true, j + 1, by omega, by omega, rfl, by go_num, hbad.step_true, hbel'⟩
              case measure => simp [intOf]; omega
          · have hje : (j : Int) = k + W := by omega
            rw [hje] at hbad
            have hje' := hide hje
            clear hje
            cases bd
            · have hc : IsClear N fs W (some k) := ⟨hW0, by omega, by omega, hbad.good hW0, hat⟩
              have hv : clearVal N fs W = .tuple #[.int .i64 k, .bool true] := by unfold clearVal; rw [clear_eq hc]; rfl
              rw [HX.out] at hv
              injection hv with hv
              obtain ⟨hx, hb⟩ : x = k ∧ b = true := by simpa using hv
              clear hv
              subst hx hb
              go_wp2_with fail
              refine (awake_any _).mono ?_
              rintro e w3 ⟨rfl, hb3⟩
              go_wp2
              go_ret
              exact ⟨rfl, hbel'.trans (hb3.mono hbel'.size)⟩
            · have hn := hbad.bad hW0
              go_wp2_with fail
              go_roundw
              case rel => exact ⟨k + 1, by omega, by go_num, hat.next hn, hbel'⟩
              case measure => simp [intOf]; omega
      · have hc : IsClear N fs W none := by
          by_cases hNW : N < W
          · exact .inr (.inl hNW)
          · exact .inr (.inr fun q h0 h1 => hat q h0 (by omega))
        have hv : clearVal N fs W = .tuple #[.int .i64 0, .bool false] := by unfold clearVal; rw [clear_eq hc]; rfl
        rw [HX.out] at hv
        injection hv with hv
        obtain ⟨hx, hb⟩ : x = 0 ∧ b = false := by simpa using hv
        clear hv
        subst hx hb
        go_wp2_with fail
        refine (awake_any _).mono ?_
        rintro e w3 ⟨rfl, hb3⟩
        go_wp2
        go_ret
        exact ⟨rfl, hbel.trans (hb3.mono hbel.size)⟩
end Go.Proofs.Ytcffjleecklhcaa
