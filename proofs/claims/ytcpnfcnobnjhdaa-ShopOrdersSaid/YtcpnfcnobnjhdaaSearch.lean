/- slices.BinarySearch at []int: the walk; whether a day is free. -/
import Derived.Test.YtcpnfcnobnjhdaaShopValid3
namespace Go.Proofs.Ytcpnfcnobnjhdaa
open Go.RowKit
theorem less_any (a b : Int) (w : World) : Calls Try.prog 87 #[.int .i64 a, .int .i64 b] w fun e w' => e = .returned (.bool (decide (a < b))) ∧ w = w' := by
  by_cases h : a < b
  · go_enter Try.func87, Try.ntmps87
    go_wp2
    go_ret
    exact ⟨ret_bool (by simp [h]), rfl⟩
  · go_enter Try.func87, Try.ntmps87
    go_wp2
    go_ret
    exact ⟨ret_bool (by simp; omega), rfl⟩
theorem nan_any (a : Int) (w : World) : Calls Try.prog 88 #[.int .i64 a] w fun e w' => e = .returned (.bool false) ∧ w = w' := by
  go_enter Try.func88, Try.ntmps88
  go_wp2
  go_ret
  exact ⟨rfl, rfl⟩

/-- how many elements are less than x -/
def lbN (l : List Int) (x : Int) : Nat := l.countP fun y => decide (y < x)
theorem lb_of {x : Int} : ∀ {l : List Int} {i : Nat}, i ≤ l.length → (∀ (j : Nat) y, l[j]? = some y → j < i → y < x) → (∀ (j : Nat) y, l[j]? = some y → i ≤ j → x ≤ y) → lbN l x = i
  | [], i, hi, _, _ => by simp at hi; simp [lbN, hi]
  | y :: l, 0, _, _, h2 => by
    have h := lb_of (l := l) (i := 0) (x := x) (Nat.zero_le _) (fun j y _ hj => by omega) (fun j y hy _ => h2 (j + 1) y (by simpa using hy) (by omega))
    have := h2 0 y rfl (Nat.le_refl _)
    unfold lbN at h ⊢
    rw [List.countP_cons, h]
    simp; omega
  | y :: l, i + 1, hi, h1, h2 => by
    have h := lb_of (l := l) (i := i) (x := x) (by simpa using hi) (fun j y hy hj => h1 (j + 1) y (by simpa using hy) (by omega)) (fun j y hy hj => h2 (j + 1) y (by simpa using hy) (by omega))
    have := h1 0 y rfl (by omega)
    unfold lbN at h ⊢
    rw [List.countP_cons, h]
    simp; omega
/-- strictly ascending -/
def Asc (l : List Int) : Prop := ∀ (i j : Nat) y z, i < j → l[i]? = some y → l[j]? = some z → y < z
def hasB (l : List Int) (x : Int) : Bool := l.contains x
theorem asc_has {l : List Int} {x y : Int} {i : Nat} (h : Asc l) (hi : l[i]? = some y) (h1 : ∀ (j : Nat) z, l[j]? = some z → j < i → z < x) (h2 : x ≤ y) : hasB l x = (y == x) := by
  unfold hasB
  rw [Bool.eq_iff_iff, List.contains_iff_mem, beq_iff_eq]
  constructor
  · intro hm
    obtain ⟨j, hj⟩ := List.getElem?_of_mem hm
    rcases Nat.lt_trichotomy j i with hlt | rfl | hgt
    · have := h1 j x hj hlt; omega
    · rw [hi] at hj; injection hj
    · have := h i j y x hgt hi hj; omega
  · rintro rfl
    exact List.mem_of_getElem? hi
theorem asc_no {l : List Int} {x : Int} (h1 : ∀ (j : Nat) z, l[j]? = some z → z < x) : hasB l x = false := by
  unfold hasB
  rw [← Bool.not_eq_true, List.contains_iff_mem]
  intro hm
  obtain ⟨j, hj⟩ := List.getElem?_of_mem hm
  have := h1 j x hj
  omega
/-- the loop's state -/
def SearchAt (l : List Int) (x : Int) (i j : Nat) : Prop :=
  i ≤ j ∧ j ≤ l.length ∧ (∀ (k : Nat) y, l[k]? = some y → k < i → y < x) ∧ (∀ (k : Nat) y, l[k]? = some y → j ≤ k → x ≤ y)

set_option maxRecDepth 100000 in
theorem search_any (x : Int) (A : Option Addr) (c : Nat) (l : List Int) (w : World) (hlen : l.length ≤ 1000) (ha : Asc l) (hS : Slc intEnc 1 w w.heap.size A l) :
    Calls Try.prog 76 #[.slice A l.length c, .int .i64 x] w fun e w' => e = .returned (.tuple #[.int .i64 (lbN l x), .bool (hasB l x)]) ∧ w = w' := by
  have HA := hide ha
  clear ha
  go_enter Try.func76, Try.ntmps76
  go_wp2
  go_loop [7, 8] (fun a b => ∃ i j : Nat, i ≤ j ∧ j ≤ l.length ∧ a = .int .i64 i ∧ b = .int .i64 j ∧ SearchAt l x i j) (fun a b => (intOf b).toNat - (intOf a).toNat)
  case atStart => exact ⟨0, l.length, Nat.zero_le _, Nat.le_refl _, rfl, rfl, Nat.zero_le _, Nat.le_refl _, fun k y _ h => by omega, fun k y hy h => by have := (List.getElem?_eq_some_iff.1 hy).1; omega⟩
  case round =>
    obtain ⟨i, j, hij, hj, rfl, rfl, hat⟩ := hrel
    have HT := hide hat
    clear hat
    by_cases h : i < j
    · obtain ⟨y, b, off, hx, rfl, hb, hc⟩ := ints_at' (k := (i + j) / 2) hS (by omega)
      have HX := hide hx
      clear hx
      by_cases hy : y < x
      · have hd : decide (y < x) = true := by simpa using hy
        go_wp2_with (go_at_call 87; refine (less_any _ _ _).mono ?_; rintro e w' ⟨rfl, rfl⟩)
        go_round
        case rel => 
          obtain ⟨a1, a2, a3, a4⟩ := HT.out
          refine ⟨(i + j) / 2 + 1, j, by omega, hj, by go_num, rfl, by omega, hj, fun k z hz hk => ?_, a4⟩
          by_cases hke : k = (i + j) / 2
          · rw [hke, HX.out] at hz; injection hz with hz; omega
          · by_cases hki : k < (i + j) / 2
            · have := HA.out k ((i + j) / 2) z y hki hz HX.out; omega
            · omega
        case measure => simp [intOf]; omega
      · have hd : decide (y < x) = false := by simpa using hy
        go_wp2_with (go_at_call 87; refine (less_any _ _ _).mono ?_; rintro e w' ⟨rfl, rfl⟩)
        go_round
        case rel => 
          obtain ⟨a1, a2, a3, a4⟩ := HT.out
          refine ⟨i, (i + j) / 2, by omega, by omega, rfl, by go_num, by omega, by omega, a3, fun k z hz hk => ?_⟩
          by_cases hke : k = (i + j) / 2
          · rw [hke, HX.out] at hz; injection hz with hz; omega
          · have := HA.out ((i + j) / 2) k y z (by omega) HX.out hz; omega
        case measure => simp [intOf]; omega
    · obtain rfl : i = j := by omega
      by_cases hl : i < l.length
      · obtain ⟨y, b, off, hx, rfl, hb, hc⟩ := ints_at' (k := i) hS hl
        have e1 : lbN l x = i := lb_of HT.out.2.1 HT.out.2.2.1 HT.out.2.2.2
        have e2 : hasB l x = (y == x) := asc_has HA.out hx HT.out.2.2.1 (HT.out.2.2.2 i y hx (Nat.le_refl _))
        have E1 := hide e1
        have E2 := hide e2
        clear e1 e2 hx
        by_cases hyx : y = x
        · have hd : (y == x) = true := by simpa using hyx
          have E3 := hide hd
          clear hyx
          go_wp2_with (go_at_call 88; refine (nan_any _ _).mono ?_; rintro e w' ⟨rfl, rfl⟩)
          go_ret2
          exact ⟨ret_ib (by rw [E1.out]) (by rw [E2.out, E3.out]), rfl⟩
        · have hd : (y == x) = false := by simpa using hyx
          have E3 := hide hd
          clear hyx
          go_wp2_with (go_at_call 88; refine (nan_any _ _).mono ?_; rintro e w' ⟨rfl, rfl⟩)
          go_ret2
          exact ⟨ret_ib (by rw [E1.out]) (by rw [E2.out, E3.out]), rfl⟩
      · obtain rfl : i = l.length := by omega
        have e1 : lbN l x = l.length := lb_of (Nat.le_refl _) HT.out.2.2.1 HT.out.2.2.2
        have e2 : hasB l x = false := asc_no fun j z hz => HT.out.2.2.1 j z hz (List.getElem?_eq_some_iff.1 hz).1
        have E1 := hide e1
        have E2 := hide e2
        clear e1 e2
        go_wp2_with fail
        go_ret2
        exact ⟨ret_ib (by rw [E1.out]) (by rw [E2.out]), rfl⟩
end Go.Proofs.Ytcpnfcnobnjhdaa
