/- Parts of the proofs of this seat: Large. Each part says what it proves; no condition beyond those stated there. -/
import Derived.Deep.DeepCutAuto
import Derived.Test.YtehlbomkldnalaaGreatQ2

/- Which scripts are too large: the walk. -/
namespace Go.Proofs.YtehlbomkldnalaaGreat
open Go Go.RowKit
theorem call_at {w : World} {B : Nat} {A : Option Addr} {xs : List CallV} {i : Nat} {x : CallV} (h : Slc CallV.enc 17 w B A xs) (hi : xs[i]? = some x) : ∃ b off, A = some ⟨b, off, none⟩ ∧ b < B ∧
  w.cell? ⟨b, off + i * 17, none⟩ = some (.int .i64 x.kind) ∧ w.cell? ⟨b, off + i * 17 + 1, none⟩ = some (.int .i64 x.id) ∧ w.cell? ⟨b, off + i * 17 + 2, none⟩ = some (.int .i64 x.gr) ∧ w.cell? ⟨b, off + i * 17 + 3, none⟩ = some (.int .i64 x.co) ∧ w.cell? ⟨b, off + i * 17 + 4, none⟩ = some (.int .i64 x.lo) ∧ w.cell? ⟨b, off + i * 17 + 5, none⟩ = some (.int .i64 x.ma) ∧ w.cell? ⟨b, off + i * 17 + 6, none⟩ = some (.int .i64 x.wi) ∧ w.cell? ⟨b, off + i * 17 + 7, none⟩ = some (.int .i64 x.le) ∧ w.cell? ⟨b, off + i * 17 + 8, none⟩ = some (.slice x.A x.n x.c) ∧ w.cell? ⟨b, off + i * 17 + 9, none⟩ = some (.int .i64 x.ng) ∧ w.cell? ⟨b, off + i * 17 + 10, none⟩ = some (.int .i64 x.nq) ∧ w.cell? ⟨b, off + i * 17 + 11, none⟩ = some (.int .i64 x.nw) ∧ w.cell? ⟨b, off + i * 17 + 12, none⟩ = some (.int .i64 x.nl) ∧ w.cell? ⟨b, off + i * 17 + 13, none⟩ = some (.int .i64 x.nk) ∧ w.cell? ⟨b, off + i * 17 + 14, none⟩ = some (.int .i64 x.day) ∧ w.cell? ⟨b, off + i * 17 + 15, none⟩ = some (.int .i64 x.cid) ∧ w.cell? ⟨b, off + i * 17 + 16, none⟩ = some (.int .i64 x.what) := by
 obtain ⟨b, off, hA, hb, h0⟩ := h i _ hi
 exact ⟨b, off, hA, hb, h0 0 _ rfl, h0 1 _ rfl, h0 2 _ rfl, h0 3 _ rfl, h0 4 _ rfl, h0 5 _ rfl, h0 6 _ rfl, h0 7 _ rfl, h0 8 _ rfl, h0 9 _ rfl, h0 10 _ rfl, h0 11 _ rfl, h0 12 _ rfl, h0 13 _ rfl, h0 14 _ rfl, h0 15 _ rfl, h0 16 _ rfl⟩
def bigB (x : CallV) : Bool := decide (40 < x.n) || (decide (12 < x.nk) && decide (x.nk ≤ 50))
def largeB (xs : List CallV) (m : Int) : Bool := decide (m < xs.length) || xs.any bigB
theorem not_large {xs : List CallV} {m : Int} (h : largeB xs m = false) : (xs.length : Int) ≤ m ∧ ∀ x ∈ xs, x.n ≤ 40 ∧ (x.nk ≤ 12 ∨ 50 < x.nk) := by
 unfold largeB at h
 simp only [Bool.or_eq_false_iff, decide_eq_false_iff_not] at h
 refine ⟨by omega, fun x hx => ?_⟩
 have h1 : bigB x = false := by
  cases hb : bigB x with
  | false => rfl
  | true => exact absurd (List.any_eq_true.2 ⟨x, hx, hb⟩) (by rw [h.2]; simp)
 unfold bigB at h1
 simp only [Bool.or_eq_false_iff, Bool.and_eq_false_iff, decide_eq_false_iff_not] at h1
 omega
set_option maxRecDepth 100000 in
set_option maxHeartbeats 2000000 in
theorem large_any (A : Option Addr) (c : Nat) (xs : List CallV) (m : Int) (w : World) (hS : Slc CallV.enc 17 w w.heap.size A xs) (hlen : xs.length ≤ maxLen) :
  Calls Tryz.prog 5 #[.slice A xs.length c, m] w fun e w' => e = .returned (.bool (largeB xs m)) ∧ w = w' := by
 unfold maxLen at hlen
 by_cases hm : m < (xs.length : Int)
 ·have HL : Hid (largeB xs m = true) := by show _ = _; unfold largeB; rw [decide_eq_true hm]; rfl
  go_enter Tryz.func5, Tryz.ntmps5
  go_wp2_with fail
  go_ret
  exact ⟨by rw [HL.out]; rfl, rfl⟩
 ·have HM := hide hm
  go_enter Tryz.func5, Tryz.ntmps5
  go_upto_region 4 with fail
  clear hm
  go_loopw [5] (fun z wr => ∃ (i : Nat), z = .int .i64 i ∧ i ≤ xs.length ∧ Hid (∀ y ∈ xs.take i, bigB y = false) ∧ w = wr) (fun z _ => xs.length - (intOf z).toNat)
  case atStart => exact ⟨0, rfl, Nat.zero_le _, (fun y hy => by simp at hy : Hid _), rfl⟩
  case round =>
   obtain ⟨i, rfl, hi, HP, rfl⟩ := hrel
   by_cases hlt : i < xs.length
   ·obtain ⟨x, hx⟩ : ∃ x, xs[i]? = some x := ⟨_, List.getElem?_eq_getElem hlt⟩
    obtain ⟨b, off, hA, hb, d0, d1, d2, d3, d4, d5, d6, d7, d8, d9, d10, d11, d12, d13, d14, d15, d16⟩ := call_at hS hx
    have hii : (i : Int) < (xs.length : Int) := by omega
    have ei := wsuc i (by omega)
    have HX := hide hx
    clear d0 d1 d2 d3 d4 d5 d6 d7 d9 d10 d11 d12 d14 d15 d16 hx
    subst hA
    by_cases h1 : (40 : Int) < (x.n : Int)
    ·have H1 := hide h1
     have HL : Hid (largeB xs m = true) := by
      show _ = _
      unfold largeB
      rw [List.any_eq_true.2 ⟨x, List.mem_of_getElem? HX.out, by unfold bigB; rw [decide_eq_true (show 40 < x.n by have := H1.out; omega)]; simp⟩, Bool.or_true]
     go_wp2_with fail
     go_ret
     exact ⟨by rw [HL.out]; rfl, rfl⟩
    ·by_cases h2 : 12 < x.nk
     ·by_cases h3 : x.nk ≤ 50
      ·have H1 := hide h1
       have H2 := hide h2
       have H3 := hide h3
       have HL : Hid (largeB xs m = true) := by
        show _ = _
        unfold largeB
        rw [List.any_eq_true.2 ⟨x, List.mem_of_getElem? HX.out, by unfold bigB; rw [decide_eq_true H2.out, decide_eq_true H3.out]; simp⟩, Bool.or_true]
       go_wp2_with fail
       go_ret
       exact ⟨by rw [HL.out]; rfl, rfl⟩
      ·have H1 := hide h1
       have H3 := hide h3
       have HT : Hid (∀ y ∈ xs.take (i + 1), bigB y = false) := fun y hy => by
        rw [List.take_add_one, HX.out, Option.toList_some] at hy
        rcases List.mem_append.1 hy with h | h
        ·exact HP.out y h
        ·rw [List.mem_singleton.1 h]; unfold bigB; rw [decide_eq_false (show ¬ 40 < x.n by have := H1.out; omega), decide_eq_false H3.out]; simp
       go_wp2_with fail
       go_roundw
       case rel => exact ⟨i + 1, by go_num, by omega, HT, by first | rfl | trivial⟩
       case measure => simp [intOf]; omega
     ·have H1 := hide h1
      have H2 := hide h2
      have HT : Hid (∀ y ∈ xs.take (i + 1), bigB y = false) := fun y hy => by
       rw [List.take_add_one, HX.out, Option.toList_some] at hy
       rcases List.mem_append.1 hy with h | h
       ·exact HP.out y h
       ·rw [List.mem_singleton.1 h]; unfold bigB; rw [decide_eq_false (show ¬ 40 < x.n by have := H1.out; omega), decide_eq_false H2.out]; simp
      go_wp2_with fail
      go_roundw
      case rel => exact ⟨i + 1, by go_num, by omega, HT, by first | rfl | trivial⟩
      case measure => simp [intOf]; omega
   ·obtain rfl : i = xs.length := by omega
    have HL : Hid (largeB xs m = false) := by
     show _ = _
     have h2 : xs.any bigB = false := by
      cases hb : xs.any bigB with
      | false => rfl
      | true =>
       obtain ⟨y, hy, hb2⟩ := List.any_eq_true.1 hb
       rw [HP.out y (by rw [List.take_length]; exact hy)] at hb2
       cases hb2
     unfold largeB
     rw [h2, decide_eq_false (show ¬ m < (xs.length : Int) by have := HM.out; omega)]; rfl
    go_wp2_with fail
    go_ret
    exact ⟨by rw [HL.out]; rfl, rfl⟩
theorem large_is (A : Option Addr) (c : Nat) (xs : List CallV) (m : Int) (w : World) (hS : Slc CallV.enc 17 w w.heap.size A xs) (hlen : xs.length ≤ maxLen) {b : Bool} (h : largeB xs m = b) :
  Calls Tryz.prog 5 #[.slice A xs.length c, m] w fun e w' => e = .returned (.bool b) ∧ w = w' := by
 subst h; exact large_any A c xs m w hS hlen
end Go.Proofs.YtehlbomkldnalaaGreat
