/- Clear of the specification: the walk and the plain law. -/
import Derived.Test.YtcffjleecklhcaaRefValid
namespace Go.Proofs.Ytcffjleecklhcaa
open Go.RowKit

theorem least_free {fs : List Pt} {n : Int} : ∀ (k : Nat) (q : Int), q = k → freeB fs q n = true → ∃ c : Int, 0 ≤ c ∧ c ≤ q ∧ freeB fs c n = true ∧ (∀ q', 0 ≤ q' → q' < c → freeB fs q' n = false) ∧ (c = 0 ∨ ∃ (i : Nat) (f : Pt), fs[i]? = some f ∧ f.b = c)
  | 0, q, hq, hf => ⟨q, by omega, by omega, hf, fun q' h0 h1 => by omega, .inl (by omega)⟩
  | k + 1, q, hq, hf => by
    by_cases hall : ∃ q', 0 ≤ q' ∧ q' < q ∧ freeB fs q' n = true
    · obtain ⟨q', h0, h1, h2⟩ := hall
      -- walk down
      have : ∀ (m : Nat), (m : Int) < q → freeB fs m n = true → ∃ c : Int, 0 ≤ c ∧ c ≤ m ∧ freeB fs c n = true ∧ (∀ q', 0 ≤ q' → q' < c → freeB fs q' n = false) ∧ (c = 0 ∨ ∃ (i : Nat) (f : Pt), fs[i]? = some f ∧ f.b = c) := by
        intro m
        induction m using Nat.strongRecOn with
        | _ m ih =>
          intro hm hfm
          by_cases hall : ∃ m' : Nat, m' < m ∧ freeB fs m' n = true
          · obtain ⟨m', h3, h4⟩ := hall
            obtain ⟨c, c0, c1, c2, c3, c4⟩ := ih m' h3 (by omega) h4
            exact ⟨c, c0, by omega, c2, c3, c4⟩
          · refine ⟨m, by omega, by omega, hfm, fun q' h0 h1 => ?_, ?_⟩
            · obtain ⟨j, rfl⟩ := Int.eq_ofNat_of_zero_le h0
              cases hb : freeB fs (j : Int) n
              · rfl
              · exact absurd ⟨j, by omega, hb⟩ hall
            · by_cases hm0 : m = 0
              · exact .inl (by omega)
              · right
                have hno : freeB fs ((m - 1 : Nat) : Int) n = false := by
                  cases hb : freeB fs ((m - 1 : Nat) : Int) n
                  · rfl
                  · exact absurd ⟨m - 1, by omega, hb⟩ hall
                have : ¬ ∀ (i : Nat) f, fs[i]? = some f → ¬ hits f ((m - 1 : Nat) : Int) n := fun h => by rw [free_of h] at hno; cases hno
                simp only [Classical.not_forall, Classical.not_not] at this
                obtain ⟨i, f, hif, hh⟩ := this
                have hn := (freeB_iff _ _ _).1 hfm i f hif
                refine ⟨i, f, hif, ?_⟩
                unfold hits at hh hn
                omega
      obtain ⟨j, rfl⟩ := Int.eq_ofNat_of_zero_le h0
      obtain ⟨c, c0, c1, c2, c3, c4⟩ := this j h1 h2
      exact ⟨c, c0, by omega, c2, c3, c4⟩
    · refine ⟨q, by omega, by omega, hf, fun q' h0 h1 => ?_, ?_⟩
      · cases hb : freeB fs q' n
        · rfl
        · exact absurd ⟨q', h0, h1, hb⟩ hall
      · right
        have hno : freeB fs (q - 1) n = false := by
          cases hb : freeB fs (q - 1) n
          · rfl
          · exact absurd ⟨q - 1, by omega, by omega, hb⟩ hall
        have : ¬ ∀ (i : Nat) f, fs[i]? = some f → ¬ hits f (q - 1) n := fun h => by rw [free_of h] at hno; cases hno
        simp only [Classical.not_forall, Classical.not_not] at this
        obtain ⟨i, f, hif, hh⟩ := this
        have hn := (freeB_iff _ _ _).1 hf i f hif
        refine ⟨i, f, hif, ?_⟩
        unfold hits at hh hn
        omega

/-- a place at which the least free offset can be, among 0 and the first k faults' ends -/
def Cand (l : Int) (fs : List Pt) (n : Int) (k : Nat) (c : Int) : Prop := freeB fs c n = true ∧ (c = 0 ∨ ∃ (i : Nat) (f : Pt), i < k ∧ fs[i]? = some f ∧ f.b = c ∧ 0 < c ∧ c ≤ l - n)
/-- the loop's state -/
def RefAt (l : Int) (fs : List Pt) (n : Int) (k : Nat) (best : Int) (ok : Bool) : Prop :=
  (ok = true → 0 ≤ best ∧ best ≤ l - n ∧ Cand l fs n k best ∧ ∀ c, Cand l fs n k c → best ≤ c) ∧ (ok = false → best = 0 ∧ ∀ c, ¬ Cand l fs n k c)
theorem Cand.more {l : Int} {fs : List Pt} {n : Int} {k : Nat} {c : Int} (h : Cand l fs n k c) : Cand l fs n (k + 1) c :=
  ⟨h.1, h.2.imp id fun ⟨i, f, hi, r⟩ => ⟨i, f, by omega, r⟩⟩
theorem Cand.less {l : Int} {fs : List Pt} {n : Int} {k : Nat} {c : Int} {f : Pt} (h : Cand l fs n (k + 1) c) (hf : fs[k]? = some f) : Cand l fs n k c ∨ (c = f.b ∧ 0 < f.b ∧ f.b ≤ l - n ∧ freeB fs f.b n = true) := by
  obtain ⟨h1, h2 | ⟨i, f', hi, hif, hb, h0, hl⟩⟩ := h
  · exact .inl ⟨h1, .inl h2⟩
  · by_cases hik : i = k
    · subst hik
      rw [hf] at hif; injection hif with hif; subst hif
      exact .inr ⟨hb.symm, by omega, by omega, by rw [hb]; exact h1⟩
    · exact .inl ⟨h1, .inr ⟨i, f', by omega, hif, hb, h0, hl⟩⟩
theorem RefAt.start {l : Int} {fs : List Pt} {n : Int} (h : n ≤ l) : RefAt l fs n 0 0 (freeB fs 0 n) := by
  refine ⟨fun h1 => ⟨by omega, by omega, ⟨h1, .inl rfl⟩, fun c hc => ?_⟩, fun h1 => ⟨rfl, fun c hc => ?_⟩⟩
  · obtain ⟨_, h2 | ⟨i, f, hi, _⟩⟩ := hc <;> omega
  · obtain ⟨h3, h2 | ⟨i, f, hi, _⟩⟩ := hc
    · subst h2; rw [h1] at h3; cases h3
    · omega
theorem RefAt.skip {l : Int} {fs : List Pt} {n : Int} {k : Nat} {best : Int} {ok : Bool} {f : Pt} (h : RefAt l fs n k best ok) (hf : fs[k]? = some f)
    (hn : ¬ (0 < f.b ∧ f.b ≤ l - n ∧ freeB fs f.b n = true ∧ (ok = false ∨ f.b < best))) : RefAt l fs n (k + 1) best ok := by
  refine ⟨fun e => ?_, fun e => ?_⟩
  · obtain ⟨h0, h1, h2, h3⟩ := h.1 e
    refine ⟨h0, h1, h2.more, fun c hc => ?_⟩
    rcases hc.less hf with hc | ⟨rfl, a1, a2, a3⟩
    · exact h3 c hc
    · rcases Int.lt_or_le f.b best with hlt | hle
      · exact absurd ⟨a1, a2, a3, .inr hlt⟩ hn
      · exact hle
  · obtain ⟨h0, h1⟩ := h.2 e
    refine ⟨h0, fun c hc => ?_⟩
    rcases hc.less hf with hc | ⟨rfl, a1, a2, a3⟩
    · exact h1 c hc
    · exact hn ⟨a1, a2, a3, .inl e⟩
theorem RefAt.take {l : Int} {fs : List Pt} {n : Int} {k : Nat} {best : Int} {ok : Bool} {f : Pt} (h : RefAt l fs n k best ok) (hf : fs[k]? = some f)
    (hn : 0 < f.b ∧ f.b ≤ l - n ∧ freeB fs f.b n = true ∧ (ok = false ∨ f.b < best)) : RefAt l fs n (k + 1) f.b true := by
  obtain ⟨a1, a2, a3, a4⟩ := hn
  refine ⟨fun _ => ⟨by omega, a2, ⟨a3, .inr ⟨k, f, by omega, hf, rfl, a1, a2⟩⟩, fun c hc => ?_⟩, fun e => by cases e⟩
  rcases hc.less hf with hc | ⟨rfl, _⟩
  · rcases a4 with e | a4
    · exact absurd hc ((h.2 e).2 c)
    · cases ok
      · exact absurd hc ((h.2 rfl).2 c)
      · have := (h.1 rfl).2.2.2 c hc; omega
  · exact Int.le_refl _
theorem RefAt.fin {l : Int} {fs : List Pt} {n : Int} {best : Int} {ok : Bool} (hn : 1 ≤ n) (h : RefAt l fs n fs.length best ok) : .tuple #[.int .i64 best, .bool ok] = clearVal l fs n := by
  have key : ∀ q, 0 ≤ q → q ≤ l - n → freeB fs q n = true → ∃ c, c ≤ q ∧ Cand l fs n fs.length c := by
    intro q h0 h1 h2
    obtain ⟨j, rfl⟩ := Int.eq_ofNat_of_zero_le h0
    obtain ⟨c, c0, c1, c2, c3, c4⟩ := least_free j j rfl h2
    refine ⟨c, c1, c2, ?_⟩
    rcases c4 with c4 | ⟨i, f, hi, hb⟩
    · exact .inl c4
    · by_cases hc : c = 0
      · exact .inl hc
      · exact .inr ⟨i, f, (List.getElem?_eq_some_iff.1 hi).1, hi, hb, by omega, by omega⟩
  cases ok
  · obtain ⟨rfl, h1⟩ := h.2 rfl
    have hc : IsClear l fs n none := .inr (.inr fun q h0 hq => by
      cases hb : freeB fs q n
      · rfl
      · obtain ⟨c, _, hc⟩ := key q h0 hq hb
        exact absurd hc (h1 c))
    unfold clearVal; rw [clear_eq hc]; rfl
  · obtain ⟨h0, h1, h2, h3⟩ := h.1 rfl
    have hc : IsClear l fs n (some best) := ⟨hn, h0, h1, h2.1, fun q q0 hq => by
      cases hb : freeB fs q n
      · rfl
      · obtain ⟨c, hcq, hc⟩ := key q q0 (by omega) hb
        have := h3 c hc
        omega⟩
    unfold clearVal; rw [clear_eq hc]; rfl

set_option maxHeartbeats 2000000 in
theorem refClear_any (l n : Int) (A : Option Addr) (c : Nat) (fs : List Pt) (w : World) (hl : l ≤ 9223372036854775807) (hlen : fs.length ≤ 100000) (hS : Slc Pt.enc 2 w w.heap.size A fs) (hI : ∀ x ∈ fs, -9223372036854775808 ≤ x.a ∧ x.a ≤ 9223372036854775807) :
    Calls Try.prog 12 #[.int .i64 l, .slice A fs.length c, .int .i64 n] w fun e w' => e = .returned (clearVal l fs n) ∧ Below w.heap.size w w' := by
  have HI := hide hI
  clear hI
  by_cases h1 : n < 1
  · go_enter Try.func12, Try.ntmps12
    go_wp2
    go_ret2
    exact ⟨clear_none_val (.inl h1), Below.refl _ _⟩
  by_cases h2 : l < n
  · go_enter Try.func12, Try.ntmps12
    go_wp2
    go_ret2
    exact ⟨clear_none_val (.inr (.inl h2)), Below.refl _ _⟩
  go_enter Try.func12, Try.ntmps12
  go_wp2_with (go_at_call 20; refine (free_any _ _ _ _ _ _ (by omega) (by omega) (by omega) hlen hS HI.out).mono ?_; rintro e w' ⟨rfl, hb0⟩)
  go_loopw [8, 9, 10] (fun a g i w1 => ∃ (p : Int) (b : Bool) (k : Nat), k ≤ fs.length ∧ a = .int .i64 p ∧ g = .bool b ∧ i = .int .i64 k ∧ RefAt l fs n k p b ∧ Below w.heap.size w w1) (fun _ _ i _ => (fs.length - (intOf i).toNat))
  case atStart => exact ⟨0, _, 0, Nat.zero_le _, rfl, rfl, rfl, RefAt.start (by omega), hb0⟩
  case round =>
    obtain ⟨p, b, k, hk, rfl, rfl, rfl, hat, hbel⟩ := hrel
    by_cases hlt : k < fs.length
    · obtain ⟨f, t, bb, off, hx, rfl, hb, c0, c1⟩ := pts_at (hS.below hbel) hlt
      have HX := hide hx
      clear hx
      by_cases g : 0 < t ∧ t ≤ l - n
      · obtain ⟨g1, g2⟩ := g
        cases hfr : freeB fs t n
        · go_wp2_with (go_at_call 20; refine (free_any _ _ _ _ _ _ (by omega) (by omega) (by omega) hlen ((hS.below hbel).more hbel.size) HI.out).mono ?_; rintro e w' ⟨rfl, hb1⟩)
          go_roundw
          case rel => exact ⟨p, b, k + 1, by omega, rfl, rfl, by go_num, hat.skip HX.out (by simp [hfr]), hbel.trans (hb1.mono hbel.size)⟩
          case measure => simp [intOf]; omega
        · cases b
          · go_wp2_with (go_at_call 20; refine (free_any _ _ _ _ _ _ (by omega) (by omega) (by omega) hlen ((hS.below hbel).more hbel.size) HI.out).mono ?_; rintro e w' ⟨rfl, hb1⟩)
            go_roundw
            case rel => exact ⟨t, true, k + 1, by omega, rfl, rfl, by go_num, hat.take HX.out ⟨g1, g2, hfr, .inl rfl⟩, hbel.trans (hb1.mono hbel.size)⟩
            case measure => simp [intOf]; omega
          · by_cases g3 : t < p
            · go_wp2_with (go_at_call 20; refine (free_any _ _ _ _ _ _ (by omega) (by omega) (by omega) hlen ((hS.below hbel).more hbel.size) HI.out).mono ?_; rintro e w' ⟨rfl, hb1⟩)
              go_roundw
              case rel => exact ⟨t, true, k + 1, by omega, rfl, rfl, by go_num, hat.take HX.out ⟨g1, g2, hfr, .inr g3⟩, hbel.trans (hb1.mono hbel.size)⟩
              case measure => simp [intOf]; omega
            · go_wp2_with (go_at_call 20; refine (free_any _ _ _ _ _ _ (by omega) (by omega) (by omega) hlen ((hS.below hbel).more hbel.size) HI.out).mono ?_; rintro e w' ⟨rfl, hb1⟩)
              go_roundw
              case rel => exact ⟨p, true, k + 1, by omega, rfl, rfl, by go_num, hat.skip HX.out (by simp; omega), hbel.trans (hb1.mono hbel.size)⟩
              case measure => simp [intOf]; omega
      · by_cases g1 : 0 < t
        all_goals
          go_wp2
          go_roundw
          case rel => exact ⟨p, b, k + 1, by omega, rfl, rfl, by go_num, hat.skip HX.out (by simp; omega), hbel⟩
          case measure => simp [intOf]; omega
    · obtain rfl : k = fs.length := by omega
      go_wp2
      go_ret2
      exact ⟨congrArg Ending.returned (hat.fin (by omega)), hbel⟩
end Go.Proofs.Ytcffjleecklhcaa
