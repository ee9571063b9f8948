/- The steps of both parsers on a text, and what they make of a cut: plain laws. -/
import Derived.Test.YtecaaimaeaocbaaDoorKNum
import Derived.Test.YtecaaimaeaocbaaDoorKTreeM
namespace Go.Proofs.YtecaaimaeaocbaaDoor
open Go Go.RowKit
/-- a step of a parser: from the text l to l', with its flag -/
structure StepR {α : Type} (F : Bs → Option (α × Bs)) (R : α → Prop) (l : Bs) (b : Bool) (l' : Bs) (b' : Bool) : Prop where
  len : l'.length ≤ l.length
  ok : b' = false → b = false ∧ ∃ x, F l = some (x, l') ∧ R x
  no : b' = true → b = true ∨ F l = none
def wordF (p : Bs) (l : Bs) : Option (Unit × Bs) := (wordT p l).map fun r => ((), r)
abbrev WordR (p : Bs) (l : Bs) (b : Bool) (l' : Bs) (b' : Bool) : Prop := StepR (wordF p) (fun _ => True) l b l' b'
theorem WordR.is {p l l' : Bs} {b b' : Bool} (h : WordR p l b l' b') : (b' = false → b = false ∧ wordT p l = some l') ∧ (b' = true → b = true ∨ wordT p l = none) := by
  refine ⟨fun hb => ?_, fun hb => ?_⟩
  · obtain ⟨h1, x, h2, _⟩ := h.ok hb
    refine ⟨h1, ?_⟩
    unfold wordF at h2
    obtain ⟨r, h3, h4⟩ := Option.map_eq_some_iff.1 h2
    injection h4 with _ h4
    rw [h3, h4]
  · rcases h.no hb with h1 | h1
    · exact .inl h1
    · right
      unfold wordF at h1
      exact Option.map_eq_none_iff.1 h1
/-- what follows the letter of a cut -/
def sawnT (f : Nat) (c : UInt8) (s : Bs) : Option (Tree × Bs) :=
  (wordT [32] s).bind fun s1 => (numT s1).bind fun q => (wordT [32, 40] q.2).bind fun s3 => (cutT f s3).bind fun a => (wordT [44, 32] a.2).bind fun s5 => (cutT f s5).bind fun b => (wordT [41] b.2).bind fun s7 =>
    some (.node (if c == 118 then 3 else 2) q.1 0 [a.1, b.1], s7)
theorem cutT_saw {f : Nat} {c : UInt8} {s : Bs} (h : isCut c s = true) : cutT (f + 1) (c :: s) = sawnT f c s := by
  unfold cutT sawnT; rw [if_pos h]
theorem cutT_nil (f : Nat) : cutT f [] = none := by cases f <;> rfl
theorem cutT_leaf {f : Nat} {c : UInt8} {s : Bs} (h : isCut c s = false) : cutT (f + 1) (c :: s) = if c = 95 then some (.node 0 0 0 [], s) else if 97 ≤ c.toNat ∧ c.toNat ≤ 122 then some (.node 1 0 c.toNat [], s) else none := by
  conv => lhs; unfold cutT
  rw [if_neg (by rw [h]; simp)]
/-- the steps of a cut together -/
theorem saw_join {f : Nat} {c : UInt8} {l0 l1 l2 l3 l4 l5 l6 l7 : Bs} {b0 b1 b2 b3 b4 b5 b6 b7 : Bool} {v : Nat} {Ta Tb : Tree → Prop}
    (h1 : WordR [32] l0 b0 l1 b1) (h2 : StepR numT (fun x => x = v) l1 b1 l2 b2) (h3 : WordR [32, 40] l2 b2 l3 b3) (h4 : StepR (cutT f) Ta l3 b3 l4 b4) (h5 : WordR [44, 32] l4 b4 l5 b5) (h6 : StepR (cutT f) Tb l5 b5 l6 b6) (h7 : WordR [41] l6 b6 l7 b7) :
    StepR (sawnT f c) (fun t => ∃ ta tb, t = .node (if c == 118 then 3 else 2) v 0 [ta, tb] ∧ Ta ta ∧ Tb tb) l0 b0 l7 b7 := by
  obtain ⟨o1, n1⟩ := h1.is
  obtain ⟨o3, n3⟩ := h3.is
  obtain ⟨o5, n5⟩ := h5.is
  obtain ⟨o7, n7⟩ := h7.is
  have len := Nat.le_trans h7.len (Nat.le_trans h6.len (Nat.le_trans h5.len (Nat.le_trans h4.len (Nat.le_trans h3.len (Nat.le_trans h2.len h1.len)))))
  refine ⟨len, fun hb => ?_, fun hb => ?_⟩
  · obtain ⟨e6, w7⟩ := o7 hb
    obtain ⟨e5, tb, w6, q6⟩ := h6.ok e6
    obtain ⟨e4, w5⟩ := o5 e5
    obtain ⟨e3, ta, w4, q4⟩ := h4.ok e4
    obtain ⟨e2, w3⟩ := o3 e3
    obtain ⟨e1, x, w2, rfl⟩ := h2.ok e2
    obtain ⟨e0, w1⟩ := o1 e1
    refine ⟨e0, _, ?_, ta, tb, rfl, q4, q6⟩
    unfold sawnT
    rw [w1, Option.bind_some, w2, Option.bind_some]
    dsimp only
    rw [w3, Option.bind_some, w4, Option.bind_some]
    dsimp only
    rw [w5, Option.bind_some, w6, Option.bind_some]
    dsimp only
    rw [w7, Option.bind_some]
  · cases b0 with
    | true => exact .inl rfl
    | false =>
      right
      unfold sawnT
      cases b1 with
      | true => rw [(n1 rfl).resolve_left (by decide)]; rfl
      | false =>
        rw [(o1 rfl).2, Option.bind_some]
        cases b2 with
        | true => rw [(h2.no rfl).resolve_left (by decide)]; rfl
        | false =>
          obtain ⟨_, x, w2, rfl⟩ := h2.ok rfl
          rw [w2, Option.bind_some]
          dsimp only
          cases b3 with
          | true => rw [(n3 rfl).resolve_left (by decide)]; rfl
          | false =>
            rw [(o3 rfl).2, Option.bind_some]
            cases b4 with
            | true => rw [(h4.no rfl).resolve_left (by decide)]; rfl
            | false =>
              obtain ⟨_, ta, w4, _⟩ := h4.ok rfl
              rw [w4, Option.bind_some]
              dsimp only
              cases b5 with
              | true => rw [(n5 rfl).resolve_left (by decide)]; rfl
              | false =>
                rw [(o5 rfl).2, Option.bind_some]
                cases b6 with
                | true => rw [(h6.no rfl).resolve_left (by decide)]; rfl
                | false =>
                  obtain ⟨_, tb, w6, _⟩ := h6.ok rfl
                  rw [w6, Option.bind_some]
                  dsimp only
                  rw [(n7 hb).resolve_left (by decide)]; rfl
theorem NumR.step {s s' : ByteArray} {b b' : Bool} {v : Nat} (h : NumR s b v s' b') : StepR numT (fun x => x = v) (byt s) b (byt s') b' :=
  ⟨by rw [byt_len, byt_len]; exact h.size, fun hb => ⟨(h.ok hb).1, v, (h.ok hb).2, rfl⟩, h.no⟩
/-- a word of the program's parser, as a step -/
theorem word_r (g : Nat) (s p : ByteArray) (bad : Bool) (w : World) (hk : Blk w g 103 #[.string s, .bool bad]) :
    Calls Tryd.prog 118 #[.pointer (some ⟨g, 0, none⟩), .string p] w fun e w' => ∃ (s' : ByteArray) (bad' : Bool), e = .returned (.tuple #[]) ∧ Blk w' g 103 #[.string s', .bool bad'] ∧ Chg (fun k => k = g) w w' ∧ WordR (byt p) (byt s) bad (byt s') bad' := by
  refine (word_any g s p bad w hk).mono ?_
  rintro e w' ⟨rfl, h1, h2⟩
  refine ⟨_, _, rfl, h1, h2, ?_⟩
  have h3 := word_is s p
  cases hb : begB s p with
  | true =>
    rw [hb, if_pos rfl] at h3
    refine ⟨?_, fun h => ?_, fun h => ?_⟩
    · have := wordT_len h3; omega
    · refine ⟨by simpa using h, (), ?_, trivial⟩
      unfold wordF; rw [h3]; rfl
    · left; simpa using h
  | false =>
    have h4 : leftB s p = s := by unfold leftB; rw [hb]; rfl
    rw [hb, if_neg (by decide)] at h3
    rw [h4]
    refine ⟨Nat.le_refl _, fun h => by simp at h, fun _ => .inr ?_⟩
    unfold wordF; rw [h3]; rfl
theorem isCut_is (s : ByteArray) (h : 0 < s.size) : ∃ c l, byt s = c :: l ∧ c.toNat = bat s 0 ∧ byt (s.extract 1 s.size) = l ∧ isCut c l = (begB s ⟨#[104, 32]⟩ || begB s ⟨#[118, 32]⟩) := by
  have hl : (byt s).length = s.size := byt_len s
  cases hb : byt s with
  | nil => rw [hb] at hl; simp at hl; omega
  | cons c l =>
    refine ⟨c, l, rfl, ?_, ?_, ?_⟩
    · unfold bat; rw [hb]; rfl
    · rw [byt_extract, List.take_of_length_le (by rw [hl]; exact Nat.le_refl _), hb]; rfl
    · rw [begB_is, begB_is, hb]
      have e1 : byt ⟨#[104, 32]⟩ = [104, 32] := rfl
      have e2 : byt ⟨#[118, 32]⟩ = [118, 32] := rfl
      rw [e1, e2]
      unfold isCut
      cases l with
      | nil => simp [List.isPrefixOf]
      | cons d l =>
        simp only [List.isPrefixOf, List.head?_cons, Bool.and_true]
        have x1 : (c == (104 : UInt8)) = ((104 : UInt8) == c) := by rw [Bool.eq_iff_iff, beq_iff_eq, beq_iff_eq]; exact eq_comm
        have x2 : (c == (118 : UInt8)) = ((118 : UInt8) == c) := by rw [Bool.eq_iff_iff, beq_iff_eq, beq_iff_eq]; exact eq_comm
        have x3 : (some d == some (32 : UInt8)) = ((32 : UInt8) == d) := by rw [Bool.eq_iff_iff, beq_iff_eq, beq_iff_eq]; simp [eq_comm]
        rw [x1, x2, x3]
        cases ((104 : UInt8) == c) <;> cases ((118 : UInt8) == c) <;> cases ((32 : UInt8) == d) <;> rfl
end Go.Proofs.YtecaaimaeaocbaaDoor
