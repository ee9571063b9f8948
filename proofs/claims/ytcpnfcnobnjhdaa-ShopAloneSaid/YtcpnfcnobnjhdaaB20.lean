/- Parts of the proofs of this seat: OrderP. Each part says what it proves; no condition beyond those stated there. -/
import Derived.Laws.StructEq
import Derived.ChangeKeysEq
import Derived.Test.YtcpnfcnobnjhdaaB19

/- The order of a machine's steps: the plain law. -/
namespace Go.Proofs.Ytcpnfcnobnjhdaa
open Go.RowKit
def AscT (l : List At) : Prop := l.Pairwise fun a b => a.t ≤ b.t
theorem insA_mem {a c : At} : ∀ {l : List At}, c ∈ insA a l ↔ c = a ∨ c ∈ l
  | [] => by simp [insA]
  | b :: l => by
    unfold insA
    split
    · simp
    · rw [List.mem_cons, insA_mem, List.mem_cons]
      constructor
      · rintro (h | h | h)
        · exact .inr (.inl h)
        · exact .inl h
        · exact .inr (.inr h)
      · rintro (h | h | h)
        · exact .inr (.inl h)
        · exact .inl h
        · exact .inr (.inr h)
theorem insA_asc {a : At} : ∀ {l : List At}, AscT l → AscT (insA a l)
  | [], _ => by simp [insA, AscT]
  | b :: l, h => by
    obtain ⟨h1, h2⟩ := List.pairwise_cons.1 h
    unfold insA
    split
    · rename_i hlt
      refine List.pairwise_cons.2 ⟨fun c hc => ?_, h⟩
      rcases List.mem_cons.1 hc with rfl | hc
      · omega
      · have := h1 c hc; omega
    · rename_i hge
      refine List.pairwise_cons.2 ⟨fun c hc => ?_, insA_asc h2⟩
      rcases insA_mem.1 hc with rfl | hc
      · omega
      · exact h1 c hc
theorem insA_first {a : At} : ∀ {l : List At}, (∀ b ∈ l, a.t < b.t) → insA a l = a :: l
  | [], _ => rfl
  | b :: l, h => by unfold insA; rw [if_pos (h b (by simp))]
theorem insA_cons {a b : At} {l : List At} : insA a (b :: l) = if a.t < b.t then a :: b :: l else b :: insA a l := rfl
theorem insA_filter {f : At → Bool} {a : At} : ∀ {l : List At}, AscT l → (insA a l).filter f = if f a then insA a (l.filter f) else l.filter f
  | [], _ => by cases hf : f a <;> simp [insA, hf]
  | b :: l, h => by
    obtain ⟨h1, h2⟩ := List.pairwise_cons.1 h
    by_cases hlt : a.t < b.t
    · rw [insA_cons, if_pos hlt]
      have hall : ∀ c ∈ (b :: l).filter f, a.t < c.t := fun c hc => by
        rcases List.mem_cons.1 (List.mem_filter.1 hc).1 with rfl | hc
        · exact hlt
        · have := h1 c hc; omega
      by_cases hf : f a = true
      · rw [List.filter_cons_of_pos hf, if_pos hf, insA_first hall]
      · rw [List.filter_cons_of_neg hf, if_neg hf]
    · rw [insA_cons, if_neg hlt]
      have ih := insA_filter (f := f) (a := a) h2
      by_cases hb : f b = true
      · rw [List.filter_cons_of_pos hb, List.filter_cons_of_pos hb, ih]
        by_cases hf : f a = true
        · rw [if_pos hf, if_pos hf, insA_cons, if_neg hlt]
        · rw [if_neg hf, if_neg hf]
      · rw [List.filter_cons_of_neg hb, List.filter_cons_of_neg hb, ih]
theorem foldA_filter {f : At → Bool} : ∀ (l : List At) {acc : List At}, AscT acc → (l.foldl (fun acc a => insA a acc) acc).filter f = (l.filter f).foldl (fun acc a => insA a acc) (acc.filter f)
  | [], _, _ => rfl
  | a :: l, acc, h => by
    rw [List.foldl_cons, foldA_filter l (insA_asc h), insA_filter h]
    cases hf : f a
    · rw [List.filter_cons_of_neg (by simp [hf])]; rfl
    · rw [List.filter_cons_of_pos (by simp [hf])]; rfl
theorem sortA_filter (f : At → Bool) (l : List At) : (sortA l).filter f = sortA (l.filter f) := foldA_filter l List.Pairwise.nil
theorem foldA_asc : ∀ (l : List At) {acc : List At}, AscT acc → AscT (l.foldl (fun acc a => insA a acc) acc)
  | [], _, h => h
  | a :: l, acc, h => foldA_asc l (insA_asc h)
theorem sortA_asc (l : List At) : AscT (sortA l) := foldA_asc l List.Pairwise.nil
theorem sortA_snoc (l : List At) (a : At) : sortA (l ++ [a]) = insA a (sortA l) := by unfold sortA; rw [List.foldl_append]; rfl
/-- where the reference puts a step -/
theorem insA_at {a : At} : ∀ {l : List At} {k : Nat}, AscT l → k ≤ l.length → (∀ (i : Nat) b, k ≤ i → l[i]? = some b → a.t < b.t) → (∀ (i : Nat) b, i + 1 = k → l[i]? = some b → b.t ≤ a.t) → insA a l = l.take k ++ a :: l.drop k
  | l, 0, _, _, h1, _ => by
    rw [insA_first (fun b hb => by obtain ⟨i, hi⟩ := List.getElem?_of_mem hb; exact h1 i b (Nat.zero_le _) hi)]
    rfl
  | [], k + 1, _, h, _, _ => by simp at h
  | b :: l, k + 1, h, hk, h1, h2 => by
    obtain ⟨g1, g2⟩ := List.pairwise_cons.1 h
    have hb : b.t ≤ a.t := by
      cases k with
      | zero => exact h2 0 b rfl rfl
      | succ k =>
        have hlt : k < l.length := by simp at hk; omega
        have hc : l[k]? = some l[k] := List.getElem?_eq_getElem hlt
        have e1 := h2 (k + 1) l[k] rfl (by simp)
        have e2 := g1 l[k] (List.getElem_mem hlt)
        omega
    unfold insA
    rw [if_neg (by omega)]
    rw [insA_at g2 (by simpa using hk) (fun i c hi hc => h1 (i + 1) c (by omega) (by simpa using hc)) (fun i c hi hc => h2 (i + 1) c (by omega) (by simpa using hc))]
    rfl
theorem cells3 : Try.prog.cellsOf 3 = 1 := by kernel_rfl
@[go_sem] theorem eq_pair (j k : Int) (w : World) : (Op.equalIn 10000 77 (.agg #[.int .i64 j, .int .i64 k]) (.agg #[.int .i64 j, .int .i64 k])).run Try.prog w = .ok true w := by
  obtain ⟨i, hi, _⟩ := info_parts (P := Try.prog) (e := 3) (z := .int .i64 0) (size := 1) (bytes := 8) (by kernel_rfl)
  rw [run_equalIn_array w 9999 _ _ Try.underlying77 hi, cells3]
  simp [Op.eqItems, List.range, List.range.loop, part, isAgg, run_underlying Try.underlying3, run_equalIn_int]
set_option maxRecDepth 100000 in
theorem samePairs_any (A1 A2 : Option Addr) (c1 c2 : Nat) (l : List At) (w : World) (hl : l.length ≤ 9223372036854775807) (h1 : Slc AP 2 w w.heap.size A1 l) (h2 : Slc AP 2 w w.heap.size A2 l) :
    Calls Try.prog 42 #[.slice A1 l.length c1, .slice A2 l.length c2] w fun e w' => e = .returned (.bool true) ∧ Below w.heap.size w w' := by
  go_enter Try.func42, Try.ntmps42
  go_wp2_with fail
  go_loopw [5] (fun x W => ∃ i : Nat, x = .int .i64 i ∧ i ≤ l.length ∧ Below w.heap.size w W) (fun x _ => l.length - (intOf x).toNat)
  case atStart => exact ⟨0, rfl, Nat.zero_le _, Below.refl _ _⟩
  case round =>
    obtain ⟨W, rfl⟩ : ∃ W : World, W = wr := ⟨_, rfl⟩
    obtain ⟨i, rfl, hi, hB⟩ := hrel
    by_cases hlt : i < l.length
    · obtain ⟨a, ha⟩ : ∃ a, l[i]? = some a := ⟨_, List.getElem?_eq_getElem hlt⟩
      obtain ⟨b, off, hA, hb0, d0, d1⟩ := (h1.on hB).at2 ha (v0 := .int .i64 a.j) (v1 := .int .i64 a.k) rfl
      obtain ⟨b', off', hA', hb0', d2, d3⟩ := (h2.on hB).at2 ha (v0 := .int .i64 a.j) (v1 := .int .i64 a.k) rfl
      subst hA hA'
      clear ha
      have hij : (i : Int) < (l.length : Int) := by omega
      go_wp2_with fail
      refine wp_region_quiet (C := fun w' => ∃ u : Since W, w' = u.w) (by kernel_rfl) (by kernel_rfl) (Since.start W) ?_
      dsimp only
      have y_d0 := Since.cell d0
      have y_d1 := Since.cell d1
      have y_d2 := Since.cell d2
      have y_d3 := Since.cell d3
      repeat (go_big_quiet_step ((fail)))
      refine wpQuiet_nil ?_
      rintro W ⟨⟨_, hb⟩, rfl⟩
      try dsimp only at hb ⊢
      replace d0 : W.cell? _ = _ := y_d0 ⟨W, hb⟩
      replace d1 : W.cell? _ = _ := y_d1 ⟨W, hb⟩
      replace d2 : W.cell? _ = _ := y_d2 ⟨W, hb⟩
      replace d3 : W.cell? _ = _ := y_d3 ⟨W, hb⟩
      clear y_d0 y_d1 y_d2 y_d3
      replace hB := hB.trans (hb.mono hB.size)
      clear hb
      go_wp2_with fail
      go_roundw
      case rel => exact ⟨i + 1, by go_num, by omega, hB⟩
      case measure => simp [intOf]; omega
    · obtain rfl : i = l.length := by omega
      go_wp2_with fail
      go_ret
      exact ⟨rfl, hB⟩
end Go.Proofs.Ytcpnfcnobnjhdaa
