/- Parts of the proofs of this seat: App. Each part says what it proves; no condition beyond those stated there. -/
import Derived.ArgAppend
import Derived.Great.BuildSlice
import Derived.Test.YtnejacogflkmmaaM5

/- Append of a readable slice behind a full readable slice: the law of the walk; slice expressions of readable slices; a slice literal of one element. -/
namespace Go.Proofs.Ytnejacogflkmmaa
open Go.RowKit
theorem flat_inv {α : Type} {f : α → List Value} {n : Nat} (h : ∀ x, (f x).length = n) : ∀ (l : List α) (q : Nat) (u : Value), (l.flatMap f)[q]? = some u → ∃ i j x, q = i * n + j ∧ l[i]? = some x ∧ (f x)[j]? = some u
  | [], q, u, hq => by simp at hq
  | y :: r, q, u, hq => by
    rw [List.flatMap_cons] at hq
    by_cases hlt : q < (f y).length
    · rw [List.getElem?_append_left hlt] at hq
      exact ⟨0, q, y, by omega, rfl, hq⟩
    · rw [List.getElem?_append_right (by omega)] at hq
      obtain ⟨i, j, x, h1, h2, h3⟩ := flat_inv h r _ u hq
      rw [h y] at h1 hlt
      exact ⟨i + 1, j, x, by rw [Nat.succ_mul]; omega, by simpa using h2, h3⟩
theorem Slc.flat {α : Type} {f : α → List Value} {sz : Nat} {w : World} {B : Nat} {A : Option Addr} {xs : List α} (h : Slc f sz w B A xs) (hf : ∀ x, (f x).length = sz) (b : Addr) (hA : A = some b) (q : Nat) (u : Value) (hq : (xs.flatMap f)[q]? = some u) : w.cell? (b.add q) = some u := by
  obtain ⟨i, j, x, rfl, h2, h3⟩ := flat_inv hf xs q u hq
  obtain ⟨b', off, h4, _, h5⟩ := h i x h2
  rw [hA] at h4
  injection h4 with h4
  subst h4
  have := h5 j u h3
  rw [Nat.add_assoc] at this
  rw [Addr.add_lit]
  exact this
theorem Slc.some_ {α : Type} {f : α → List Value} {sz : Nat} {w : World} {B : Nat} {A : Option Addr} {xs : List α} (h : Slc f sz w B A xs) (h0 : xs ≠ []) : ∃ b off, A = some ⟨b, off, none⟩ ∧ b < B := by
  cases xs with
  | nil => exact absurd rfl h0
  | cons x r =>
    obtain ⟨b, off, h1, h2, _⟩ := h 0 x rfl
    exact ⟨b, off, h1, h2⟩
theorem Own.slc {α : Type} {w : World} {base : Nat} {e : TypeId} {sz : Nat} {f : α → List Value} {A : Option Addr} {n c : Nat} {l : List α} (h : Own w base e sz f (.slice A n c) l) (hf : ∀ x, (f x).length = sz) : Slc f sz w w.heap.size A l := by
  obtain ⟨A', c', h1, h2⟩ := h.form hf
  injection h1 with h1 _ _
  subst h1; exact h2
theorem Own.ge {α : Type} {w : World} {base : Nat} {e : TypeId} {sz : Nat} {f : α → List Value} {A : Option Addr} {n c : Nat} {l : List α} (h : Own w base e sz f (.slice A n c) l) (b off : Nat) (hA : A = some ⟨b, off, none⟩) : base ≤ b := by
  subst hA
  rcases h.2 with ⟨h1, _⟩ | ⟨g, cap, cur, h1, h2, _⟩
  · cases h1
  · injection h1 with h1 _ _
    injection h1 with h1
    injection h1 with h1
    omega
/-- append of the readable slice x behind the readable slice s that has no room (or behind it nothing is laid) -/
theorem run_app_full {α : Type} {P : Program} {w : World} {e : TypeId} {sz : Nat} {f : α → List Value} {xs ys : List α} {t ty : TypeId} (he : ElemT P t e sz) {A1 A2 : Option Addr} {n m c2 B1 B2 : Nat}
    (h1 : Slc f sz w B1 A1 xs) (hn : xs.length = n) (h2 : Slc f sz w B2 A2 ys) (hm : ys.length = m) (hB1 : B1 ≤ w.heap.size)
    (hf : ∀ x, (f x).length = sz) (h1c : ∀ x, ∀ u ∈ f x, u.oneCell' = true) (hlen : n + m ≤ 1000000000) :
    ∃ A' c' w', (Builtin.append_ #[t, t] ty #[.slice A1 n n, .slice A2 m c2]).run P w = .ok (.slice A' (n + m) c') w' ∧ Below w.heap.size w w' ∧ Slc f sz w' w'.heap.size A' (xs ++ ys) ∧ n + m ≤ c' ∧ (ys ≠ [] → Own w' w.heap.size e sz f (.slice A' (n + m) c') (xs ++ ys)) := by
  obtain ⟨i, z, bytes, ht, hi, hz, hsize, hby, hzs, h0, hb⟩ := he
  have hA1 : A1 = none → n = 0 := fun hh => by
    rw [← hn]
    cases xs with
    | nil => rfl
    | cons x r => obtain ⟨b, off, h3, _⟩ := h1 0 x rfl; rw [hh] at h3; cases h3
  by_cases hy : ys = []
  · subst hy
    have hm0 : m = 0 := by rw [← hm]; rfl
    subst hm0
    refine ⟨A1, n, w, ?_, Below.refl _ _, by rw [List.append_nil]; exact h1.more hB1, by omega, fun hh => absurd rfl hh⟩
    cases A1 with
    | none =>
      obtain rfl := hA1 rfl
      cases A2 <;> simp [Builtin.append_, run_underlying ht, sizeOf, typeInfo, hi, Builtin.lenOf, Builtin.firstCells, loadCells, loadCellsFrom]
    | some b => cases A2 <;> simp [Builtin.append_, run_underlying ht, sizeOf, typeInfo, hi, Builtin.lenOf, Builtin.firstCells, storeCells, loadCells, loadCellsFrom]
  · obtain ⟨b2, off2, hA2, _⟩ := h2.some_ hy
    have hpos : 0 < ys.length := List.length_pos_iff.2 hy
    have hfl2 : (ys.flatMap f).length = m * sz := by rw [flat_len hf, hm]
    have hc2 : ∀ (q : Nat) (u : Value), (ys.flatMap f)[q]? = some u → w.cell? ((⟨b2, off2, none⟩ : Addr).add q) = some u := fun q u hq => h2.flat hf _ hA2 q u hq
    have h1c' : ∀ u ∈ ys.flatMap f, u.oneCell' = true := fun u hu => by obtain ⟨y, _, hyu⟩ := List.mem_flatMap.1 hu; exact h1c y u hyu
    have hbytes : (n + m) * bytes ≤ 140737488355328 := by
      calc (n + m) * bytes ≤ 1000000000 * 4096 := Nat.mul_le_mul hlen hb
        _ ≤ _ := by omega
    have key : ∃ v' w', (Builtin.append_ #[t, t] ty #[.slice A1 n n, .slice A2 m c2]).run P w = .ok v' w' ∧ w'.ownsRow w.heap.size e sz v' (n + m) (xs.flatMap f ++ ys.flatMap f) ∧ w.grownBy w' none := by
      subst hA2
      cases A1 with
      | some b =>
        obtain ⟨v', w', hrun, r1, r2⟩ := run_append_arg_grows (P := P) w t ty e i z sz bytes ht hi hz hsize hby hzs h0 b n n (xs.flatMap f) (by rw [flat_len hf, hn]) (fun q u hq => h1.flat hf b rfl q u hq) ⟨b2, off2, none⟩ m c2 (ys.flatMap f) hfl2 hc2 (by omega) (by unfold maxLen; omega) hbytes
        exact ⟨v', w', hrun, r1, r2⟩
      | none =>
        obtain rfl := hA1 rfl
        have hx0 : xs = [] := List.length_eq_zero_iff.1 hn
        subst hx0
        obtain ⟨v', w', hrun, r1, r2, _⟩ := run_append_own (P := P) w w.heap.size t ty e i z sz bytes ht hi hz hsize hby hzs h0 (.slice none 0 0) 0 [] (World.ownsRow_nil w _ e sz) ⟨b2, off2, none⟩ m c2 (ys.flatMap f) hfl2 hc2 h1c' (by unfold maxLen; omega) hbytes (Nat.le_refl _)
        exact ⟨v', w', hrun, r1, r2⟩
    obtain ⟨v', w', g0, g1, g2⟩ := key
    have hO : Own w' w.heap.size e sz f v' (xs ++ ys) := by
      show w'.ownsRow _ _ _ _ _ _
      rw [List.length_append, hn, hm, List.flatMap_append]
      exact g1
    have hB : Below w.heap.size w w' := (Below.refl _ w).grown g2 (Nat.le_refl _) (fun k hk => by cases hk)
    obtain ⟨A', c', hv, hle, hS⟩ := hO.form2 hf
    rw [List.length_append, hn, hm] at hv hle
    subst hv
    exact ⟨A', c', w', g0, hB, hS, hle, fun _ => hO⟩
theorem wpList_app_full {α : Type} {P : Program} {ops : Array Oper} {rest : List Oper} {o : Oper} {a : Act} {Q : Exit → Act → World → Prop} {w : World} {e : TypeId} {sz : Nat} {f : α → List Value} {xs ys : List α} (s x : Operand) {t : TypeId} (hgd : o.guard = none)
    (ho : o.op = .call { callee := .builtin .append, args := #[s, x], argTypes := #[t, t] }) (he : ElemT P t e sz) {A1 A2 : Option Addr} {n m c2 B1 B2 : Nat} (hs : a.eval s = .slice A1 n n) (hx : a.eval x = .slice A2 m c2)
    (h1 : Slc f sz w B1 A1 xs) (hn : xs.length = n) (h2 : Slc f sz w B2 A2 ys) (hm : ys.length = m) (hB1 : B1 ≤ w.heap.size)
    (hf : ∀ x, (f x).length = sz) (h1c : ∀ x, ∀ u ∈ f x, u.oneCell' = true) (hlen : n + m ≤ 1000000000)
    (h : ∀ A' c' w', Below w.heap.size w w' → Slc f sz w' w'.heap.size A' (xs ++ ys) → n + m ≤ c' → (ys ≠ [] → Own w' w.heap.size e sz f (.slice A' (n + m) c') (xs ++ ys)) → wpList P ops Q rest (a.put o.dst (.slice A' (n + m) c')) w') : wpList P ops Q (o :: rest) a w := by
  obtain ⟨A', c', w', hrun, g1, g2, g3, g4⟩ := run_app_full (P := P) (ty := o.type) he h1 hn h2 hm hB1 hf h1c hlen (A2 := A2) (c2 := c2)
  refine wpList_plain hgd fun K hK => ?_
  unfold Oper.wp
  simp [execOp, ho, resolve, invoke, builtin, hs, hx, hrun, Result.andThen]
  exact hK _ _ (h A' c' w' g1 g2 g3 g4)
theorem step_app_full {α : Type} {P : Program} {ops : Array Oper} {o : Oper} {a : Act} {K : Act → World → Prop} {Q : Exit → Act → World → Prop} {E : Prop} {w : World} {e : TypeId} {sz : Nat} {f : α → List Value} {xs ys : List α} (s x : Operand) {t : TypeId} (hgd : o.guard = none)
    (ho : o.op = .call { callee := .builtin .append, args := #[s, x], argTypes := #[t, t] }) (he : ElemT P t e sz) {A1 A2 : Option Addr} {n m c2 B1 B2 : Nat} (hs : a.eval s = .slice A1 n n) (hx : a.eval x = .slice A2 m c2)
    (h1 : Slc f sz w B1 A1 xs) (hn : xs.length = n) (h2 : Slc f sz w B2 A2 ys) (hm : ys.length = m) (hB1 : B1 ≤ w.heap.size)
    (hf : ∀ x, (f x).length = sz) (h1c : ∀ x, ∀ u ∈ f x, u.oneCell' = true) (hlen : n + m ≤ 1000000000)
    (h : ∀ A' c' w', Below w.heap.size w w' → Slc f sz w' w'.heap.size A' (xs ++ ys) → n + m ≤ c' → (ys ≠ [] → Own w' w.heap.size e sz f (.slice A' (n + m) c') (xs ++ ys)) → K (a.put o.dst (.slice A' (n + m) c')) w') : if Region.wanted o (yielded ops a.tmps) = true then Oper.wp P o a w K Q else E := by
  have hw : Region.wanted o (yielded ops a.tmps) = true := by simp [Region.wanted, hgd]
  rw [if_pos hw]
  obtain ⟨A', c', w', hrun, g1, g2, g3, g4⟩ := run_app_full (P := P) (ty := o.type) he h1 hn h2 hm hB1 hf h1c hlen (A2 := A2) (c2 := c2)
  unfold Oper.wp
  simp [execOp, ho, resolve, invoke, builtin, hs, hx, hrun, Result.andThen]
  exact h A' c' w' g1 g2 g3 g4
/-- s[k:] -/
def dropA (A : Option Addr) (c k sz : Nat) : Option Addr := if c = k then A else A.map (·.add (k * sz))
theorem Slc.dropA_ {α : Type} {f : α → List Value} {sz : Nat} {w : World} {B : Nat} {A : Option Addr} {xs : List α} {c k : Nat} (h : Slc f sz w B A xs) (hc : xs.length ≤ c) : Slc f sz w B (dropA A c k sz) (xs.drop k) := by
  unfold dropA
  split
  · rename_i hck
    rw [List.drop_eq_nil_of_le (by omega)]
    exact Slc.nil_
  · intro i x hx
    rw [List.getElem?_drop] at hx
    obtain ⟨b, off, hA, hb, hcell⟩ := h _ x hx
    subst hA
    refine ⟨b, off + k * sz, by rw [Option.map_some, Addr.add_lit], hb, fun j v hv => ?_⟩
    have := hcell j v hv
    rw [show off + k * sz + i * sz + j = off + (k + i) * sz + j by rw [Nat.add_mul]; omega]
    exact this
theorem Slc.take_ {α : Type} {f : α → List Value} {sz : Nat} {w : World} {B : Nat} {A : Option Addr} {xs : List α} (k : Nat) (h : Slc f sz w B A xs) : Slc f sz w B A (xs.take k) := fun i x hx => by
  rw [List.getElem?_take] at hx
  split at hx
  · exact h i x hx
  · cases hx
theorem run_slice_from {P : Program} {t e : TypeId} {sz : Nat} (he : ElemT P t e sz) (A : Option Addr) (n c k : Nat) (hk : k ≤ n) (w : World) :
    (Instr.sliceAt t (.slice A n c) (some (.int .i64 k)) none none).run P w = .ok (.slice (dropA A c k sz) (n - k) (c - k)) w := by
  obtain ⟨i, z, bytes, ht, hi, hz, hsize, _⟩ := he
  have hel : P.elem t = e := by simp [Program.elem, ht]
  rw [← hel] at ht hi
  rw [run_sliceAt_slice (h := ht), run_slice_l (ht := ht) (h0 := by omega) (h1 := by omega)]
  subst hsize
  simp [sizeOf, typeInfo, hi, sliced, dropA, Result.andThen]
theorem run_slice_upto {P : Program} {t e : TypeId} {sz : Nat} (he : ElemT P t e sz) (A : Option Addr) (n c k : Nat) (hk : k ≤ c) (w : World) :
    (Instr.sliceAt t (.slice A n c) none (some (.int .i64 k)) (some (.int .i64 k))).run P w = .ok (.slice A k k) w := by
  obtain ⟨i, z, bytes, ht, hi, hz, hsize, _⟩ := he
  have hel : P.elem t = e := by simp [Program.elem, ht]
  rw [← hel] at ht hi
  rw [run_sliceAt_slice (h := ht), run_slice_hm (ht := ht) (h0 := by omega) (h2 := by omega) (h3 := by omega)]
  subst hsize
  simp [sizeOf, typeInfo, hi, sliced, Result.andThen]
  intro _
  cases A with
  | none => rfl
  | some b => simp [Addr.add]
theorem Blk.slc1 {α : Type} {f : α → List Value} {sz : Nat} {w : World} {g : Nat} {t : TypeId} {cs : Array Value} (h : Blk w g t cs) {y : α} (hcs : cs.toList = f y) : Slc f sz w w.heap.size (some ⟨g, 0, none⟩) [y] := fun i x hx => by
  cases i with
  | zero =>
    simp at hx; subst hx
    refine ⟨g, 0, rfl, h.lt, fun j v hv => ?_⟩
    rw [← hcs] at hv
    simpa using h.cell_ j (by simpa using hv)
  | succ i => simp at hx
end Go.Proofs.Ytnejacogflkmmaa
