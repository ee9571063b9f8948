/- A queue of ints in a block of one's own: the first is cut off, others are added behind. -/
import Derived.Test.YtkcfalehebacpaaOwns
import Derived.Test.YtkcfalehebacpaaApp
import Derived.ArgAppend
namespace Go.Proofs.Ytkcfalehebacpaa
open Go Go.RowKit
def Que (w : World) (base : Nat) (e : TypeId) (v : Value) (l : List Int) : Prop :=
  (∃ A, v = .slice A 0 0 ∧ l = [] ∧ ∀ b, A.map (fun x : Addr => x.block) = some b → base ≤ b ∧ b < w.heap.size) ∨ ∃ g off c js, v = .slice (some ⟨g, off, none⟩) l.length c ∧ base ≤ g ∧ Blk w g e js ∧ l.length ≤ c ∧ off + c ≤ js.size ∧ ∀ (i : Nat) x, l[i]? = some x → js[off + i]? = some (.int .i64 x)
section
variable {w w' : World} {base : Nat} {e : TypeId} {v : Value} {l : List Int}
theorem Que.nil_ : Que w base e (.slice none 0 0) [] := .inl ⟨none, rfl, rfl, fun _ h => by cases h⟩
theorem Que.kept {row : Option Nat} (h : Que w base e v l) (hg : w.grownBy w' row) (hr : ∀ b, v.ownBlock = some b → row ≠ some b) : Que w' base e v l := by
  rcases h with ⟨A, h1, h2, h3⟩ | ⟨g, off, c, js, rfl, h2, h3, h4, h5, h6⟩
  · exact .inl ⟨A, h1, h2, fun b hb => ⟨(h3 b hb).1, Nat.lt_of_lt_of_le (h3 b hb).2 hg.size⟩⟩
  · exact .inr ⟨g, off, c, js, rfl, h2, h3.grown hg (fun he => hr g rfl he.symm), h4, h5, h6⟩
theorem Que.below (h : Que w base e v l) (hb : Below w.heap.size w w') : Que w' base e v l := h.kept (grown_of_below hb) fun _ _ h => by cases h
theorem Que.alloc (h : Que w base e v l) (o : Obj) : Que (w.alloc o) base e v l := h.below ((Below.refl _ w).alloc (Nat.le_refl _) o)
theorem Que.form (h : Que w base e v l) : ∃ A c, v = .slice A l.length c ∧ Slc intEnc 1 w w.heap.size A l := by
  rcases h with ⟨A, rfl, rfl, _⟩ | ⟨g, off, c, js, rfl, h2, h3, h4, h5, h6⟩
  · exact ⟨A, 0, rfl, Slc.nil_⟩
  · refine ⟨_, c, rfl, fun i x hx => ⟨g, off, rfl, h3.lt, fun j u hu => ?_⟩⟩
    obtain ⟨rfl, rfl⟩ : j = 0 ∧ u = .int .i64 x := by
      cases j with
      | zero => simp [intEnc] at hu; exact ⟨rfl, hu.symm⟩
      | succ j => simp [intEnc] at hu
    rw [Nat.mul_one, Nat.add_zero, h3.cell]
    exact h6 i x hx
theorem Que.head {x : Int} {r : List Int} (h : Que w base e v (x :: r)) : ∃ g off c, v = .slice (some ⟨g, off, none⟩) (r.length + 1) c ∧ base ≤ g ∧ g < w.heap.size ∧ r.length + 1 ≤ c ∧ w.cell? ⟨g, off, none⟩ = some (.int .i64 x) ∧ Que w base e (.slice (dropA (some ⟨g, off, none⟩) c 1 1) r.length (c - 1)) r ∧ (dropA (some ⟨g, off, none⟩) c 1 1).map (·.block) = some g := by
  rcases h with ⟨A, _, h, _⟩ | ⟨g, off, c, js, rfl, h2, h3, h4, h5, h6⟩
  · cases h
  · rw [List.length_cons] at h4
    refine ⟨g, off, c, rfl, h2, h3.lt, h4, ?_, ?_, ?_⟩
    · rw [h3.cell]; simpa using h6 0 x rfl
    · unfold dropA
      split
      · rename_i hc
        subst hc
        obtain rfl : r = [] := List.length_eq_zero_iff.1 (by omega)
        exact .inl ⟨_, rfl, rfl, fun b hb => by
          injection hb with hb
          have : g = b := hb
          subst this; exact ⟨h2, h3.lt⟩⟩
      · rw [Option.map_some, Addr.add_lit]
        refine .inr ⟨g, off + 1 * 1, c - 1, js, rfl, h2, h3, by omega, by omega, fun i y hy => ?_⟩
        have := h6 (i + 1) y (by simpa using hy)
        rw [show off + 1 * 1 + i = off + (i + 1) by omega]
        exact this
    · unfold dropA
      split
      · rfl
      · rw [Option.map_some, Addr.add_lit]; rfl
theorem que_row (h : w.ownsRow base e 1 v l.length (l.flatMap intEnc)) : Que w base e v l := by
  obtain ⟨_, ⟨h1, h2⟩ | ⟨g, cap, cur, h1, h2, h3, h4, h5, h6, h7⟩⟩ := h
  · exact .inl ⟨none, h1, List.length_eq_zero_iff.1 h2, fun _ h => by cases h⟩
  · refine .inr ⟨g, 0, cap, cur, h1, h2, h3, h4, by omega, fun i x hx => ?_⟩
    have h8 := flat_at (f := intEnc) (n := 1) (fun _ => rfl) l i x hx 0 _ rfl
    rw [← h7, List.getElem?_take] at h8
    split at h8
    · simpa using h8
    · cases h8
end
theorem run_que_app {P : Program} {w : World} {e t ty : TypeId} (he : ElemT P t e 1) {base : Nat} {v : Value} {l : List Int} (h : Que w base e v l) {ad : Addr} {c2 : Nat} {y : Int} (hc : w.cell? ad = some (.int .i64 y)) (hsp : ad.spot = none) (hlen : l.length ≤ 1000000000) (hbase : base ≤ w.heap.size) :
    ∃ v' w', (Builtin.append_ #[t, t] ty #[v, .slice (some ad) 1 c2]).run P w = .ok v' w' ∧ Que w' base e v' (l ++ [y]) ∧ w.grownBy w' v.ownBlock ∧ (∀ b, v'.ownBlock = some b → w.heap.size ≤ b ∨ v.ownBlock = some b) := by
  obtain ⟨i, z, bytes, ht, hi, hz, hsize, hby, hzs, h0, hb⟩ := he
  have hnews : ∀ (j : Nat) u, ([.int .i64 y] : List Value)[j]? = some u → w.cell? (ad.add j) = some u := fun j u hu => by
    cases j with
    | zero =>
      have : ad.add 0 = ad := by unfold Addr.add; rw [if_pos rfl]
      rw [this]
      simp at hu
      rw [hc, hu]
    | succ j => simp at hu
  have h1c : ∀ u ∈ ([.int .i64 y] : List Value), u.oneCell' = true := fun u hu => by rw [List.mem_singleton] at hu; subst hu; rfl
  have hbytes : (l.length + 1) * bytes ≤ 140737488355328 := calc (l.length + 1) * bytes ≤ 1000000001 * 4096 := Nat.mul_le_mul (by omega) hb
      _ ≤ _ := by omega
  have hfresh : ∀ {v' : Value} {w' : World}, w'.ownsRow w.heap.size e 1 v' (l.length + 1) (l.flatMap intEnc ++ [.int .i64 y]) → w.grownBy w' none → Que w' base e v' (l ++ [y]) ∧ w.grownBy w' v.ownBlock ∧ (∀ b, v'.ownBlock = some b → w.heap.size ≤ b ∨ v.ownBlock = some b) := fun {v' w'} r1 r2 => by
    have r3 : Que w' w.heap.size e v' (l ++ [y]) := que_row (by rw [List.length_append, List.flatMap_append]; simpa [intEnc] using r1)
    refine ⟨?_, ⟨r2.os, r2.tape, r2.output, r2.size, fun k hk _ => r2.block k hk (by simp)⟩, fun b hbb => ?_⟩
    · rcases r3 with ⟨A, a1, a2, a3⟩ | ⟨g, off, c, js, a1, a2, a3⟩
      · exact absurd a2 (by simp)
      · exact .inr ⟨g, off, c, js, a1, by omega, a3⟩
    · rcases r3 with ⟨A, rfl, h, _⟩ | ⟨g, off, c, js, rfl, a2, _⟩
      · exact absurd h (by simp)
      · injection hbb with hbb
        have : g = b := hbb
        exact .inl (by omega)
  rcases h with ⟨A, rfl, rfl, _⟩ | ⟨g, off, c, js, rfl, h2, h3, h4, h5, h6⟩
  · cases A with
    | none =>
      obtain ⟨v', w', hrun, r1, r2, _⟩ := run_append_own (P := P) w w.heap.size t ty e i z 1 bytes ht hi hz hsize hby hzs h0 (.slice none 0 0) 0 [] (World.ownsRow_nil w _ e 1) ad 1 c2 [.int .i64 y] rfl hnews h1c (by unfold maxLen; omega) (by simpa using hbytes) (Nat.le_refl _)
      exact ⟨v', w', hrun, hfresh (by simpa using r1) r2⟩
    | some b =>
      obtain ⟨v', w', hrun, r1, r2⟩ := run_append_arg_grows (P := P) w t ty e i z 1 bytes ht hi hz hsize hby hzs h0 b 0 0 [] rfl (fun j u hj => by simp at hj) ad 1 c2 [.int .i64 y] rfl hnews (by omega) (by unfold maxLen; omega) (by simpa using hbytes)
      exact ⟨v', w', hrun, hfresh (by simpa using r1) r2⟩
  · by_cases hroom : l.length + 1 ≤ c
    · have hin : off + l.length < js.size := by omega
      have hrun := run_append_room_cells (P := P) w t ty e i ht hi g off l.length c ad 1 c2 [.int .i64 y] (by rw [hsize]; rfl) hnews h1c hroom (fun j hj => by
        simp at hj
        subst hj
        rw [h3.cell, hsize]
        simp [hin]) (fun j _ => h3.frozen _)
      rw [hsize, Nat.mul_one] at hrun
      have hch : Chg (fun k => k = g) w (w.setCell ⟨g, off + l.length, none⟩ (.int .i64 y)) := Chg.set1 _
      refine ⟨_, _, hrun, .inr ⟨g, off, c, js.setIfInBounds (off + l.length) (.int .i64 y), by rw [List.length_append]; rfl, h2, h3.set_ _ _, by simp; omega, by simpa using h5, fun q x hq => ?_⟩, ⟨hch.os, hch.tape, hch.output, hch.size, fun k hk hne => hch.block k hk fun he => hne (by rw [he]; rfl)⟩, fun b hb => .inr hb⟩
      rcases Nat.lt_or_ge q l.length with hq1 | hq1
      · rw [List.getElem?_append_left hq1] at hq
        rw [Array.getElem?_setIfInBounds_ne (by omega)]
        exact h6 q x hq
      · rw [List.getElem?_append_right hq1] at hq
        have hq2 : q - l.length = 0 := by
          have := (List.getElem?_eq_some_iff.1 hq).1
          simp at this; omega
        rw [hq2] at hq
        simp at hq
        subst hq
        obtain rfl : q = l.length := by omega
        rw [Array.getElem?_setIfInBounds_self_of_lt hin]
    · obtain ⟨v', w', hrun, r1, r2⟩ := run_append_arg_grows (P := P) w t ty e i z 1 bytes ht hi hz hsize hby hzs h0 ⟨g, off, none⟩ l.length c (l.flatMap intEnc) (by rw [flat_len (n := 1) (fun _ => rfl)]) (fun j u hj => by
        obtain ⟨q, j', x, e1, e2, e3⟩ := flat_inv (f := intEnc) (n := 1) (fun _ => rfl) l j u hj
        obtain ⟨rfl, rfl⟩ : j' = 0 ∧ u = .int .i64 x := by
          cases j' with
          | zero => simp [intEnc] at e3; exact ⟨rfl, e3.symm⟩
          | succ j' => simp [intEnc] at e3
        rw [Addr.add_lit, h3.cell, e1, Nat.mul_one, Nat.add_zero]
        exact h6 q x e2) ad 1 c2 [.int .i64 y] rfl hnews (by omega) (by unfold maxLen; omega) hbytes
      exact ⟨v', w', hrun, hfresh r1 r2⟩
theorem wpList_que_app {P : Program} {ops : Array Oper} {rest : List Oper} {o : Oper} {a : Act} {Q : Exit → Act → World → Prop} {w : World} {e t : TypeId} {base : Nat} {v : Value} {l : List Int} (s x : Operand) (hgd : o.guard = none)
    (ho : o.op = .call { callee := .builtin .append, args := #[s, x], argTypes := #[t, t] }) (he : ElemT P t e 1) (h : Que w base e v l) {ad : Addr} {c2 : Nat} {y : Int} (hs : a.eval s = v) (hx : a.eval x = .slice (some ad) 1 c2) (hc : w.cell? ad = some (.int .i64 y)) (hsp : ad.spot = none) (hlen : l.length ≤ 1000000000) (hbase : base ≤ w.heap.size)
    (hk : ∀ v' w', Que w' base e v' (l ++ [y]) → w.grownBy w' v.ownBlock → (∀ b, v'.ownBlock = some b → w.heap.size ≤ b ∨ v.ownBlock = some b) → wpList P ops Q rest (a.put o.dst v') w') : wpList P ops Q (o :: rest) a w := by
  obtain ⟨v', w', hr, hO, hg, hv⟩ := run_que_app (P := P) (ty := o.type) he h hc hsp (c2 := c2) hlen hbase
  refine wpList_plain hgd fun K hK => ?_
  unfold Oper.wp
  rw [exec_app ho hs hx hr]
  exact hK _ _ (hk v' w' hO hg hv)
/-- append of one element to an owned list, with the block it grew in -/
theorem wpList_own_app1 {α : Type} {P : Program} {ops : Array Oper} {rest : List Oper} {o : Oper} {a : Act} {Q : Exit → Act → World → Prop} {w : World} {base : Nat} {e : TypeId} {sz : Nat} {f : α → List Value} {v : Value} {xs : List α} {A2 : Option Addr} {c2 B2 : Nat} {y : α} (s x : Operand) {t : TypeId} (hgd : o.guard = none)
    (ho : o.op = .call { callee := .builtin .append, args := #[s, x], argTypes := #[t, t] }) (he : ElemT P t e sz) (hown : Own w base e sz f v xs) (hs : a.eval s = v) (hx : a.eval x = .slice A2 1 c2) (h2 : Slc f sz w B2 A2 [y])
    (hf : ∀ x, (f x).length = sz) (h1c : ∀ x, ∀ u ∈ f x, u.oneCell' = true) (hlen : xs.length + 1 ≤ 1000000000) (hbase : base ≤ w.heap.size)
    (h : ∀ v' w', Own w' base e sz f v' (xs ++ [y]) → w.grownBy w' v.ownBlock → (∀ b, v'.ownBlock = some b → w.heap.size ≤ b ∨ v.ownBlock = some b) → wpList P ops Q rest (a.put o.dst v') w') : wpList P ops Q (o :: rest) a w := by
  obtain ⟨v', w', hr, hO, hg, hv⟩ := run_app_own (P := P) (ty := o.type) he hown h2 (m := 1) rfl (c2 := c2) hf h1c hlen hbase
  refine wpList_plain hgd fun K hK => ?_
  unfold Oper.wp
  rw [exec_app ho hs hx hr]
  exact hK _ _ (h v' w' hO hg hv)
end Go.Proofs.Ytkcfalehebacpaa
