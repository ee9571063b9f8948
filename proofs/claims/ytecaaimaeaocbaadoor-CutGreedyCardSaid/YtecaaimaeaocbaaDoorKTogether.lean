/- together of the reference: the walk. -/
import Derived.Test.YtecaaimaeaocbaaDoorKCanApi
namespace Go.Proofs.YtecaaimaeaocbaaDoor
open Go Go.RowKit
theorem slice_toA (A : Option Addr) (n c k : Nat) (hk : k ≤ c) (w : World) :
    (Instr.sliceAt 74 (.slice A n c) none (some (.int .i64 k)) none).run Tryd.prog w = .ok (.slice A k c) w := by
  obtain ⟨i, z, bytes, ht, hi, hz, hsize, _⟩ := et_batch
  have hel : Tryd.prog.elem 74 = 73 := by simp [Program.elem, ht]
  rw [← hel] at ht hi
  rw [run_sliceAt_slice _ _ _ _ _ _ ht, run_slice_h _ _ _ _ _ ht _ _ (by omega) (by omega)]
  have hso : (sizeOf (Tryd.prog.elem 74)).run Tryd.prog w = .ok 2 w := by kernel_rfl
  rw [hso]
  cases A <;> simp [Result.andThen, sliced, Addr.add]
theorem step_own_app {α : Type} {P : Program} {ops : Array Oper} {o : Oper} {a : Act} {K : Act → World → Prop} {Q : Exit → Act → World → Prop} {E : Prop} {w : World} {base : Nat} {e : TypeId} {sz : Nat} {f : α → List Value} {v : Value} {xs ys : List α} {A2 : Option Addr} {m c2 B2 : Nat} (s x : Operand) {t : TypeId} (hgd : o.guard = none)
    (ho : o.op = .call { callee := .builtin .append, args := #[s, x], argTypes := #[t, t] }) (he : ElemT P t e sz) (hown : Own w base e sz f v xs) (hs : a.eval s = v) (hx : a.eval x = .slice A2 m c2) (h2 : Slc f sz w B2 A2 ys) (hm : ys.length = m)
    (hf : ∀ x, (f x).length = sz) (h1c : ∀ x, ∀ u ∈ f x, u.oneCell' = true) (hlen : xs.length + m ≤ 1000000000) (hbase : base ≤ w.heap.size)
    (h : ∀ v' w', Own w' base e sz f v' (xs ++ ys) → Below base w w' → w.grownBy w' v.ownBlock → K (a.put o.dst v') w') : if Region.wanted o (yielded ops a.tmps) = true then Oper.wp P o a w K Q else E := by
  have hw : Region.wanted o (yielded ops a.tmps) = true := by simp [Region.wanted, hgd]
  rw [if_pos hw]
  obtain ⟨v', w', hr, hO, hg, hv⟩ := run_app_own (P := P) (ty := o.type) he hown h2 hm (c2 := c2) hf h1c hlen hbase
  unfold Oper.wp
  rw [exec_app ho hs hx hr]
  exact h v' w' hO ⟨hg.os, hg.tape, hg.output, hg.size, fun k hk => hg.block k (Nat.lt_of_lt_of_le hk hbase) fun he => by have := (World.ownsRow.lt hown k he.symm).1; omega⟩ hg
theorem ins_step0 {P : List Bat} {p : Bat} : insB P p = P.take 0 ++ insB (P.drop 0) p := by simp
theorem ins_next {P : List Bat} {p px : Bat} {j : Nat} (h : insB P p = P.take j ++ insB (P.drop j) p) (hx : P[j]? = some px) (hc : 0 < cmpL px.ps p.ps) : insB P p = P.take (j + 1) ++ insB (P.drop (j + 1)) p := by
  obtain ⟨h1, h2⟩ := List.getElem?_eq_some_iff.1 hx
  rw [h, List.drop_eq_getElem_cons h1, h2, insB_gt hc, List.take_add_one, hx, Option.toList_some, List.append_assoc]; rfl
theorem ins_here {P : List Bat} {p px : Bat} {j : Nat} (h : insB P p = P.take j ++ insB (P.drop j) p) (hx : P[j]? = some px) (hc : cmpL px.ps p.ps = 0) : insB P p = P.set j ⟨px.t + p.t, px.ps⟩ := by
  obtain ⟨h1, h2⟩ := List.getElem?_eq_some_iff.1 hx
  rw [h, List.drop_eq_getElem_cons h1, h2, insB_eq (cmpL_zero hc), List.set_eq_take_append_cons_drop, if_pos h1]
theorem ins_below {P : List Bat} {p px : Bat} {j : Nat} (h : insB P p = P.take j ++ insB (P.drop j) p) (hx : P[j]? = some px) (hc : cmpL px.ps p.ps < 0) : insB P p = P.take j ++ (p :: P.drop j) := by
  obtain ⟨h1, h2⟩ := List.getElem?_eq_some_iff.1 hx
  have := cmpL_swap px.ps p.ps
  rw [h, List.drop_eq_getElem_cons h1, h2, insB_lt (by omega)]
theorem ins_last {P : List Bat} {p : Bat} {j : Nat} (h : insB P p = P.take j ++ insB (P.drop j) p) (hj : j = P.length) : insB P p = P.take j ++ (p :: P.drop j) := by
  subst hj
  rw [h, List.drop_length]; rfl
end Go.Proofs.YtecaaimaeaocbaaDoor
