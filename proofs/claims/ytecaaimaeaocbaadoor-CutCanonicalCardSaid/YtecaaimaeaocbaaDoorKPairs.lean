/- CutCanonical: batches with what they stand for, side by side. -/
import Derived.Test.YtecaaimaeaocbaaDoorKCanQ
import Derived.Test.YtecaaimaeaocbaaDoorKLaw5
namespace Go.Proofs.YtecaaimaeaocbaaDoor
open Go Go.RowKit
def prE (x : Bt × Bat) : List Value := Bt.enc x.1
theorem prE_len (x : Bt × Bat) : (prE x).length = 2 := rfl
theorem prE_one (x : Bt × Bat) : ∀ u ∈ prE x, u.oneCell' = true := bt_one x.1
def PrOk (w : World) (z : List (Bt × Bat)) : Prop := ∀ x ∈ z, x.1.t = x.2.t ∧ x.1.n = x.2.ps.length ∧ Slc intEnc 1 w w.heap.size x.1.A x.2.ps
theorem PrOk.on {w w' : World} {z : List (Bt × Bat)} (h : PrOk w z) (hb : Below w.heap.size w w') : PrOk w' z := fun x hx => by
  obtain ⟨a, b, c⟩ := h x hx
  exact ⟨a, b, c.on hb⟩
theorem PrOk.perm {w : World} {z z' : List (Bt × Bat)} (h : PrOk w z) (hp : z'.Perm z) : PrOk w z' := fun x hx => h x (hp.subset hx)
theorem pairs_of {w : World} {A : Option Addr} {bs : List Bt} {pl : List Bat} (h : PlanAt w A bs pl) : PrOk w (bs.zip pl) ∧ Slc prE 2 w w.heap.size A (bs.zip pl) ∧ (bs.zip pl).length = pl.length ∧ (bs.zip pl).map (·.2) = pl := by
  refine ⟨fun x hx => ?_, fun i x hx => ?_, by rw [List.length_zip, h.len, Nat.min_self], List.map_snd_zip (by rw [h.len]; exact Nat.le_refl _)⟩
  · obtain ⟨i, hi⟩ := List.getElem?_of_mem hx
    rw [List.getElem?_zip_eq_some] at hi
    exact h.in_ i _ _ hi.1 hi.2
  · rw [List.getElem?_zip_eq_some] at hx
    exact h.row i x.1 hx.1
theorem plan_of_pairs {w : World} {A : Option Addr} {z : List (Bt × Bat)} (hS : Slc prE 2 w w.heap.size A z) (h : PrOk w z) : PlanAt w A (z.map (·.1)) (z.map (·.2)) := by
  refine ⟨fun i x hx => ?_, by rw [List.length_map, List.length_map], fun i b p h1 h2 => ?_⟩
  · rw [List.getElem?_map] at hx
    obtain ⟨y, hy, rfl⟩ := Option.map_eq_some_iff.1 hx
    exact hS i y hy
  · rw [List.getElem?_map] at h1 h2
    obtain ⟨y, hy, rfl⟩ := Option.map_eq_some_iff.1 h1
    rw [hy] at h2
    injection h2 with h2
    subst h2
    exact h y (List.mem_of_getElem? hy)
def splP (x : Bt × Bat) : List (Bt × Bat) := if 1 < x.2.t then [(⟨1, x.1.A, x.1.n, x.1.c⟩, ⟨1, x.2.ps⟩), (⟨x.2.t - 1, x.1.A, x.1.n, x.1.c⟩, ⟨x.2.t - 1, x.2.ps⟩)] else [x]
def splZ (z : List (Bt × Bat)) : List (Bt × Bat) := z.flatMap splP
theorem splP_snd (x : Bt × Bat) : (splP x).map (·.2) = splitB x.2 := by
  unfold splP splitB
  split <;> rfl
theorem splZ_snd : ∀ z : List (Bt × Bat), (splZ z).map (·.2) = splitL (z.map (·.2))
  | [] => rfl
  | x :: z => by
    have ih := splZ_snd z
    unfold splZ at ih ⊢
    rw [List.flatMap_cons, List.map_append, splP_snd, ih, List.map_cons, splitL_cons]
theorem splZ_ok {w : World} {z : List (Bt × Bat)} (h : PrOk w z) : PrOk w (splZ z) := fun x hx => by
  obtain ⟨y, hy, hx⟩ := List.mem_flatMap.1 hx
  obtain ⟨a, b, c⟩ := h y hy
  unfold splP at hx
  split at hx
  · simp only [List.mem_cons, List.not_mem_nil, or_false] at hx
    rcases hx with rfl | rfl
    · exact ⟨rfl, b, c⟩
    · exact ⟨rfl, b, c⟩
  · rw [List.mem_singleton] at hx
    subst hx
    exact ⟨a, b, c⟩
theorem splZ_snoc {z : List (Bt × Bat)} {i : Nat} {x : Bt × Bat} (h : z[i]? = some x) : splZ (z.take (i + 1)) = splZ (z.take i) ++ splP x := by
  unfold splZ
  rw [List.take_add_one, h, Option.toList_some, List.flatMap_append]; simp
theorem splZ_len (z : List (Bt × Bat)) : (splZ z).length ≤ 2 * z.length := by
  have h1 := splitL_len (z.map (·.2))
  rw [← splZ_snd, List.length_map, List.length_map] at h1
  exact h1
theorem zero_snd {z : List (Bt × Bat)} {i : Nat} {x : Bt × Bat} (h : z[i]? = some x) : zeroI ((z.map (·.2)).take (i + 1)) = zeroI ((z.map (·.2)).take i) + if emptyB x.2.ps then x.2.t else 0 :=
  zeroI_snoc (by rw [List.getElem?_map, h]; rfl)
theorem Blk.has {w : World} {g : Nat} {t : TypeId} {cs : Array Value} (h : Blk w g t cs) {i : Nat} (hi : i < cs.size) : ∃ u, w.cell? ⟨g, i, none⟩ = some u := ⟨cs[i], (h.cell i).trans (Array.getElem?_eq_getElem hi)⟩
theorem pr_at {w : World} {B : Nat} {A : Option Addr} {z : List (Bt × Bat)} {k : Nat} (h : Slc prE 2 w B A z) (hk : k < z.length) :
    ∃ x b off, z[k]? = some x ∧ A = some ⟨b, off, none⟩ ∧ b < B ∧ w.cell? ⟨b, off + k * 2, none⟩ = some (.int .i64 x.1.t) ∧ w.cell? ⟨b, off + k * 2 + 1, none⟩ = some (.slice x.1.A x.1.n x.1.c) := by
  have hx : z[k]? = some z[k] := List.getElem?_eq_getElem hk
  obtain ⟨b, off, ha, hb, h0⟩ := h k _ hx
  exact ⟨z[k], b, off, hx, ha, hb, h0 0 _ rfl, h0 1 _ rfl⟩
theorem swap_perm {α : Type} {z : List α} {a b : Nat} {x y : α} (ha : z[a]? = some x) (hb : z[b]? = some y) : ((z.set a y).set b x).Perm z := by
  obtain ⟨h1, h2⟩ := List.getElem?_eq_some_iff.1 ha
  obtain ⟨h3, h4⟩ := List.getElem?_eq_some_iff.1 hb
  subst h2 h4
  exact List.set_set_perm h1 h3
/-- a whole batch stored into the block of an owned list -/
theorem put_own {w : World} {base g n c : Nat} {z : List (Bt × Bat)} {a : Nat} {x : Bt × Bat} (hO : Own w base 73 2 prE (.slice (some ⟨g, 0, none⟩) n c) z) (ha : z[a]? = some x) (y : Bt × Bat) :
    Sem.run Tryd.prog (storeCells ⟨g, a * 2, none⟩ (prE y) 0) w = .ok () (w.setCells g (a * 2) (prE y)) ∧ Own (w.setCells g (a * 2) (prE y)) base 73 2 prE (.slice (some ⟨g, 0, none⟩) n c) (z.set a y) ∧ base ≤ g ∧ Below base w (w.setCells g (a * 2) (prE y)) := by
  have hal := (List.getElem?_eq_some_iff.1 ha).1
  obtain ⟨b, js, e, hge, hG⟩ := own_blkF hO (by rintro rfl; simp at ha)
  injection e with e
  injection e with e
  subst e
  have g0 := blkF_get (f := prE) (n := 2) prE_len (js := js) ha (j := 0) rfl
  have g1 := blkF_get (f := prE) (n := 2) prE_len (js := js) ha (j := 1) rfl
  have c0 := hG.cell_ _ g0
  have c1 := hG.cell_ _ g1
  have hr := run_storeCells_cells (P := Tryd.prog) g (a * 2) (prE y) 0 w (fun j hj => by
      have hj2 : j < 2 := hj
      match j, hj2 with
      | 0, _ => exact (congrArg Option.isSome c0).trans rfl
      | 1, _ => exact (congrArg Option.isSome c1).trans rfl) (fun j hj => hG.frozen _) (prE_one y)
  rw [Nat.add_zero] at hr
  have e2 : w.setCells g (a * 2) (prE y) = (w.setCell ⟨g, a * 2, none⟩ (.int .i64 y.1.t)).setCell ⟨g, a * 2 + 1, none⟩ (.slice y.1.A y.1.n y.1.c) := rfl
  have hG1 := hG.set_ (a * 2) (.int .i64 y.1.t)
  rw [List.setIfInBounds_toArray, show a * 2 = a * 2 + 0 from rfl, flat_set (f := prE) (n := 2) prE_len (x' := (⟨y.1.t, x.1.A, x.1.n, x.1.c⟩, x.2)) ha (by omega) rfl, Nat.add_zero] at hG1
  have hG2 := hG1.set_ (a * 2 + 1) (.slice y.1.A y.1.n y.1.c)
  rw [List.setIfInBounds_toArray, flat_set (f := prE) (n := 2) prE_len (x' := y) (List.getElem?_set_self hal) (by omega) rfl, List.set_set, ← e2] at hG2
  refine ⟨hr, own_putF (f := prE) (sz := 2) prE_len hO (List.length_set) hG hG2, hge, ?_⟩
  rw [e2]
  exact ((Below.refl base w).setCell (p := ⟨g, a * 2, none⟩) hge _).setCell (p := ⟨g, a * 2 + 1, none⟩) hge _
theorem run_store_agg {P : Program} {o : Oper} {a : Act} {w w2 : World} (ty : TypeId) (x y : Operand) (ho : o.op = .store ty x y)
    {p : Addr} (cells : Array Value) (hx : a.eval x = .pointer (some p)) (hy : a.eval y = .agg cells) (hi : (P.info? ty).map (·.size) = some cells.size) (hst : Sem.run P (storeCells p cells.toList 0) w = .ok () w2) : (execOp a.eval o).run P w = .ok .skip w2 := by
  have hrun : (storeVar ty p (.agg cells)).run P w = .ok () w2 := by
    cases hq : P.info? ty with
    | none => simp [hq] at hi
    | some inf =>
      have hs : inf.size = cells.size := by simpa [hq] using hi
      simp [storeVar, sizeOf, typeInfo, hq, Value.cells, hs, hst]
  unfold execOp
  simp only [ho, hx, hy, Instr.storeAt, Instr.sureAddr, Sem.run_bind, Sem.run_pure, Result.andThen_ok, hrun]
/-- a store of a struct, of which the run of its cells is known -/
theorem wpList_store_agg {P : Program} {ops : Array Oper} {rest : List Oper} {o : Oper} {a : Act} {w w2 : World} {Q : Exit → Act → World → Prop} (hgd : o.guard = none) (ty : TypeId) (x y : Operand) (ho : o.op = .store ty x y)
    {p : Addr} (cells : Array Value) (hx : a.eval x = .pointer (some p)) (hy : a.eval y = .agg cells) (hi : (P.info? ty).map (·.size) = some cells.size) (hst : Sem.run P (storeCells p cells.toList 0) w = .ok () w2)
    (h : wpList P ops Q rest (a.put o.dst undef) w2) : wpList P ops Q (o :: rest) a w := by
  refine wpList_plain hgd fun _ hK => ?_
  unfold Oper.wp
  rw [run_store_agg ty x y ho cells hx hy hi hst]
  exact hK _ _ h
theorem wpList_app_own2 {α : Type} {P : Program} {ops : Array Oper} {rest : List Oper} {o : Oper} {a : Act} {Q : Exit → Act → World → Prop} {w : World} {base : Nat} {e : TypeId} {sz : Nat} {f : α → List Value} {v : Value} {xs ys : List α} {A2 : Option Addr} {m c2 B2 : Nat} (s x : Operand) {t : TypeId} (hgd : o.guard = none)
    (ho : o.op = .call { callee := .builtin .append, args := #[s, x], argTypes := #[t, t] }) (he : ElemT P t e sz) (hown : Own w base e sz f v xs) (hs : a.eval s = v) (hx : a.eval x = .slice A2 m c2) (h2 : Slc f sz w B2 A2 ys) (hm : ys.length = m)
    (hf : ∀ x, (f x).length = sz) (h1c : ∀ x, ∀ u ∈ f x, u.oneCell' = true) (hlen : xs.length + m ≤ 1000000000) (hbase : base ≤ w.heap.size)
    (h : ∀ v' w', Own w' base e sz f v' (xs ++ ys) → Below base w w' → w.grownBy w' v.ownBlock → (∀ b, v'.ownBlock = some b → w.heap.size ≤ b ∨ v.ownBlock = some b) → wpList P ops Q rest (a.put o.dst v') w') : wpList P ops Q (o :: rest) a w := by
  obtain ⟨v', w', hr, hO, hg, hv⟩ := run_app_own (P := P) (ty := o.type) he hown h2 hm (c2 := c2) hf h1c hlen hbase
  refine wpList_plain hgd fun K hK => ?_
  unfold Oper.wp
  rw [exec_app ho hs hx hr]
  exact hK _ _ (h v' w' hO ⟨hg.os, hg.tape, hg.output, hg.size, fun k hk => hg.block k (Nat.lt_of_lt_of_le hk hbase) fun he => by have := (World.ownsRow.lt hown k he.symm).1; omega⟩ hg hv)
end Go.Proofs.YtecaaimaeaocbaaDoor
