/- Parts of the proofs of this seat: Owns, BuildN, BuildC, Call1, CallB. Each part says what it proves; no condition beyond those stated there. -/
import Derived.Maps.AppendAt
import Derived.Test.YtnejacogflkmmaaM8
import Derived.Test.YtnejacogflkmmaaM9

/- Regions that draw their order and hold operations that make memory of their own, one of which may consume what another has made ('append(append([]T{}, xs...), y)'): reading operations first, then the own ones, then the forced end. -/
namespace Go.Proofs.Ytnejacogflkmmaa
open Go Go.RowKit
/-- an own operation at index i: what is known of its value until operation 'til' consumes it (til = i: never) -/
structure Ow where
  i : Nat
  til : Nat
  ok : Value → World → Prop
def Ow.live (x : Ow) (γ : Nat → Option Value) : Prop := x.til = x.i ∨ γ x.til = none
structure Ow.Good (x : Ow) : Prop where
  kept : ∀ (u : Value) (w w' : World) (row : Option Nat), w.grownBy w' row → (∀ b, u.ownBlock = some b → row ≠ some b) → x.ok u w → x.ok u w'
  lt : ∀ u w, x.ok u w → ∀ b, u.ownBlock = some b → b < w.heap.size
structure DO (ls : List Ow) (γ : Nat → Option Value) (w : World) : Prop where
  ok : ∀ x ∈ ls, ∀ u, γ x.i = some u → x.live γ → x.ok u w
  apart : ∀ x ∈ ls, ∀ y ∈ ls, x.i ≠ y.i → ∀ u v, γ x.i = some u → γ y.i = some v → x.live γ → y.live γ → ∀ b, u.ownBlock = some b → v.ownBlock ≠ some b
theorem grown_of_below {w w' : World} (h : Below w.heap.size w w') : w.grownBy w' none := ⟨h.os, h.tape, h.output, h.size, fun k hk _ => h.block k hk⟩
theorem DO.stable {ls : List Ow} (hg : ∀ x ∈ ls, x.Good) (γ : Nat → Option Value) (w w' : World) (hb : Below w.heap.size w w') (h : DO ls γ w) : DO ls γ w' :=
  ⟨fun x hx u hu hl => (hg x hx).kept u w w' none (grown_of_below hb) (fun _ _ h => by cases h) (h.ok x hx u hu hl), h.apart⟩
def preO (ls : List Ow) (j : Nat) : List Nat := (ls.filter fun x => x.til == j && x.i != j).map (·.i)
/-- what running an own operation gives -/
def OwRun (_P : Program) (ls : List Ow) (x : Ow) (W : World) (γ' : Nat → Option Value) (w : World) (r : Result Next) : Prop :=
  ∃ u w' row, r = .ok (.value u) w' ∧ x.ok u w' ∧ w.grownBy w' row ∧ Below W.heap.size W w' ∧ (∀ b, row = some b → ∃ y ∈ ls, y.til = x.i ∧ y.i ≠ x.i ∧ ∃ uy, γ' y.i = some uy ∧ uy.ownBlock = some b) ∧ (∀ b, u.ownBlock = some b → w.heap.size ≤ b ∨ row = some b)
theorem ownWalk_own {P : Program} {ops : Array Oper} {W : World} {ls : List Ow} {fin : Act → (Nat → Option Value) → Prop} {os : List Nat} {i d : Nat} {o : Oper} {a : Act} {γ : Nat → Option Value} (x : Ow)
    (hg : ∀ x ∈ ls, x.Good) (hxi : x.i = i) (ho : ops[i]? = some o) (hd : o.dst = some d) (hw : Region.wanted o (yielded ops a.tmps) = true) (hm : x ∈ ls) (hu : ∀ y ∈ ls, ∀ z ∈ ls, y.i = z.i → y = z)
    (hrun : ∀ w γ', Below W.heap.size W w → DO ls γ' w → γ' i = none → (∀ k ∈ preO ls i, γ' k = γ k) → OwRun P ls x W γ' w ((execOp a.eval o).run P w))
    (hk : ∀ u, ownWalk P ops noS W (DO ls) (fun _ _ => True) (preO ls) fin os { tmps := a.tmps.setIfInBounds d u, defers := a.defers } (gset γ i u)) :
    ownWalk P ops noS W (DO ls) (fun _ _ => True) (preO ls) fin (i :: os) a γ := by
  subst hxi
  refine ⟨o, ho, ⟨hw, fun w γ' hb hD hn hp => ?_⟩, fun u _ => ?_⟩
  · obtain ⟨u, w', row, hr, hok, hgr, hbw, hrow, hown⟩ := hrun w γ' hb.noS_ hD hn hp
    rw [hr]
    have old : ∀ y ∈ ls, y.i ≠ x.i → y.live (gset γ' x.i u) → y.live γ' ∧ (y.til = x.i → False) := fun y hy hne hl => by
      rcases hl with hl | hl
      · exact ⟨.inl hl, fun h => hne (by rw [← hl, h])⟩
      · unfold gset at hl
        split at hl
        · cases hl
        · rename_i hne2
          exact ⟨.inr hl, hne2⟩
    have sep : ∀ y ∈ ls, y.i ≠ x.i → y.live (gset γ' x.i u) → ∀ uy, γ' y.i = some uy → ∀ b, row = some b → uy.ownBlock ≠ some b := fun y hy hne hl uy huy b hb => by
      obtain ⟨z, hz, z1, z2, uz, z3, z4⟩ := hrow b hb
      obtain ⟨l1, l2⟩ := old y hy hne hl
      have hzy : z.i ≠ y.i := fun h => l2 (by rw [← hu z hz y hy h]; exact z1)
      exact hD.apart z hz y hy hzy uz uy z3 huy (.inr (by rw [z1]; exact hn)) l1 b z4
    refine ⟨trivial, .of_below hbw, fun y hy v hv hl => ?_, fun y hy z hz hyz v v' hv hv' hl hl' b hb' => ?_⟩
    · by_cases e : y.i = x.i
      · have hyx := hu y hy x hm e
        subst hyx
        unfold gset at hv
        rw [if_pos rfl] at hv
        injection hv with hv
        subst hv; exact hok
      · have hv0 : γ' y.i = some v := by unfold gset at hv; rw [if_neg e] at hv; exact hv
        exact (hg y hy).kept v w w' row hgr (fun b hb h => sep y hy e hl v hv0 b h hb) (hD.ok y hy v hv0 (old y hy e hl).1)
    · by_cases e : y.i = x.i
      · have e2 : z.i ≠ x.i := fun h => hyz (e.trans h.symm)
        have hv0 : γ' z.i = some v' := by unfold gset at hv'; rw [if_neg e2] at hv'; exact hv'
        have hvu : u = v := by unfold gset at hv; rw [if_pos e] at hv; injection hv
        subst hvu
        intro hz'
        rcases hown b hb' with h1 | h1
        · have := (hg z hz).lt v' w (hD.ok z hz v' hv0 (old z hz e2 hl').1) b hz'
          omega
        · exact sep z hz e2 hl' v' hv0 b h1 hz'
      · have hv0 : γ' y.i = some v := by unfold gset at hv; rw [if_neg e] at hv; exact hv
        by_cases e2 : z.i = x.i
        · have hvu : u = v' := by unfold gset at hv'; rw [if_pos e2] at hv'; injection hv'
          subst hvu
          intro hz'
          rcases hown b hz' with h1 | h1
          · have := (hg y hy).lt v w (hD.ok y hy v hv0 (old y hy e hl).1) b hb'
            omega
          · exact sep y hy e hl v hv0 b h1 hb'
        · have hv1 : γ' z.i = some v' := by unfold gset at hv'; rw [if_neg e2] at hv'; exact hv'
          exact hD.apart y hy z hz hyz v v' hv0 hv1 (old y hy e hl).1 (old z hz e2 hl').1 b hb'
  · rw [hd]
    exact hk u
theorem wp_region_owns {P : Program} {id : Nat} {Q : Exit → Act → World → Prop} {a : Act} {w : World} {l : List Oper} (n : Nat) (ks os : List Nat) (ls : List Ow) (hg : ∀ x ∈ ls, x.Good)
    (hm : P.follows .mixedOrders = true) (hB : ownB .any l n ks os = true) (hpB : preB .any l (preO ls) os = true) (hsl : slotsB (pick l ks) a.tmps.size = true) (hst : ls.all (fun x => os.contains x.til) = true)
    (h : ∃ fin, (∀ W1, Below w.heap.size w W1 → wpQuiet P l.toArray (fun w' => ∃ u : Since W1, w' = u.w) (fun a' => a' = fin) (pick l ks) a) ∧
      ownWalk P l.toArray noS w (DO ls) (fun _ _ => True) (preO ls) (fun a' γ' => ∀ w', Below w.heap.size w w' → DO ls γ' w' → wpList P l.toArray Q (l.drop n) a' w') os fin (fun _ => none)) : (Code.region id l.toArray true).wp P Q a w := by
  obtain ⟨fin, h1, h2⟩ := h
  refine wp_region_own noS n ks os (preO ls) (fun _ _ => True) (DO ls) hm hB hpB (fun j hj => ?_) hsl (DO.stable hg) ⟨fun _ _ _ h => (by cases h), fun _ _ _ _ _ _ _ h => (by cases h)⟩ (fun _ _ => ⟨undef, trivial⟩) ⟨fin, fun W1 hc => h1 W1 hc.noS_, ?_⟩
  · unfold preO
    rw [List.filter_eq_nil_iff.2, List.map_nil]
    intro x hx
    have h1 := List.all_eq_true.1 hst x hx
    simp only [Bool.and_eq_true, beq_iff_eq, bne_iff_ne, not_and]
    rintro rfl
    exact absurd (by simpa using h1) hj
  · have key : ∀ (os : List Nat) a γ, ownWalk P l.toArray noS w (DO ls) (fun _ _ => True) (preO ls) (fun a' γ' => ∀ w', Below w.heap.size w w' → DO ls γ' w' → wpList P l.toArray Q (l.drop n) a' w') os a γ →
        ownWalk P l.toArray noS w (DO ls) (fun _ _ => True) (preO ls) (fun a' γ' => ∀ w', Chg noS w w' → DO ls γ' w' → wpList P l.toArray Q (l.drop n) a' w') os a γ := by
      intro os
      induction os with
      | nil => intro a γ h w' hc hD; exact h w' hc.noS_ hD
      | cons i os ih =>
        rintro a γ ⟨o, ho, hy, hk⟩
        exact ⟨o, ho, hy, fun u hu => ih _ _ (hk u hu)⟩
    exact key os _ _ h2
/-! the kinds of own operations -/
/-- append of a readable slice behind an owned list -/
theorem run_app_own {α : Type} {P : Program} {w : World} {e : TypeId} {sz : Nat} {f : α → List Value} {xs ys : List α} {t ty : TypeId} (he : ElemT P t e sz) {base : Nat} {v : Value} (hown : Own w base e sz f v xs) {A2 : Option Addr} {m c2 B2 : Nat} (h2 : Slc f sz w B2 A2 ys) (hm : ys.length = m)
    (hf : ∀ x, (f x).length = sz) (h1c : ∀ x, ∀ u ∈ f x, u.oneCell' = true) (hlen : xs.length + m ≤ 1000000000) (hbase : base ≤ w.heap.size) :
    ∃ v' w', (Builtin.append_ #[t, t] ty #[v, .slice A2 m c2]).run P w = .ok v' w' ∧ Own w' base e sz f v' (xs ++ ys) ∧ w.grownBy w' v.ownBlock ∧ (∀ b, v'.ownBlock = some b → w.heap.size ≤ b ∨ v.ownBlock = some b) := by
  obtain ⟨i, z, bytes, ht, hi, hz, hsize, hby, hzs, h0, hb⟩ := he
  cases A2 with
  | none =>
    have hy : ys = [] := by
      cases ys with
      | nil => rfl
      | cons y r => obtain ⟨b, off, h3, _⟩ := h2 0 y rfl; cases h3
    subst hy
    have hm0 : m = 0 := by rw [← hm]; rfl
    subst hm0
    refine ⟨v, w, ?_, by rw [List.append_nil]; exact hown, ⟨rfl, rfl, rfl, Nat.le_refl _, fun _ _ _ => rfl⟩, fun b hb => .inr hb⟩
    rcases hown.2 with ⟨rfl, _⟩ | ⟨g, cap, cur, rfl, _, _, hnc, _⟩
    · simp [Builtin.append_, run_underlying ht, sizeOf, typeInfo, hi, Builtin.lenOf, Builtin.firstCells]
    · simp [Builtin.append_, run_underlying ht, sizeOf, typeInfo, hi, Builtin.lenOf, Builtin.firstCells, hnc, storeCells, loadCells]
  | some b2 =>
    have hfl : (ys.flatMap f).length = m * sz := by rw [flat_len hf, hm]
    have hc : ∀ (q : Nat) (u : Value), (ys.flatMap f)[q]? = some u → w.cell? (b2.add q) = some u := fun q u hq => h2.flat hf b2 rfl q u hq
    have h1 : ∀ u ∈ ys.flatMap f, u.oneCell' = true := fun u hu => by obtain ⟨y, _, hyu⟩ := List.mem_flatMap.1 hu; exact h1c y u hyu
    have hbytes : (xs.length + m) * bytes ≤ 140737488355328 := by
      calc (xs.length + m) * bytes ≤ 1000000000 * 4096 := Nat.mul_le_mul hlen hb
        _ ≤ _ := by omega
    obtain ⟨v', w', hrun, r1, r2, _, r5⟩ := run_append_own_at (P := P) w base t ty e i z sz bytes ht hi hz hsize hby hzs h0 v xs.length (xs.flatMap f) hown b2 m c2 (ys.flatMap f) hfl hc h1 (by unfold maxLen; omega) hbytes hbase
    refine ⟨v', w', hrun, ?_, r2, ?_⟩
    · show w'.ownsRow _ _ _ _ _ _
      rw [List.length_append, hm, List.flatMap_append]
      exact r1
    · intro b hb
      rcases r5 with r5 | r5
      · right; rw [← r5]; exact hb
      · left
        rw [hb] at r5
        injection r5 with r5
        omega
theorem OwRun.alloc {P : Program} {ls : List Ow} {x : Ow} {W w : World} {γ' : Nat → Option Value} {r : Result Next} {v : Nat → Value} {o : Obj} (hb : Below W.heap.size W w) (hr : r = .ok (.value (v w.heap.size)) (w.alloc o)) (hok : x.ok (v w.heap.size) (w.alloc o)) (hv : ∀ g b, (v g).ownBlock = some b → b = g) : OwRun P ls x W γ' w r :=
  ⟨v w.heap.size, w.alloc o, none, hr, hok, grown_of_below ((Below.refl _ w).alloc (Nat.le_refl _) o), hb.alloc hb.size o, fun _ h => (by cases h), fun b hb => .inl (by rw [hv _ b hb]; exact Nat.le_refl _)⟩
theorem exec_app {P : Program} {o : Oper} {a : Act} {s x : Operand} {t : TypeId} {v y v' : Value} {w w' : World} (ho : o.op = .call { callee := .builtin .append, args := #[s, x], argTypes := #[t, t] }) (hs : a.eval s = v) (hx : a.eval x = y) (hr : (Builtin.append_ #[t, t] o.type #[v, y]).run P w = .ok v' w') : (execOp a.eval o).run P w = .ok (.value v') w' := by
  unfold execOp
  simp only [ho, resolve, invoke, builtin, Sem.run_bind, Sem.run_pure, Result.andThen_ok, List.map_toArray, List.map_cons, List.map_nil, hs, hx, hr]
theorem OwRun.app {α : Type} {P : Program} {ls : List Ow} {W w : World} {γ' : Nat → Option Value} {o : Oper} {a : Act} {s xo : Operand} {t e : TypeId} {sz : Nat} {f : α → List Value} {xs ys : List α} {u0 : Value} {A2 : Option Addr} {m c2 B2 : Nat} (x y : Ow)
    (hy : y ∈ ls) (h1 : y.til = x.i) (h2 : y.i ≠ x.i) (hoky : ∀ u w, y.ok u w → Own w W.heap.size e sz f u xs) (hokx : ∀ u w, Own w W.heap.size e sz f u (xs ++ ys) → x.ok u w) (he : ElemT P t e sz) (hf : ∀ x, (f x).length = sz) (h1c : ∀ x, ∀ u ∈ f x, u.oneCell' = true)
    (ho : o.op = .call { callee := .builtin .append, args := #[s, xo], argTypes := #[t, t] }) (hs : a.eval s = u0) (hx : a.eval xo = .slice A2 m c2) (hS : Slc f sz w B2 A2 ys) (hm : ys.length = m) (hlen : xs.length + m ≤ 1000000000)
    (hb : Below W.heap.size W w) (hD : DO ls γ' w) (hγ : γ' y.i = some u0) (hn : γ' x.i = none) : OwRun P ls x W γ' w ((execOp a.eval o).run P w) := by
  have hown := hoky u0 w (hD.ok y hy u0 hγ (.inr (by rw [h1]; exact hn)))
  obtain ⟨v', w', hr, hO, hg, hv⟩ := run_app_own (P := P) (ty := o.type) he hown hS hm (c2 := c2) hf h1c hlen hb.size
  refine ⟨v', w', u0.ownBlock, exec_app ho hs hx hr, hokx v' w' hO, hg, ?_, fun b hb => ⟨y, hy, h1, h2, u0, hγ, hb⟩, hv⟩
  exact hb.trans ⟨hg.os, hg.tape, hg.output, hg.size, fun k hk => hg.block k (Nat.lt_of_lt_of_le hk hb.size) fun he => by have := (World.ownsRow.lt hown k he.symm).1; omega⟩
/-- at the list of a plain region's operations -/
theorem wpList_app_own {α : Type} {P : Program} {ops : Array Oper} {rest : List Oper} {o : Oper} {a : Act} {Q : Exit → Act → World → Prop} {w : World} {base : Nat} {e : TypeId} {sz : Nat} {f : α → List Value} {v : Value} {xs ys : List α} {A2 : Option Addr} {m c2 B2 : Nat} (s x : Operand) {t : TypeId} (hgd : o.guard = none)
    (ho : o.op = .call { callee := .builtin .append, args := #[s, x], argTypes := #[t, t] }) (he : ElemT P t e sz) (hown : Own w base e sz f v xs) (hs : a.eval s = v) (hx : a.eval x = .slice A2 m c2) (h2 : Slc f sz w B2 A2 ys) (hm : ys.length = m)
    (hf : ∀ x, (f x).length = sz) (h1c : ∀ x, ∀ u ∈ f x, u.oneCell' = true) (hlen : xs.length + m ≤ 1000000000) (hbase : base ≤ w.heap.size)
    (h : ∀ v' w', Own w' base e sz f v' (xs ++ ys) → Below base w w' → w.grownBy w' v.ownBlock → wpList P ops Q rest (a.put o.dst v') w') : wpList P ops Q (o :: rest) a w := by
  obtain ⟨v', w', hr, hO, hg, hv⟩ := run_app_own (P := P) (ty := o.type) he hown h2 hm (c2 := c2) hf h1c hlen hbase
  refine wpList_plain hgd fun K hK => ?_
  unfold Oper.wp
  rw [exec_app ho hs hx hr]
  exact hK _ _ (h v' w' hO ⟨hg.os, hg.tape, hg.output, hg.size, fun k hk => hg.block k (Nat.lt_of_lt_of_le hk hbase) fun he => by have := (World.ownsRow.lt hown k he.symm).1; omega⟩ hg)
/-- an empty list that lies in a new block -/
theorem Own.empty_ {α : Type} {w : World} {base g : Nat} {e : TypeId} {sz : Nat} {f : α → List Value} (h : Blk w g e #[]) (hg : base ≤ g) : Own w base e sz f (.slice (some ⟨g, 0, none⟩) 0 0) ([] : List α) :=
  ⟨by simp, .inr ⟨g, 0, #[], rfl, hg, h, Nat.le_refl _, Nat.zero_le _, by simp, by simp⟩⟩
theorem own_ow {α : Type} (i til base : Nat) (e : TypeId) (sz : Nat) (f : α → List Value) (l : List α) : (Ow.mk i til fun u w => Own w base e sz f u l).Good :=
  ⟨fun u _ _ _ hg hne h => World.ownsRow.kept h hg (by
    cases hv : u.ownBlock with
    | none => exact .inl rfl
    | some q => exact .inr fun he => hne q hv he.symm), fun _ _ h b hb => (World.ownsRow.lt h b hb).2⟩
/-- a block of one element -/
def OneOk (base : Nat) (e : TypeId) (cs : Array Value) (u : Value) (w : World) : Prop := ∃ g, u = .slice (some ⟨g, 0, none⟩) 1 1 ∧ Blk w g e cs ∧ base ≤ g
theorem one_ow (i til base : Nat) (e : TypeId) (cs : Array Value) : (Ow.mk i til (OneOk base e cs)).Good :=
  ⟨fun u w w' row hg hne ⟨g, h1, h2, h3⟩ => ⟨g, h1, h2.grown hg (fun he => hne g (by rw [h1]; rfl) he.symm), h3⟩, fun u w ⟨g, h1, h2, _⟩ b hb => by
    rw [h1] at hb
    injection hb with hb
    have hb' : g = b := hb
    subst hb'; exact h2.lt⟩
theorem run_build0 {P : Program} {t e : TypeId} {sz : Nat} (he : ElemT P t e sz) (w : World) : (Instr.buildSlice t 0 #[]).run P w = .ok (.slice (some ⟨w.heap.size, 0, none⟩) 0 0) (w.alloc (.cells #[] e)) := by
  obtain ⟨i, z, bytes, ht, hi, hz, hsize, hby, hzs, h0, hb⟩ := he
  simp [Instr.buildSlice, run_underlying ht, sizeOf, typeInfo, hi, newRow, Instr.fill]
  rw [Array.eq_empty_of_size_eq_zero (xs := Array.map (fun _ => default) (Array.range 0)) (by simp)]
theorem run_build1 {P : Program} {t e : TypeId} {sz : Nat} (he : ElemT P t e sz) (v : Value) (hv : v.cells.size = sz) (hs : sz ≤ 1000) (w : World) : (Instr.buildSlice t 1 #[(0, v)]).run P w = .ok (.slice (some ⟨w.heap.size, 0, none⟩) 1 1) (w.alloc (.cells v.cells e)) := by
  obtain ⟨i, z, bytes, ht, hi, hz, hsize, hby, hzs, h0, hb⟩ := he
  refine run_buildSlice w t e 1 _ v.cells i z ht hi hz (by omega) (by omega) ?_
  have h := Great.fill_whole (s := sz) h0 [v] ((Array.range (1 * sz)).map (z.cells[· % z.cells.size]!)) (fun u hu => by rw [List.mem_singleton] at hu; subst hu; exact hv) (by simp)
  subst hsize
  simpa using h
theorem exec_build {P : Program} {o : Oper} {a : Act} {t : TypeId} {n : Nat} {parts : Array (Nat × Operand)} {ps : Array (Nat × Value)} {v : Value} {w w' : World} (ho : o.op = .buildSlice t n parts) (hp : (parts.map fun (i, x) => (i, a.eval x)) = ps) (hr : (Instr.buildSlice t n ps).run P w = .ok v w') : (execOp a.eval o).run P w = .ok (.value v) w' := by
  subst hp
  unfold execOp
  simp only [ho, Sem.run_bind, hr, Result.andThen_ok]
  rfl
end Go.Proofs.Ytnejacogflkmmaa

/- A region that draws: a slice of n elements is built and assigned; calls and reads before it. -/
namespace Go.Proofs.Ytnejacogflkmmaa
open Go Go.RowKit
theorem gset_at (γ : Nat → Option Value) (i : Nat) (u : Value) : gset γ i u i = some u := by unfold gset; rw [if_pos rfl]
theorem gset_ne (γ : Nat → Option Value) (i k : Nat) (u : Value) (h : k ≠ i) : gset γ i u k = γ k := by unfold gset; rw [if_neg h]
theorem wp_region_buildn {P : Program} {id : Nat} {Q : Exit → Act → World → Prop} {a : Act} {W : World} {l : List Oper} {e : TypeId} {cs : Array Value} {m : Nat} (n i j : Nat) (ks : List Nat) {oi oj : Oper} {di dj : Nat} (_x : Operand)
    (hm : P.follows .mixedOrders = true) (hB : ownB .any l n ks [i, j] = true) (hpB : preB .any l (fun k => if k == j then [i] else []) [i, j] = true) (hsl : slotsB (pick l ks) a.tmps.size = true) (hij : i ≠ j)
    (hoi : l[i]? = some oi) (hoj : l[j]? = some oj) (edi : oi.dst = some di) (edj : oj.dst = some dj)
    (h : ∃ fin : Act, (∀ W1, Below W.heap.size W W1 → wpQuiet P l.toArray (fun w' => ∃ u : Since W1, w' = u.w) (fun a' => a' = fin) (pick l ks) a) ∧
      Region.wanted oi (yielded l.toArray fin.tmps) = true ∧ (∀ w1, (execOp fin.eval oi).run P w1 = .ok (.value (.slice (some ⟨w1.heap.size, 0, none⟩) m m)) (w1.alloc (.cells cs e))) ∧
      (∀ u0, Region.wanted oj (yielded l.toArray (fin.put (some di) u0).tmps) = true ∧ ∀ w1, (execOp (fin.put (some di) u0).eval oj).run P w1 = .ok (.value u0) w1) ∧
      ∀ g w', Below W.heap.size W w' → Blk w' g e cs → wpList P l.toArray Q (l.drop n) ((fin.put (some di) (.slice (some ⟨g, 0, none⟩) m m)).put (some dj) (.slice (some ⟨g, 0, none⟩) m m)) w') :
    (Code.region id l.toArray true).wp P Q a W := by
  obtain ⟨fin, hq, hwi, hri, hj, hk⟩ := h
  refine wp_region_own noS n ks [i, j] (fun k => if k == j then [i] else []) (fun _ _ => True)
    (fun γ w => (∀ u, γ i = some u → ∃ g, u = .slice (some ⟨g, 0, none⟩) m m ∧ Blk w g e cs) ∧ (∀ u0 u1, γ i = some u0 → γ j = some u1 → u1 = u0) ∧ (γ i = none → γ j = none))
    hm hB hpB (fun k hk => ?_) hsl (fun γ w w' hb hD => ?_) ⟨fun _ h => (by cases h), fun _ _ h => (by cases h), fun _ => rfl⟩ (fun _ _ => ⟨undef, trivial⟩) ⟨fin, fun W1 hc => hq W1 hc.noS_, ?_⟩
  · have : k ≠ j := fun e => hk (by simp [e])
    simp [this]
  · refine ⟨fun u hu => ?_, hD.2.1, hD.2.2⟩
    obtain ⟨g, h1, h2⟩ := hD.1 u hu
    exact ⟨g, h1, h2.below hb h2.lt⟩
  · refine ⟨oi, by simpa using hoi, ⟨hwi, fun w γ hc hD hn _ => ?_⟩, fun u0 _ => ?_⟩
    · rw [hri w]
      refine ⟨trivial, hc.alloc _, fun u hu => ?_, fun u0 u1 _ hu => ?_, fun hu => ?_⟩
      · rw [gset_at] at hu
        injection hu with hu
        exact ⟨_, hu.symm, Blk.new w e cs⟩
      · rw [gset_ne _ _ _ _ (Ne.symm hij), hD.2.2 hn] at hu; cases hu
      · rw [gset_at] at hu; cases hu
    · rw [edi]
      obtain ⟨hwj, hrj⟩ := hj u0
      refine ⟨oj, by simpa using hoj, ⟨hwj, fun w γ hc hD hn hp => ?_⟩, fun u1 _ => ?_⟩
      · have hp0 := hp i (by simp)
        rw [gset_at] at hp0
        rw [hrj w]
        refine ⟨trivial, hc, fun u hu => ?_, fun v v1 hv hv1 => ?_, fun hv => ?_⟩
        · rw [gset_ne _ _ _ _ hij] at hu; exact hD.1 u hu
        · rw [gset_ne _ _ _ _ hij, hp0] at hv
          rw [gset_at] at hv1
          injection hv with hv; injection hv1 with hv1; rw [← hv, ← hv1]
        · rw [gset_ne _ _ _ _ hij, hp0] at hv; cases hv
      · rw [edj]
        intro w' hc hD
        have g0 : gset (gset (fun _ => none) i u0) j u1 i = some u0 := by rw [gset_ne _ _ _ _ hij, gset_at]
        have g1 : gset (gset (fun _ => none) i u0) j u1 j = some u1 := gset_at _ _ _
        obtain ⟨g, rfl, hb⟩ := hD.1 _ g0
        obtain rfl := hD.2.1 _ _ g0 g1
        exact hk g w' hc.noS_ hb
end Go.Proofs.Ytnejacogflkmmaa

/- A region that draws: a slice literal is built and handed to one call that reads it; the rest reads. -/
namespace Go.Proofs.Ytnejacogflkmmaa
open Go Go.RowKit
theorem wp_region_buildc {P : Program} {id : Nat} {Q : Exit → Act → World → Prop} {a : Act} {W : World} {l : List Oper} {e : TypeId} {cs : Array Value} {m : Nat} (n i j : Nat) (ks : List Nat) {oi oj : Oper} {di dj : Nat} {f : FuncId} {xs : Array Operand} {ts : Array TypeId} (r : Value)
    (hm : P.follows .mixedOrders = true) (hB : ownB .any l n ks [i, j] = true) (hpB : preB .any l (fun k => if k == j then [i] else []) [i, j] = true) (hsl : slotsB (pick l ks) a.tmps.size = true) (hij : i ≠ j)
    (hoi : l[i]? = some oi) (hoj : l[j]? = some oj) (edi : oi.dst = some di) (edj : oj.dst = some dj)
    (pj : oj.op = .call { callee := .value (.func f), args := xs, argTypes := ts }) (hf : ∀ args w, (callFunc f args).run P w = .ok (.enter f args) w)
    (h : ∃ fin : Act, (∀ W1, Below W.heap.size W W1 → wpQuiet P l.toArray (fun w' => ∃ u : Since W1, w' = u.w) (fun a' => a' = fin) (pick l ks) a) ∧
      Region.wanted oi (yielded l.toArray fin.tmps) = true ∧ (∀ w1, (execOp fin.eval oi).run P w1 = .ok (.value (.slice (some ⟨w1.heap.size, 0, none⟩) m m)) (w1.alloc (.cells cs e))) ∧
      (∀ u0, Region.wanted oj (yielded l.toArray (fin.put (some di) u0).tmps) = true ∧ xs.map (fin.put (some di) u0).eval = #[u0]) ∧
      (∀ g w, Blk w g e cs → Calls P f #[.slice (some ⟨g, 0, none⟩) m m] w fun e w'' => e = .returned r ∧ Below w.heap.size w w'') ∧
      ∀ g w', Below W.heap.size W w' → wpList P l.toArray Q (l.drop n) ((fin.put (some di) (.slice (some ⟨g, 0, none⟩) m m)).put (some dj) r) w') :
    (Code.region id l.toArray true).wp P Q a W := by
  obtain ⟨fin, hq, hwi, hri, hj, hcl, hk⟩ := h
  refine wp_region_own noS n ks [i, j] (fun k => if k == j then [i] else []) (fun k u => if k = i then ∃ g, u = .slice (some ⟨g, 0, none⟩) m m else u = r)
    (fun γ w => (∀ u, γ i = some u → ∃ g, u = .slice (some ⟨g, 0, none⟩) m m ∧ Blk w g e cs) ∧ (∀ u1, γ j = some u1 → u1 = r))
    hm hB hpB (fun k hk => ?_) hsl (fun γ w w' hb hD => ⟨fun u hu => ?_, hD.2⟩) ⟨fun _ h => (by cases h), fun _ h => (by cases h)⟩ (fun k _ => by
      by_cases h : k = i
      · exact ⟨.slice (some ⟨0, 0, none⟩) m m, by simp [h]⟩
      · exact ⟨r, by simp [h]⟩) ⟨fin, fun W1 hc => hq W1 hc.noS_, ?_⟩
  · have : k ≠ j := fun e => hk (by simp [e])
    simp [this]
  · obtain ⟨g, h1, h2⟩ := hD.1 u hu
    exact ⟨g, h1, h2.below hb h2.lt⟩
  · refine ⟨oi, by simpa using hoi, ⟨hwi, fun w γ hc hD hn _ => ?_⟩, fun u0 hu0 => ?_⟩
    · rw [hri w]
      refine ⟨by simp, hc.alloc _, fun u hu => ?_, fun u1 hu => ?_⟩
      · rw [gset_at] at hu
        injection hu with hu
        exact ⟨_, hu.symm, Blk.new w e cs⟩
      · rw [gset_ne _ _ _ _ (Ne.symm hij)] at hu
        exact hD.2 _ hu
    · rw [edi]
      obtain ⟨hwj, hxs⟩ := hj u0
      refine ⟨oj, by simpa using hoj, ⟨hwj, fun w γ hc hD hn hp => ?_⟩, fun u1 hu1 => ?_⟩
      · have hp0 := hp i (by simp)
        rw [gset_at] at hp0
        obtain ⟨g, rfl, hb⟩ := hD.1 _ hp0
        rw [run_call_fn pj hf w, hxs]
        refine ⟨rfl, (hcl g w hb).mono ?_⟩
        rintro e' w'' ⟨rfl, hb2⟩
        refine ⟨_, rfl, by simp [Ne.symm hij], hc.trans (.of_below hb2), fun u hu => ?_, fun v hv => ?_⟩
        · rw [gset_ne _ _ _ _ hij] at hu
          obtain ⟨g', h1, h2⟩ := hD.1 u hu
          exact ⟨g', h1, h2.below hb2 h2.lt⟩
        · rw [gset_at] at hv; injection hv with hv; exact hv.symm
      · rw [edj]
        intro w' hc hD
        have g0 : gset (gset (fun _ => none) i u0) j u1 i = some u0 := by rw [gset_ne _ _ _ _ hij, gset_at]
        have g1 : gset (gset (fun _ => none) i u0) j u1 j = some u1 := gset_at _ _ _
        obtain ⟨g, rfl, _⟩ := hD.1 _ g0
        obtain rfl := hD.2 _ g1
        exact hk g w' hc.noS_
end Go.Proofs.Ytnejacogflkmmaa

/- A region that draws: one call whose value is known by a relation; the rest reads. -/
namespace Go.Proofs.Ytnejacogflkmmaa
open Go Go.RowKit
theorem wp_region_call1 {P : Program} {id : Nat} {Q : Exit → Act → World → Prop} {a : Act} {W : World} {l : List Oper} (n i : Nat) (ks : List Nat) (R : Value → World → Prop) {oi : Oper} {di : Nat} {f : FuncId} {xs : Array Operand} {ts : Array TypeId} {args : Array Value}
    (hm : P.follows .mixedOrders = true) (hB : ownB .any l n ks [i] = true) (hpB : preB .any l (fun _ => []) [i] = true) (hsl : slotsB (pick l ks) a.tmps.size = true)
    (hst : ∀ u w w', Below w.heap.size w w' → R u w → R u w')
    (hoi : l[i]? = some oi) (edi : oi.dst = some di)
    (pi : oi.op = .call { callee := .value (.func f), args := xs, argTypes := ts }) (hf : ∀ args w, (callFunc f args).run P w = .ok (.enter f args) w)
    (h : ∃ fin : Act, (∀ W1, Below W.heap.size W W1 → wpQuiet P l.toArray (fun w' => ∃ u : Since W1, w' = u.w) (fun a' => a' = fin) (pick l ks) a) ∧
      xs.map fin.eval = args ∧ Region.wanted oi (yielded l.toArray fin.tmps) = true ∧ (∀ w, Below W.heap.size W w → Calls P f args w fun e w'' => ∃ u, e = .returned u ∧ R u w'' ∧ Below w.heap.size w w'') ∧
      ∀ u w', Below W.heap.size W w' → R u w' → wpList P l.toArray Q (l.drop n) (fin.put (some di) u) w') :
    (Code.region id l.toArray true).wp P Q a W := by
  obtain ⟨fin, hq, hargs, hwi, hri, hk⟩ := h
  refine wp_region_own noS n ks [i] (fun _ => []) (fun _ _ => True)
    (fun γ w => ∀ u, γ i = some u → R u w)
    hm hB hpB (fun _ _ => rfl) hsl (fun γ w w' hb hD u hu => hst u w w' hb (hD u hu)) (fun _ h => (by cases h)) (fun _ _ => ⟨undef, trivial⟩) ⟨fin, fun W1 hc => hq W1 hc.noS_, ?_⟩
  refine ⟨oi, by simpa using hoi, ⟨hwi, fun w γ hc hD hn _ => ?_⟩, fun u0 _ => ?_⟩
  · rw [run_call_fn pi hf w, hargs]
    refine ⟨rfl, (hri w hc.noS_).mono ?_⟩
    rintro e w'' ⟨u, he, hR, hb⟩
    refine ⟨_, he, trivial, hc.trans (.of_below hb), fun v hv => ?_⟩
    rw [gset_at] at hv
    injection hv with hv
    rw [← hv]; exact hR
  · rw [edi]
    intro w' hc hD
    exact hk u0 w' hc.noS_ (hD _ (gset_at _ _ _))
end Go.Proofs.Ytnejacogflkmmaa

/- A region that draws: one call whose value is known by a relation, and one free operation on it; the rest reads. -/
namespace Go.Proofs.Ytnejacogflkmmaa
open Go Go.RowKit
theorem wp_region_callb {P : Program} {id : Nat} {Q : Exit → Act → World → Prop} {a : Act} {W : World} {l : List Oper} (n i j : Nat) (ks : List Nat) (R : Value → World → Prop) (V : Value → Prop) (g : Value → Value) {oi oj : Oper} {di dj : Nat} {f : FuncId} {xs : Array Operand} {ts : Array TypeId} {args : Array Value}
    (hm : P.follows .mixedOrders = true) (hB : ownB .any l n ks [i, j] = true) (hpB : preB .any l (fun k => if k == j then [i] else []) [i, j] = true) (hsl : slotsB (pick l ks) a.tmps.size = true) (hij : i ≠ j)
    (hst : ∀ u w w', Below w.heap.size w w' → R u w → R u w') (hV : ∀ u w, R u w → V u) (hV0 : ∃ u, V u)
    (hoi : l[i]? = some oi) (hoj : l[j]? = some oj) (edi : oi.dst = some di) (edj : oj.dst = some dj)
    (pi : oi.op = .call { callee := .value (.func f), args := xs, argTypes := ts }) (hf : ∀ args w, (callFunc f args).run P w = .ok (.enter f args) w)
    (h : ∃ fin : Act, (∀ W1, Below W.heap.size W W1 → wpQuiet P l.toArray (fun w' => ∃ u : Since W1, w' = u.w) (fun a' => a' = fin) (pick l ks) a) ∧
      xs.map fin.eval = args ∧ Region.wanted oi (yielded l.toArray fin.tmps) = true ∧ (∀ w, Below W.heap.size W w → Calls P f args w fun e w'' => ∃ u, e = .returned u ∧ R u w'' ∧ Below w.heap.size w w'') ∧
      (∀ u0, V u0 → Region.wanted oj (yielded l.toArray (fin.put (some di) u0).tmps) = true ∧ ∀ w1, (execOp (fin.put (some di) u0).eval oj).run P w1 = .ok (.value (g u0)) w1) ∧
      ∀ u w', Below W.heap.size W w' → R u w' → wpList P l.toArray Q (l.drop n) ((fin.put (some di) u).put (some dj) (g u)) w') :
    (Code.region id l.toArray true).wp P Q a W := by
  obtain ⟨fin, hq, hargs, hwi, hri, hj, hk⟩ := h
  refine wp_region_own noS n ks [i, j] (fun k => if k == j then [i] else []) (fun k u => k = i → V u)
    (fun γ w => (∀ u, γ i = some u → R u w) ∧ (∀ u0 u1, γ i = some u0 → γ j = some u1 → u1 = g u0) ∧ (γ i = none → γ j = none))
    hm hB hpB (fun k hk => ?_) hsl (fun γ w w' hb hD => ⟨fun u hu => hst u w w' hb (hD.1 u hu), hD.2.1, hD.2.2⟩) ⟨fun _ h => (by cases h), fun _ _ h => (by cases h), fun _ => rfl⟩ (fun k _ => by obtain ⟨u, hu⟩ := hV0; exact ⟨u, fun _ => hu⟩) ⟨fin, fun W1 hc => hq W1 hc.noS_, ?_⟩
  · have : k ≠ j := fun e => hk (by simp [e])
    simp [this]
  · refine ⟨oi, by simpa using hoi, ⟨hwi, fun w γ hc hD hn _ => ?_⟩, fun u0 hu0 => ?_⟩
    · rw [run_call_fn pi hf w, hargs]
      refine ⟨rfl, (hri w hc.noS_).mono ?_⟩
      rintro e w'' ⟨u, he, hR, hb⟩
      refine ⟨_, he, fun _ => hV _ _ hR, hc.trans (.of_below hb), fun v hv => ?_, fun v v1 _ hv => ?_, fun hv => ?_⟩
      · rw [gset_at] at hv
        injection hv with hv
        rw [← hv]; exact hR
      · rw [gset_ne _ _ _ _ (Ne.symm hij), hD.2.2 hn] at hv; cases hv
      · rw [gset_at] at hv; cases hv
    · rw [edi]
      obtain ⟨hwj, hrj⟩ := hj u0 (hu0 rfl)
      refine ⟨oj, by simpa using hoj, ⟨hwj, fun w γ hc hD hn hp => ?_⟩, fun u1 _ => ?_⟩
      · have hp0 := hp i (by simp)
        rw [gset_at] at hp0
        rw [hrj w]
        refine ⟨fun h => absurd h.symm hij, hc, fun u hu => ?_, fun v v1 hv hv1 => ?_, fun hv => ?_⟩
        · rw [gset_ne _ _ _ _ hij] at hu; exact hD.1 u hu
        · rw [gset_ne _ _ _ _ hij, hp0] at hv
          rw [gset_at] at hv1
          injection hv with hv; injection hv1 with hv1; rw [← hv, ← hv1]
        · rw [gset_ne _ _ _ _ hij, hp0] at hv; cases hv
      · rw [edj]
        intro w' hc hD
        have g0 : gset (gset (fun _ => none) i u0) j u1 i = some u0 := by rw [gset_ne _ _ _ _ hij, gset_at]
        have g1 : gset (gset (fun _ => none) i u0) j u1 j = some u1 := gset_at _ _ _
        obtain rfl := hD.2.1 _ _ g0 g1
        exact hk u0 w' hc.noS_ (hD.1 _ g0)
end Go.Proofs.Ytnejacogflkmmaa
