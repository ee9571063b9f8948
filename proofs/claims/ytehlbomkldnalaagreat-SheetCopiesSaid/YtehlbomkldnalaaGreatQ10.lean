/- Parts of the proofs of this seat: Owns, BuildN, CallB, BuildC, Call1, AppReg, Call2, CallCX, Store1, AppReg2, CallR, CallT, CallA, CallG, Pairs, CallZ, CallW. Each part says what it proves; no condition beyond those stated there. -/
import Derived.Maps.AppendAt
import Derived.Test.YtehlbomkldnalaaGreatQ5
import Derived.Test.YtehlbomkldnalaaGreatQ8
import Derived.Test.YtehlbomkldnalaaGreatQ9

/- Regions that draw their order and hold operations that make memory of their own, one of which may consume what another has made ('append(append([]T{}, xs...), y)'): reading operations first, then the own ones, then the forced end. -/
namespace Go.Proofs.YtehlbomkldnalaaGreat
open Go Go.RowKit
/-- an own operation at index i: what is known of its value until operation 'til' consumes it (til = i: never) -/
structure Ow where
 i : Nat
 til : Nat
 ok : Value → World → Prop
def Ow.live (x : Ow) (γ : Nat → Option Value) : Prop := x.til = x.i ∨ γ x.til = none
structure Ow.Good (x : Ow) : Prop where
 kept : ∀ (u : Value) (w w' : World) (row : Option Nat), w.grownBy w' row → (∀ b, u.ownBlock = some b → row ≠ some b) → x.ok u w → x.ok u w'
 lt : ∀ u w, x.ok u w → ∀ b, u.ownBlock = some b → b < w.heap.size
structure DO (ls : List Ow) (γ : Nat → Option Value) (w : World) : Prop where
 ok : ∀ x ∈ ls, ∀ u, γ x.i = some u → x.live γ → x.ok u w
 apart : ∀ x ∈ ls, ∀ y ∈ ls, x.i ≠ y.i → ∀ u v, γ x.i = some u → γ y.i = some v → x.live γ → y.live γ → ∀ b, u.ownBlock = some b → v.ownBlock ≠ some b
theorem grown_of_below {w w' : World} (h : Below w.heap.size w w') : w.grownBy w' none := ⟨h.os, h.tape, h.output, h.size, fun k hk _ => h.block k hk⟩
theorem DO.stable {ls : List Ow} (hg : ∀ x ∈ ls, x.Good) (γ : Nat → Option Value) (w w' : World) (hb : Below w.heap.size w w') (h : DO ls γ w) : DO ls γ w' :=
 ⟨fun x hx u hu hl => (hg x hx).kept u w w' none (grown_of_below hb) (fun _ _ h => by cases h) (h.ok x hx u hu hl), h.apart⟩
def preO (ls : List Ow) (j : Nat) : List Nat := (ls.filter fun x => x.til == j && x.i != j).map (·.i)
/-- what running an own operation gives -/
def OwRun (_P : Program) (ls : List Ow) (x : Ow) (W : World) (γ' : Nat → Option Value) (w : World) (r : Result Next) : Prop :=
 ∃ u w' row, r = .ok (.value u) w' ∧ x.ok u w' ∧ w.grownBy w' row ∧ Below W.heap.size W w' ∧ (∀ b, row = some b → ∃ y ∈ ls, y.til = x.i ∧ y.i ≠ x.i ∧ ∃ uy, γ' y.i = some uy ∧ uy.ownBlock = some b) ∧ (∀ b, u.ownBlock = some b → w.heap.size ≤ b ∨ row = some b)
theorem ownWalk_own {P : Program} {ops : Array Oper} {W : World} {ls : List Ow} {fin : Act → (Nat → Option Value) → Prop} {os : List Nat} {i d : Nat} {o : Oper} {a : Act} {γ : Nat → Option Value} (x : Ow)
  (hg : ∀ x ∈ ls, x.Good) (hxi : x.i = i) (ho : ops[i]? = some o) (hd : o.dst = some d) (hw : Region.wanted o (yielded ops a.tmps) = true) (hm : x ∈ ls) (hu : ∀ y ∈ ls, ∀ z ∈ ls, y.i = z.i → y = z)
  (hrun : ∀ w γ', Below W.heap.size W w → DO ls γ' w → γ' i = none → (∀ k ∈ preO ls i, γ' k = γ k) → OwRun P ls x W γ' w ((execOp a.eval o).run P w))
  (hk : ∀ u, ownWalk P ops noS W (DO ls) (fun _ _ => True) (preO ls) fin os { tmps := a.tmps.setIfInBounds d u, defers := a.defers } (gset γ i u)) :
  ownWalk P ops noS W (DO ls) (fun _ _ => True) (preO ls) fin (i :: os) a γ := by
 subst hxi
 refine ⟨o, ho, ⟨hw, fun w γ' hb hD hn hp => ?_⟩, fun u _ => ?_⟩
 ·obtain ⟨u, w', row, hr, hok, hgr, hbw, hrow, hown⟩ := hrun w γ' hb.noS_ hD hn hp
  rw [hr]
  have old : ∀ y ∈ ls, y.i ≠ x.i → y.live (gset γ' x.i u) → y.live γ' ∧ (y.til = x.i → False) := fun y hy hne hl => by
   rcases hl with hl | hl
   ·exact ⟨.inl hl, fun h => hne (by rw [← hl, h])⟩
   ·unfold gset at hl
    split at hl
    ·cases hl
    ·rename_i hne2
     exact ⟨.inr hl, hne2⟩
  have sep : ∀ y ∈ ls, y.i ≠ x.i → y.live (gset γ' x.i u) → ∀ uy, γ' y.i = some uy → ∀ b, row = some b → uy.ownBlock ≠ some b := fun y hy hne hl uy huy b hb => by
   obtain ⟨z, hz, z1, z2, uz, z3, z4⟩ := hrow b hb
   obtain ⟨l1, l2⟩ := old y hy hne hl
   have hzy : z.i ≠ y.i := fun h => l2 (by rw [← hu z hz y hy h]; exact z1)
   exact hD.apart z hz y hy hzy uz uy z3 huy (.inr (by rw [z1]; exact hn)) l1 b z4
  refine ⟨trivial, .of_below hbw, fun y hy v hv hl => ?_, fun y hy z hz hyz v v' hv hv' hl hl' b hb' => ?_⟩
  ·by_cases e : y.i = x.i
   ·have hyx := hu y hy x hm e
    subst hyx
    unfold gset at hv
    rw [if_pos rfl] at hv
    injection hv with hv
    subst hv; exact hok
   ·have hv0 : γ' y.i = some v := by unfold gset at hv; rw [if_neg e] at hv; exact hv
    exact (hg y hy).kept v w w' row hgr (fun b hb h => sep y hy e hl v hv0 b h hb) (hD.ok y hy v hv0 (old y hy e hl).1)
  ·by_cases e : y.i = x.i
   ·have e2 : z.i ≠ x.i := fun h => hyz (e.trans h.symm)
    have hv0 : γ' z.i = some v' := by unfold gset at hv'; rw [if_neg e2] at hv'; exact hv'
    have hvu : u = v := by unfold gset at hv; rw [if_pos e] at hv; injection hv
    subst hvu
    intro hz'
    rcases hown b hb' with h1 | h1
    ·have := (hg z hz).lt v' w (hD.ok z hz v' hv0 (old z hz e2 hl').1) b hz'
     omega
    ·exact sep z hz e2 hl' v' hv0 b h1 hz'
   ·have hv0 : γ' y.i = some v := by unfold gset at hv; rw [if_neg e] at hv; exact hv
    by_cases e2 : z.i = x.i
    ·have hvu : u = v' := by unfold gset at hv'; rw [if_pos e2] at hv'; injection hv'
     subst hvu
     intro hz'
     rcases hown b hz' with h1 | h1
     ·have := (hg y hy).lt v w (hD.ok y hy v hv0 (old y hy e hl).1) b hb'
      omega
     ·exact sep y hy e hl v hv0 b h1 hb'
    ·have hv1 : γ' z.i = some v' := by unfold gset at hv'; rw [if_neg e2] at hv'; exact hv'
     exact hD.apart y hy z hz hyz v v' hv0 hv1 (old y hy e hl).1 (old z hz e2 hl').1 b hb'
 ·rw [hd]
  exact hk u
theorem wp_region_owns {P : Program} {id : Nat} {Q : Exit → Act → World → Prop} {a : Act} {w : World} {l : List Oper} (n : Nat) (ks os : List Nat) (ls : List Ow) (hg : ∀ x ∈ ls, x.Good)
  (hm : P.follows .mixedOrders = true) (hB : ownB .any l n ks os = true) (hpB : preB .any l (preO ls) os = true) (hsl : slotsB (pick l ks) a.tmps.size = true) (hst : ls.all (fun x => os.contains x.til) = true)
  (h : ∃ fin, (∀ W1, Below w.heap.size w W1 → wpQuiet P l.toArray (fun w' => ∃ u : Since W1, w' = u.w) (fun a' => a' = fin) (pick l ks) a) ∧
   ownWalk P l.toArray noS w (DO ls) (fun _ _ => True) (preO ls) (fun a' γ' => ∀ w', Below w.heap.size w w' → DO ls γ' w' → wpList P l.toArray Q (l.drop n) a' w') os fin (fun _ => none)) : (Code.region id l.toArray true).wp P Q a w := by
 obtain ⟨fin, h1, h2⟩ := h
 refine wp_region_own noS n ks os (preO ls) (fun _ _ => True) (DO ls) hm hB hpB (fun j hj => ?_) hsl (DO.stable hg) ⟨fun _ _ _ h => (by cases h), fun _ _ _ _ _ _ _ h => (by cases h)⟩ (fun _ _ => ⟨undef, trivial⟩) ⟨fin, fun W1 hc => h1 W1 hc.noS_, ?_⟩
 ·unfold preO
  rw [List.filter_eq_nil_iff.2, List.map_nil]
  intro x hx
  have h1 := List.all_eq_true.1 hst x hx
  simp only [Bool.and_eq_true, beq_iff_eq, bne_iff_ne, not_and]
  rintro rfl
  exact absurd (by simpa using h1) hj
 ·have key : ∀ (os : List Nat) a γ, ownWalk P l.toArray noS w (DO ls) (fun _ _ => True) (preO ls) (fun a' γ' => ∀ w', Below w.heap.size w w' → DO ls γ' w' → wpList P l.toArray Q (l.drop n) a' w') os a γ →
    ownWalk P l.toArray noS w (DO ls) (fun _ _ => True) (preO ls) (fun a' γ' => ∀ w', Chg noS w w' → DO ls γ' w' → wpList P l.toArray Q (l.drop n) a' w') os a γ := by
   intro os
   induction os with
   | nil => intro a γ h w' hc hD; exact h w' hc.noS_ hD
   | cons i os ih =>
    rintro a γ ⟨o, ho, hy, hk⟩
    exact ⟨o, ho, hy, fun u hu => ih _ _ (hk u hu)⟩
  exact key os _ _ h2
/-! the kinds of own operations -/
/-- append of a readable slice behind an owned list -/
theorem run_app_own {α : Type} {P : Program} {w : World} {e : TypeId} {sz : Nat} {f : α → List Value} {xs ys : List α} {t ty : TypeId} (he : ElemT P t e sz) {base : Nat} {v : Value} (hown : Own w base e sz f v xs) {A2 : Option Addr} {m c2 B2 : Nat} (h2 : Slc f sz w B2 A2 ys) (hm : ys.length = m)
  (hf : ∀ x, (f x).length = sz) (h1c : ∀ x, ∀ u ∈ f x, u.oneCell' = true) (hlen : xs.length + m ≤ 1000000000) (hbase : base ≤ w.heap.size) :
  ∃ v' w', (Builtin.append_ #[t, t] ty #[v, .slice A2 m c2]).run P w = .ok v' w' ∧ Own w' base e sz f v' (xs ++ ys) ∧ w.grownBy w' v.ownBlock ∧ (∀ b, v'.ownBlock = some b → w.heap.size ≤ b ∨ v.ownBlock = some b) := by
 obtain ⟨i, z, bytes, ht, hi, hz, hsize, hby, hzs, h0, hb⟩ := he
 cases A2 with
 | none =>
  have hy : ys = [] := by
   cases ys with
   | nil => rfl
   | cons y r => obtain ⟨b, off, h3, _⟩ := h2 0 y rfl; cases h3
  subst hy
  have hm0 : m = 0 := by rw [← hm]; rfl
  subst hm0
  refine ⟨v, w, ?_, by rw [List.append_nil]; exact hown, ⟨rfl, rfl, rfl, Nat.le_refl _, fun _ _ _ => rfl⟩, fun b hb => .inr hb⟩
  rcases hown.2 with ⟨rfl, _⟩ | ⟨g, cap, cur, rfl, _, _, hnc, _⟩
  ·simp [Builtin.append_, run_underlying ht, sizeOf, typeInfo, hi, Builtin.lenOf, Builtin.firstCells]
  ·simp [Builtin.append_, run_underlying ht, sizeOf, typeInfo, hi, Builtin.lenOf, Builtin.firstCells, hnc, storeCells, loadCells]
 | some b2 =>
  have hfl : (ys.flatMap f).length = m * sz := by rw [flat_len hf, hm]
  have hc : ∀ (q : Nat) (u : Value), (ys.flatMap f)[q]? = some u → w.cell? (b2.add q) = some u := fun q u hq => h2.flat hf b2 rfl q u hq
  have h1 : ∀ u ∈ ys.flatMap f, u.oneCell' = true := fun u hu => by obtain ⟨y, _, hyu⟩ := List.mem_flatMap.1 hu; exact h1c y u hyu
  have hbytes : (xs.length + m) * bytes ≤ 140737488355328 := by
   calc (xs.length + m) * bytes ≤ 1000000000 * 4096 := Nat.mul_le_mul hlen hb
    _ ≤ _ := by omega
  obtain ⟨v', w', hrun, r1, r2, _, r5⟩ := run_append_own_at (P := P) w base t ty e i z sz bytes ht hi hz hsize hby hzs h0 v xs.length (xs.flatMap f) hown b2 m c2 (ys.flatMap f) hfl hc h1 (by unfold maxLen; omega) hbytes hbase
  refine ⟨v', w', hrun, ?_, r2, ?_⟩
  ·show w'.ownsRow _ _ _ _ _ _
   rw [List.length_append, hm, List.flatMap_append]
   exact r1
  ·intro b hb
   rcases r5 with r5 | r5
   ·right; rw [← r5]; exact hb
   ·left
    rw [hb] at r5
    injection r5 with r5
    omega
theorem OwRun.alloc {P : Program} {ls : List Ow} {x : Ow} {W w : World} {γ' : Nat → Option Value} {r : Result Next} {v : Nat → Value} {o : Obj} (hb : Below W.heap.size W w) (hr : r = .ok (.value (v w.heap.size)) (w.alloc o)) (hok : x.ok (v w.heap.size) (w.alloc o)) (hv : ∀ g b, (v g).ownBlock = some b → b = g) : OwRun P ls x W γ' w r :=
 ⟨v w.heap.size, w.alloc o, none, hr, hok, grown_of_below ((Below.refl _ w).alloc (Nat.le_refl _) o), hb.alloc hb.size o, fun _ h => (by cases h), fun b hb => .inl (by rw [hv _ b hb]; exact Nat.le_refl _)⟩
theorem exec_app {P : Program} {o : Oper} {a : Act} {s x : Operand} {t : TypeId} {v y v' : Value} {w w' : World} (ho : o.op = .call { callee := .builtin .append, args := #[s, x], argTypes := #[t, t] }) (hs : a.eval s = v) (hx : a.eval x = y) (hr : (Builtin.append_ #[t, t] o.type #[v, y]).run P w = .ok v' w') : (execOp a.eval o).run P w = .ok (.value v') w' := by
 unfold execOp
 simp only [ho, resolve, invoke, builtin, Sem.run_bind, Sem.run_pure, Result.andThen_ok, List.map_toArray, List.map_cons, List.map_nil, hs, hx, hr]
theorem OwRun.app {α : Type} {P : Program} {ls : List Ow} {W w : World} {γ' : Nat → Option Value} {o : Oper} {a : Act} {s xo : Operand} {t e : TypeId} {sz : Nat} {f : α → List Value} {xs ys : List α} {u0 : Value} {A2 : Option Addr} {m c2 B2 : Nat} (x y : Ow)
  (hy : y ∈ ls) (h1 : y.til = x.i) (h2 : y.i ≠ x.i) (hoky : ∀ u w, y.ok u w → Own w W.heap.size e sz f u xs) (hokx : ∀ u w, Own w W.heap.size e sz f u (xs ++ ys) → x.ok u w) (he : ElemT P t e sz) (hf : ∀ x, (f x).length = sz) (h1c : ∀ x, ∀ u ∈ f x, u.oneCell' = true)
  (ho : o.op = .call { callee := .builtin .append, args := #[s, xo], argTypes := #[t, t] }) (hs : a.eval s = u0) (hx : a.eval xo = .slice A2 m c2) (hS : Slc f sz w B2 A2 ys) (hm : ys.length = m) (hlen : xs.length + m ≤ 1000000000)
  (hb : Below W.heap.size W w) (hD : DO ls γ' w) (hγ : γ' y.i = some u0) (hn : γ' x.i = none) : OwRun P ls x W γ' w ((execOp a.eval o).run P w) := by
 have hown := hoky u0 w (hD.ok y hy u0 hγ (.inr (by rw [h1]; exact hn)))
 obtain ⟨v', w', hr, hO, hg, hv⟩ := run_app_own (P := P) (ty := o.type) he hown hS hm (c2 := c2) hf h1c hlen hb.size
 refine ⟨v', w', u0.ownBlock, exec_app ho hs hx hr, hokx v' w' hO, hg, ?_, fun b hb => ⟨y, hy, h1, h2, u0, hγ, hb⟩, hv⟩
 exact hb.trans ⟨hg.os, hg.tape, hg.output, hg.size, fun k hk => hg.block k (Nat.lt_of_lt_of_le hk hb.size) fun he => by have := (World.ownsRow.lt hown k he.symm).1; omega⟩
/-- at the list of a plain region's operations -/
theorem wpList_app_own {α : Type} {P : Program} {ops : Array Oper} {rest : List Oper} {o : Oper} {a : Act} {Q : Exit → Act → World → Prop} {w : World} {base : Nat} {e : TypeId} {sz : Nat} {f : α → List Value} {v : Value} {xs ys : List α} {A2 : Option Addr} {m c2 B2 : Nat} (s x : Operand) {t : TypeId} (hgd : o.guard = none)
  (ho : o.op = .call { callee := .builtin .append, args := #[s, x], argTypes := #[t, t] }) (he : ElemT P t e sz) (hown : Own w base e sz f v xs) (hs : a.eval s = v) (hx : a.eval x = .slice A2 m c2) (h2 : Slc f sz w B2 A2 ys) (hm : ys.length = m)
  (hf : ∀ x, (f x).length = sz) (h1c : ∀ x, ∀ u ∈ f x, u.oneCell' = true) (hlen : xs.length + m ≤ 1000000000) (hbase : base ≤ w.heap.size)
  (h : ∀ v' w', Own w' base e sz f v' (xs ++ ys) → Below base w w' → w.grownBy w' v.ownBlock → wpList P ops Q rest (a.put o.dst v') w') : wpList P ops Q (o :: rest) a w := by
 obtain ⟨v', w', hr, hO, hg, hv⟩ := run_app_own (P := P) (ty := o.type) he hown h2 hm (c2 := c2) hf h1c hlen hbase
 refine wpList_plain hgd fun K hK => ?_
 unfold Oper.wp
 rw [exec_app ho hs hx hr]
 exact hK _ _ (h v' w' hO ⟨hg.os, hg.tape, hg.output, hg.size, fun k hk => hg.block k (Nat.lt_of_lt_of_le hk hbase) fun he => by have := (World.ownsRow.lt hown k he.symm).1; omega⟩ hg)
/-- an empty list that lies in a new block -/
theorem Own.empty_ {α : Type} {w : World} {base g : Nat} {e : TypeId} {sz : Nat} {f : α → List Value} (h : Blk w g e #[]) (hg : base ≤ g) : Own w base e sz f (.slice (some ⟨g, 0, none⟩) 0 0) ([] : List α) :=
 ⟨by simp, .inr ⟨g, 0, #[], rfl, hg, h, Nat.le_refl _, Nat.zero_le _, by simp, by simp⟩⟩
theorem own_ow {α : Type} (i til base : Nat) (e : TypeId) (sz : Nat) (f : α → List Value) (l : List α) : (Ow.mk i til fun u w => Own w base e sz f u l).Good :=
 ⟨fun u _ _ _ hg hne h => World.ownsRow.kept h hg (by
  cases hv : u.ownBlock with
  | none => exact .inl rfl
  | some q => exact .inr fun he => hne q hv he.symm), fun _ _ h b hb => (World.ownsRow.lt h b hb).2⟩
/-- a block of one element -/
def OneOk (base : Nat) (e : TypeId) (cs : Array Value) (u : Value) (w : World) : Prop := ∃ g, u = .slice (some ⟨g, 0, none⟩) 1 1 ∧ Blk w g e cs ∧ base ≤ g
theorem one_ow (i til base : Nat) (e : TypeId) (cs : Array Value) : (Ow.mk i til (OneOk base e cs)).Good :=
 ⟨fun u w w' row hg hne ⟨g, h1, h2, h3⟩ => ⟨g, h1, h2.grown hg (fun he => hne g (by rw [h1]; rfl) he.symm), h3⟩, fun u w ⟨g, h1, h2, _⟩ b hb => by
  rw [h1] at hb
  injection hb with hb
  have hb' : g = b := hb
  subst hb'; exact h2.lt⟩
theorem run_build0 {P : Program} {t e : TypeId} {sz : Nat} (he : ElemT P t e sz) (w : World) : (Instr.buildSlice t 0 #[]).run P w = .ok (.slice (some ⟨w.heap.size, 0, none⟩) 0 0) (w.alloc (.cells #[] e)) := by
 obtain ⟨i, z, bytes, ht, hi, hz, hsize, hby, hzs, h0, hb⟩ := he
 simp [Instr.buildSlice, run_underlying ht, sizeOf, typeInfo, hi, newRow, Instr.fill]
 rw [Array.eq_empty_of_size_eq_zero (xs := Array.map (fun _ => default) (Array.range 0)) (by simp)]
theorem run_build1 {P : Program} {t e : TypeId} {sz : Nat} (he : ElemT P t e sz) (v : Value) (hv : v.cells.size = sz) (hs : sz ≤ 1000) (w : World) : (Instr.buildSlice t 1 #[(0, v)]).run P w = .ok (.slice (some ⟨w.heap.size, 0, none⟩) 1 1) (w.alloc (.cells v.cells e)) := by
 obtain ⟨i, z, bytes, ht, hi, hz, hsize, hby, hzs, h0, hb⟩ := he
 refine run_buildSlice w t e 1 _ v.cells i z ht hi hz (by omega) (by omega) ?_
 have h := Great.fill_whole (s := sz) h0 [v] ((Array.range (1 * sz)).map (z.cells[· % z.cells.size]!)) (fun u hu => by rw [List.mem_singleton] at hu; subst hu; exact hv) (by simp)
 subst hsize
 simpa using h
theorem exec_build {P : Program} {o : Oper} {a : Act} {t : TypeId} {n : Nat} {parts : Array (Nat × Operand)} {ps : Array (Nat × Value)} {v : Value} {w w' : World} (ho : o.op = .buildSlice t n parts) (hp : (parts.map fun (i, x) => (i, a.eval x)) = ps) (hr : (Instr.buildSlice t n ps).run P w = .ok v w') : (execOp a.eval o).run P w = .ok (.value v) w' := by
 subst hp
 unfold execOp
 simp only [ho, Sem.run_bind, hr, Result.andThen_ok]
 rfl
end Go.Proofs.YtehlbomkldnalaaGreat

/- A region that draws: a slice of n elements is built and assigned; calls and reads before it. -/
namespace Go.Proofs.YtehlbomkldnalaaGreat
open Go Go.RowKit
theorem gset_at (γ : Nat → Option Value) (i : Nat) (u : Value) : gset γ i u i = some u := by unfold gset; rw [if_pos rfl]
theorem gset_ne (γ : Nat → Option Value) (i k : Nat) (u : Value) (h : k ≠ i) : gset γ i u k = γ k := by unfold gset; rw [if_neg h]
end Go.Proofs.YtehlbomkldnalaaGreat

/- A region that draws: one call whose value is known by a relation, and one free operation on it; the rest reads. -/
namespace Go.Proofs.YtehlbomkldnalaaGreat
open Go Go.RowKit
theorem wp_region_callb {P : Program} {id : Nat} {Q : Exit → Act → World → Prop} {a : Act} {W : World} {l : List Oper} (n i j : Nat) (ks : List Nat) (R : Value → World → Prop) (V : Value → Prop) (g : Value → Value) {oi oj : Oper} {di dj : Nat} {f : FuncId} {xs : Array Operand} {ts : Array TypeId} {args : Array Value}
  (hm : P.follows .mixedOrders = true) (hB : ownB .any l n ks [i, j] = true) (hpB : preB .any l (fun k => if k == j then [i] else []) [i, j] = true) (hsl : slotsB (pick l ks) a.tmps.size = true) (hij : i ≠ j)
  (hst : ∀ u w w', Below w.heap.size w w' → R u w → R u w') (hV : ∀ u w, R u w → V u) (hV0 : ∃ u, V u)
  (hoi : l[i]? = some oi) (hoj : l[j]? = some oj) (edi : oi.dst = some di) (edj : oj.dst = some dj)
  (pi : oi.op = .call { callee := .value (.func f), args := xs, argTypes := ts }) (hf : ∀ args w, (callFunc f args).run P w = .ok (.enter f args) w)
  (h : ∃ fin : Act, (∀ W1, Below W.heap.size W W1 → wpQuiet P l.toArray (fun w' => ∃ u : Since W1, w' = u.w) (fun a' => a' = fin) (pick l ks) a) ∧
   xs.map fin.eval = args ∧ Region.wanted oi (yielded l.toArray fin.tmps) = true ∧ (∀ w, Below W.heap.size W w → Calls P f args w fun e w'' => ∃ u, e = .returned u ∧ R u w'' ∧ Below w.heap.size w w'') ∧
   (∀ u0, V u0 → Region.wanted oj (yielded l.toArray (fin.put (some di) u0).tmps) = true ∧ ∀ w1, (execOp (fin.put (some di) u0).eval oj).run P w1 = .ok (.value (g u0)) w1) ∧
   ∀ u w', Below W.heap.size W w' → R u w' → wpList P l.toArray Q (l.drop n) ((fin.put (some di) u).put (some dj) (g u)) w') :
  (Code.region id l.toArray true).wp P Q a W := by
 obtain ⟨fin, hq, hargs, hwi, hri, hj, hk⟩ := h
 refine wp_region_own noS n ks [i, j] (fun k => if k == j then [i] else []) (fun k u => k = i → V u)
  (fun γ w => (∀ u, γ i = some u → R u w) ∧ (∀ u0 u1, γ i = some u0 → γ j = some u1 → u1 = g u0) ∧ (γ i = none → γ j = none))
  hm hB hpB (fun k hk => ?_) hsl (fun γ w w' hb hD => ⟨fun u hu => hst u w w' hb (hD.1 u hu), hD.2.1, hD.2.2⟩) ⟨fun _ h => (by cases h), fun _ _ h => (by cases h), fun _ => rfl⟩ (fun k _ => by obtain ⟨u, hu⟩ := hV0; exact ⟨u, fun _ => hu⟩) ⟨fin, fun W1 hc => hq W1 hc.noS_, ?_⟩
 ·have : k ≠ j := fun e => hk (by simp [e])
  simp [this]
 ·refine ⟨oi, by simpa using hoi, ⟨hwi, fun w γ hc hD hn _ => ?_⟩, fun u0 hu0 => ?_⟩
  ·rw [run_call_fn pi hf w, hargs]
   refine ⟨rfl, (hri w hc.noS_).mono ?_⟩
   rintro e w'' ⟨u, he, hR, hb⟩
   refine ⟨_, he, fun _ => hV _ _ hR, hc.trans (.of_below hb), fun v hv => ?_, fun v v1 _ hv => ?_, fun hv => ?_⟩
   ·rw [gset_at] at hv
    injection hv with hv
    rw [← hv]; exact hR
   ·rw [gset_ne _ _ _ _ (Ne.symm hij), hD.2.2 hn] at hv; cases hv
   ·rw [gset_at] at hv; cases hv
  ·rw [edi]
   obtain ⟨hwj, hrj⟩ := hj u0 (hu0 rfl)
   refine ⟨oj, by simpa using hoj, ⟨hwj, fun w γ hc hD hn hp => ?_⟩, fun u1 _ => ?_⟩
   ·have hp0 := hp i (by simp)
    rw [gset_at] at hp0
    rw [hrj w]
    refine ⟨fun h => absurd h.symm hij, hc, fun u hu => ?_, fun v v1 hv hv1 => ?_, fun hv => ?_⟩
    ·rw [gset_ne _ _ _ _ hij] at hu; exact hD.1 u hu
    ·rw [gset_ne _ _ _ _ hij, hp0] at hv
     rw [gset_at] at hv1
     injection hv with hv; injection hv1 with hv1; rw [← hv, ← hv1]
    ·rw [gset_ne _ _ _ _ hij, hp0] at hv; cases hv
   ·rw [edj]
    intro w' hc hD
    have g0 : gset (gset (fun _ => none) i u0) j u1 i = some u0 := by rw [gset_ne _ _ _ _ hij, gset_at]
    have g1 : gset (gset (fun _ => none) i u0) j u1 j = some u1 := gset_at _ _ _
    obtain rfl := hD.2.1 _ _ g0 g1
    exact hk u0 w' hc.noS_ (hD.1 _ g0)
end Go.Proofs.YtehlbomkldnalaaGreat

/- A region that draws: a slice literal is built and handed to one call that reads it; the rest reads. -/
namespace Go.Proofs.YtehlbomkldnalaaGreat
open Go Go.RowKit
theorem wp_region_buildc {P : Program} {id : Nat} {Q : Exit → Act → World → Prop} {a : Act} {W : World} {l : List Oper} {e : TypeId} {cs : Array Value} {m : Nat} (n i j : Nat) (ks : List Nat) {oi oj : Oper} {di dj : Nat} {f : FuncId} {xs : Array Operand} {ts : Array TypeId} (r : Value)
  (hm : P.follows .mixedOrders = true) (hB : ownB .any l n ks [i, j] = true) (hpB : preB .any l (fun k => if k == j then [i] else []) [i, j] = true) (hsl : slotsB (pick l ks) a.tmps.size = true) (hij : i ≠ j)
  (hoi : l[i]? = some oi) (hoj : l[j]? = some oj) (edi : oi.dst = some di) (edj : oj.dst = some dj)
  (pj : oj.op = .call { callee := .value (.func f), args := xs, argTypes := ts }) (hf : ∀ args w, (callFunc f args).run P w = .ok (.enter f args) w)
  (h : ∃ fin : Act, (∀ W1, Below W.heap.size W W1 → wpQuiet P l.toArray (fun w' => ∃ u : Since W1, w' = u.w) (fun a' => a' = fin) (pick l ks) a) ∧
   Region.wanted oi (yielded l.toArray fin.tmps) = true ∧ (∀ w1, (execOp fin.eval oi).run P w1 = .ok (.value (.slice (some ⟨w1.heap.size, 0, none⟩) m m)) (w1.alloc (.cells cs e))) ∧
   (∀ u0, Region.wanted oj (yielded l.toArray (fin.put (some di) u0).tmps) = true ∧ xs.map (fin.put (some di) u0).eval = #[u0]) ∧
   (∀ g w, Blk w g e cs → Calls P f #[.slice (some ⟨g, 0, none⟩) m m] w fun e w'' => e = .returned r ∧ Below w.heap.size w w'') ∧
   ∀ g w', Below W.heap.size W w' → wpList P l.toArray Q (l.drop n) ((fin.put (some di) (.slice (some ⟨g, 0, none⟩) m m)).put (some dj) r) w') :
  (Code.region id l.toArray true).wp P Q a W := by
 obtain ⟨fin, hq, hwi, hri, hj, hcl, hk⟩ := h
 refine wp_region_own noS n ks [i, j] (fun k => if k == j then [i] else []) (fun k u => if k = i then ∃ g, u = .slice (some ⟨g, 0, none⟩) m m else u = r)
  (fun γ w => (∀ u, γ i = some u → ∃ g, u = .slice (some ⟨g, 0, none⟩) m m ∧ Blk w g e cs) ∧ (∀ u1, γ j = some u1 → u1 = r))
  hm hB hpB (fun k hk => ?_) hsl (fun γ w w' hb hD => ⟨fun u hu => ?_, hD.2⟩) ⟨fun _ h => (by cases h), fun _ h => (by cases h)⟩ (fun k _ => by
   by_cases h : k = i
   ·exact ⟨.slice (some ⟨0, 0, none⟩) m m, by simp [h]⟩
   ·exact ⟨r, by simp [h]⟩) ⟨fin, fun W1 hc => hq W1 hc.noS_, ?_⟩
 ·have : k ≠ j := fun e => hk (by simp [e])
  simp [this]
 ·obtain ⟨g, h1, h2⟩ := hD.1 u hu
  exact ⟨g, h1, h2.below hb h2.lt⟩
 ·refine ⟨oi, by simpa using hoi, ⟨hwi, fun w γ hc hD hn _ => ?_⟩, fun u0 hu0 => ?_⟩
  ·rw [hri w]
   refine ⟨by simp, hc.alloc _, fun u hu => ?_, fun u1 hu => ?_⟩
   ·rw [gset_at] at hu
    injection hu with hu
    exact ⟨_, hu.symm, Blk.new w e cs⟩
   ·rw [gset_ne _ _ _ _ (Ne.symm hij)] at hu
    exact hD.2 _ hu
  ·rw [edi]
   obtain ⟨hwj, hxs⟩ := hj u0
   refine ⟨oj, by simpa using hoj, ⟨hwj, fun w γ hc hD hn hp => ?_⟩, fun u1 hu1 => ?_⟩
   ·have hp0 := hp i (by simp)
    rw [gset_at] at hp0
    obtain ⟨g, rfl, hb⟩ := hD.1 _ hp0
    rw [run_call_fn pj hf w, hxs]
    refine ⟨rfl, (hcl g w hb).mono ?_⟩
    rintro e' w'' ⟨rfl, hb2⟩
    refine ⟨_, rfl, by simp [Ne.symm hij], hc.trans (.of_below hb2), fun u hu => ?_, fun v hv => ?_⟩
    ·rw [gset_ne _ _ _ _ hij] at hu
     obtain ⟨g', h1, h2⟩ := hD.1 u hu
     exact ⟨g', h1, h2.below hb2 h2.lt⟩
    ·rw [gset_at] at hv; injection hv with hv; exact hv.symm
   ·rw [edj]
    intro w' hc hD
    have g0 : gset (gset (fun _ => none) i u0) j u1 i = some u0 := by rw [gset_ne _ _ _ _ hij, gset_at]
    have g1 : gset (gset (fun _ => none) i u0) j u1 j = some u1 := gset_at _ _ _
    obtain ⟨g, rfl, _⟩ := hD.1 _ g0
    obtain rfl := hD.2 _ g1
    exact hk g w' hc.noS_
end Go.Proofs.YtehlbomkldnalaaGreat

/- A region that draws: one call whose value is known by a relation; the rest reads. -/
namespace Go.Proofs.YtehlbomkldnalaaGreat
open Go Go.RowKit
theorem wp_region_call1 {P : Program} {id : Nat} {Q : Exit → Act → World → Prop} {a : Act} {W : World} {l : List Oper} (n i : Nat) (ks : List Nat) (R : Value → World → Prop) {oi : Oper} {di : Nat} {f : FuncId} {xs : Array Operand} {ts : Array TypeId} {args : Array Value}
  (hm : P.follows .mixedOrders = true) (hB : ownB .any l n ks [i] = true) (hpB : preB .any l (fun _ => []) [i] = true) (hsl : slotsB (pick l ks) a.tmps.size = true)
  (hst : ∀ u w w', Below w.heap.size w w' → R u w → R u w')
  (hoi : l[i]? = some oi) (edi : oi.dst = some di)
  (pi : oi.op = .call { callee := .value (.func f), args := xs, argTypes := ts }) (hf : ∀ args w, (callFunc f args).run P w = .ok (.enter f args) w)
  (h : ∃ fin : Act, (∀ W1, Below W.heap.size W W1 → wpQuiet P l.toArray (fun w' => ∃ u : Since W1, w' = u.w) (fun a' => a' = fin) (pick l ks) a) ∧
   xs.map fin.eval = args ∧ Region.wanted oi (yielded l.toArray fin.tmps) = true ∧ (∀ w, Below W.heap.size W w → Calls P f args w fun e w'' => ∃ u, e = .returned u ∧ R u w'' ∧ Below w.heap.size w w'') ∧
   ∀ u w', Below W.heap.size W w' → R u w' → wpList P l.toArray Q (l.drop n) (fin.put (some di) u) w') :
  (Code.region id l.toArray true).wp P Q a W := by
 obtain ⟨fin, hq, hargs, hwi, hri, hk⟩ := h
 refine wp_region_own noS n ks [i] (fun _ => []) (fun _ _ => True)
  (fun γ w => ∀ u, γ i = some u → R u w)
  hm hB hpB (fun _ _ => rfl) hsl (fun γ w w' hb hD u hu => hst u w w' hb (hD u hu)) (fun _ h => (by cases h)) (fun _ _ => ⟨undef, trivial⟩) ⟨fin, fun W1 hc => hq W1 hc.noS_, ?_⟩
 refine ⟨oi, by simpa using hoi, ⟨hwi, fun w γ hc hD hn _ => ?_⟩, fun u0 _ => ?_⟩
 ·rw [run_call_fn pi hf w, hargs]
  refine ⟨rfl, (hri w hc.noS_).mono ?_⟩
  rintro e w'' ⟨u, he, hR, hb⟩
  refine ⟨_, he, trivial, hc.trans (.of_below hb), fun v hv => ?_⟩
  rw [gset_at] at hv
  injection hv with hv
  rw [← hv]; exact hR
 ·rw [edi]
  intro w' hc hD
  exact hk u0 w' hc.noS_ (hD _ (gset_at _ _ _))
end Go.Proofs.YtehlbomkldnalaaGreat

/- A region that draws: an element laid into a new block is appended to a list that was there; other operations stand free behind the append. -/
namespace Go.Proofs.YtehlbomkldnalaaGreat
open Go Go.RowKit
theorem wp_region_app {α : Type} {P : Program} {id : Nat} {Q : Exit → Act → World → Prop} {a : Act} {W : World} {l : List Oper} {base : Nat} {e t : TypeId} {sz : Nat} {f : α → List Value} {v : Value} {xs : List α} {y : α} {cs : Array Value} (n i j : Nat) (ks : List Nat) {oi oj : Oper} (s x : Operand)
  (hm : P.follows .mixedOrders = true) (hB : ownB .any l n ks [i, j] = true) (hpB : preB .any l (fun k => if k == j then [i] else []) [i, j] = true) (hsl : slotsB (pick l ks) a.tmps.size = true)
  (he : ElemT P t e sz) (hO : Own W base e sz f v xs) (hf : ∀ x, (f x).length = sz) (h1c : ∀ x, ∀ u ∈ f x, u.oneCell' = true) (hlen : xs.length + 1 ≤ 1000000000) (hbase : base ≤ W.heap.size) (hcs : cs.toList = f y) (hij : i ≠ j)
  (hoi : l[i]? = some oi) (hoj : l[j]? = some oj)
  (ho : oj.op = .call { callee := .builtin .append, args := #[s, x], argTypes := #[t, t] })
  (h : ∃ fin : Act, (∀ W1, Chg (fun k => v.ownBlock = some k) W W1 → wpQuiet P l.toArray (fun w' => ∃ u : Since W1, w' = u.w) (fun a' => a' = fin) (pick l ks) a) ∧
   Region.wanted oi (yielded l.toArray fin.tmps) = true ∧ (∀ w1, (execOp fin.eval oi).run P w1 = .ok (.value (.slice (some ⟨w1.heap.size, 0, none⟩) 1 1)) (w1.alloc (.cells cs e))) ∧
   ∀ g : Nat, Region.wanted oj (yielded l.toArray (fin.put oi.dst (.slice (some ⟨g, 0, none⟩) 1 1)).tmps) = true ∧ (fin.put oi.dst (.slice (some ⟨g, 0, none⟩) 1 1)).eval s = v ∧ (fin.put oi.dst (.slice (some ⟨g, 0, none⟩) 1 1)).eval x = .slice (some ⟨g, 0, none⟩) 1 1 ∧
    ∀ gj c w', Chg (fun k => v.ownBlock = some k) W w' → Own w' base e sz f (.slice (some ⟨gj, 0, none⟩) (xs.length + 1) c) (xs ++ [y]) → wpList P l.toArray Q (l.drop n) ((fin.put oi.dst (.slice (some ⟨g, 0, none⟩) 1 1)).put oj.dst (.slice (some ⟨gj, 0, none⟩) (xs.length + 1) c)) w') :
  (Code.region id l.toArray true).wp P Q a W := by
 obtain ⟨fin, hq, hwi, hri, hk⟩ := h
 have hgi : ∀ γ : Nat → Option Value, ∀ u, gset γ i u i = some u := fun γ u => by unfold gset; rw [if_pos rfl]
 have hgj : ∀ γ : Nat → Option Value, ∀ u, gset γ j u j = some u := fun γ u => by unfold gset; rw [if_pos rfl]
 have hgij : ∀ γ : Nat → Option Value, ∀ u, gset γ i u j = γ j := fun γ u => by unfold gset; rw [if_neg (Ne.symm hij)]
 have hgji : ∀ γ : Nat → Option Value, ∀ u, gset γ j u i = γ i := fun γ u => by unfold gset; rw [if_neg hij]
 refine wp_region_own (fun k => v.ownBlock = some k) n ks [i, j] (fun k => if k == j then [i] else [])
  (fun k u => if k = i then ∃ g : Nat, u = .slice (some ⟨g, 0, none⟩) 1 1 else ∃ g c : Nat, u = .slice (some ⟨g, 0, none⟩) (xs.length + 1) c)
  (fun γ w => (∀ u, γ i = some u → ∃ g, u = .slice (some ⟨g, 0, none⟩) 1 1 ∧ v.ownBlock ≠ some g ∧ Blk w g e cs) ∧ (γ j = none → Own w base e sz f v xs) ∧ (∀ u, γ j = some u → Own w base e sz f u (xs ++ [y])))
  hm hB hpB (fun k hk => ?_) hsl (fun γ w w' hb hD => ?_) ⟨fun u hu => (by cases hu), fun _ => hO.drew, fun u hu => (by cases hu)⟩ (fun k hk => ?_) ⟨fin, hq, ?_⟩
 ·have : k ≠ j := fun e => hk (by simp [e])
  simp [this]
 ·refine ⟨fun u hu => ?_, fun h => (hD.2.1 h).below hb, fun u hu => (hD.2.2 u hu).below hb⟩
  obtain ⟨g, h1, h2, h3⟩ := hD.1 u hu
  exact ⟨g, h1, h2, h3.below hb h3.lt⟩
 ·by_cases hki : k = i
  ·exact ⟨.slice (some ⟨0, 0, none⟩) 1 1, by (try dsimp only); rw [if_pos hki]; exact ⟨0, rfl⟩⟩
  ·exact ⟨.slice (some ⟨0, 0, none⟩) (xs.length + 1) 0, by (try dsimp only); rw [if_neg hki]; exact ⟨0, 0, rfl⟩⟩
 ·refine ⟨oi, by simpa using hoi, ⟨hwi, fun w γ hc hD hn _ => ?_⟩, fun u hu => ?_⟩
  ·rw [hri w]
   refine ⟨?_, hc.alloc _, ?_⟩
   ·(try dsimp only); rw [if_pos rfl]; exact ⟨_, rfl⟩
   ·refine ⟨fun u hu => ?_, fun h => (hD.2.1 (by rwa [hgij] at h)).alloc _, fun u hu => (hD.2.2 u (by rwa [hgij] at hu)).alloc _⟩
    rw [hgi] at hu
    injection hu with hu
    refine ⟨w.heap.size, hu.symm, fun he => ?_, Blk.new w e cs⟩
    have h1 := (World.ownsRow.lt hO _ he).2
    have h2 := hc.size
    omega
  ·try dsimp only at hu
   rw [if_pos rfl] at hu
   obtain ⟨g, rfl⟩ := hu
   obtain ⟨hwj, hs, hx, hk⟩ := hk g
   refine ⟨oj, by simpa using hoj, ⟨hwj, fun w γ hc hD hn hp => ?_⟩, fun u hu => ?_⟩
   ·have hp2 := hp i (by simp)
    rw [hgi] at hp2
    obtain ⟨g', h1, h2, h3⟩ := hD.1 _ hp2
    injection h1 with h1
    injection h1 with h1
    injection h1 with h1
    subst h1
    have hown := hD.2.1 hn
    obtain ⟨v', w', hr, hO', hg, hv⟩ := run_app_own (P := P) (ty := oj.type) he hown (h3.slc1 hcs) rfl hf h1c hlen (Nat.le_trans hbase hc.size) (c2 := 1)
    rw [exec_app ho hs hx hr]
    obtain ⟨g2, c2, hv2, _, _⟩ := hO'.at_ (by simp)
    rw [List.length_append] at hv2
    refine ⟨?_, ?_, ?_⟩
    ·(try dsimp only); rw [if_neg (Ne.symm hij)]; exact ⟨g2, c2, hv2⟩
    ·exact hc.trans ⟨hg.os, hg.tape, hg.output, hg.size, fun k hk hn => hg.block k hk fun he => hn he.symm⟩
    ·refine ⟨fun u hu => ?_, fun h => (by rw [hgj] at h; cases h), fun u hu => ?_⟩
     ·rw [hgji, hp2] at hu
      injection hu with hu
      exact ⟨g, hu.symm, h2, h3.grownv hg fun k hk he => h2 (by rw [he]; exact hk)⟩
     ·rw [hgj] at hu
      injection hu with hu
      subst hu
      exact hO'
   ·try dsimp only at hu
    rw [if_neg (Ne.symm hij)] at hu
    obtain ⟨gj, c, rfl⟩ := hu
    intro w' hc hD
    exact hk gj c w' hc (hD.2.2 _ (hgj _ _))
end Go.Proofs.YtehlbomkldnalaaGreat

/- A region that draws: a call whose value goes to a second call; the rest reads, the end is walked after. -/
namespace Go.Proofs.YtehlbomkldnalaaGreat
open Go Go.RowKit
theorem wp_region_call2 {P : Program} {id : Nat} {Q : Exit → Act → World → Prop} {a : Act} {W : World} {l : List Oper} (i j n : Nat) (ks : List Nat) (R0 : Value → World → Prop) (args2 : Value → Array Value) (R : Value → World → Prop) {oi oj : Oper} {di dj : Nat} {fi f : FuncId} {xsi xs : Array Operand} {tsi ts : Array TypeId} {argsi : Array Value}
  (hm : P.follows .mixedOrders = true) (hB : ownB .any l n ks [i, j] = true) (hpB : preB .any l (fun k => if k == j then [i] else []) [i, j] = true) (hsl : slotsB (pick l ks) a.tmps.size = true)
  (hij : i ≠ j) (hst : ∀ u w w', Below w.heap.size w w' → R u w → R u w') (hst0 : ∀ u w w', Below w.heap.size w w' → R0 u w → R0 u w')
  (hi : l[i]? = some oi) (hj : l[j]? = some oj) (ei : oi.dst = some di) (ej : oj.dst = some dj)
  (pi : oi.op = .call { callee := .value (.func fi), args := xsi, argTypes := tsi }) (pj : oj.op = .call { callee := .value (.func f), args := xs, argTypes := ts }) (hfi : ∀ args w, (callFunc fi args).run P w = .ok (.enter fi args) w) (hf : ∀ args w, (callFunc f args).run P w = .ok (.enter f args) w)
  (h : ∃ fin : Act, (∀ W1, Below W.heap.size W W1 → wpQuiet P l.toArray (fun w' => ∃ u : Since W1, w' = u.w) (fun a' => a' = fin) (pick l ks) a) ∧
   xsi.map fin.eval = argsi ∧ Region.wanted oi (yielded l.toArray fin.tmps) = true ∧
   (∀ w, Below W.heap.size W w → Calls P fi argsi w fun e w'' => ∃ u, e = .returned u ∧ R0 u w'' ∧ Below w.heap.size w w'') ∧
   ∀ ui, xs.map (fin.put (some di) ui).eval = args2 ui ∧ Region.wanted oj (yielded l.toArray (fin.put (some di) ui).tmps) = true ∧
   (∀ w, Below W.heap.size W w → R0 ui w → Calls P f (args2 ui) w fun e w'' => ∃ u, e = .returned u ∧ R u w'' ∧ Below w.heap.size w w'') ∧
   ∀ u w', Below W.heap.size W w' → R u w' → wpList P l.toArray Q (l.drop n) ((fin.put (some di) ui).put (some dj) u) w') :
  (Code.region id l.toArray true).wp P Q a W := by
 obtain ⟨fin, hq, hargsi, hwi, hcalli, hrest⟩ := h
 refine wp_region_own noS n ks [i, j] (fun k => if k == j then [i] else [])
  (fun _ _ => True) (fun γ w => (∀ u, γ i = some u → γ j = none → R0 u w) ∧ (γ i = none → γ j = none) ∧ ∀ u, γ j = some u → R u w) hm hB hpB (fun k hk => ?_) hsl (fun γ w w' hb hD => ?_) ?_ (fun k hk => ⟨undef, trivial⟩) ⟨fin, fun W1 hc => hq W1 hc.noS_, ?_⟩
 ·simp only [List.mem_cons, List.not_mem_nil, or_false, not_or] at hk
  simp [hk.2]
 ·exact ⟨fun u hu hv => hst0 u w w' hb (hD.1 u hu hv), hD.2.1, fun u hu => hst u w w' hb (hD.2.2 u hu)⟩
 ·exact ⟨fun _ h => (by cases h), fun _ => rfl, fun _ h => (by cases h)⟩
 refine ⟨oi, by simpa using hi, ⟨hwi, fun w γ hc hD hn _ => ?_⟩, fun ui hui => ?_⟩
 ·rw [run_call_fn pi hfi w, hargsi]
  refine ⟨rfl, (hcalli w hc.noS_).mono ?_⟩
  rintro e w'' ⟨u, he, hR, hb⟩
  have gj := hD.2.1 hn
  refine ⟨_, he, trivial, hc.trans (.of_below hb), fun v hv _ => ?_, fun hv => ?_, fun v hv => ?_⟩
  ·rw [gset_at] at hv
   injection hv with hv
   rw [← hv]; exact hR
  ·rw [gset_at] at hv; cases hv
  ·rw [gset_ne _ _ _ _ (Ne.symm hij), gj] at hv; cases hv
 rw [ei]
 obtain ⟨hargs, hw0, hcall, hk⟩ := hrest ui
 refine ⟨oj, by simpa using hj, ⟨hw0, fun w γ hc hD hn hp => ?_⟩, fun u0 _ => ?_⟩
 ·have hpi := hp i (by simp)
  rw [gset_at] at hpi
  rw [run_call_fn pj hf w, hargs]
  refine ⟨rfl, (hcall w hc.noS_ (hD.1 ui hpi hn)).mono ?_⟩
  rintro e w'' ⟨u, he, hR, hb⟩
  refine ⟨_, he, trivial, hc.trans (.of_below hb), fun v _ hv => ?_, fun hv => ?_, fun v hv => ?_⟩
  ·rw [gset_at] at hv; cases hv
  ·rw [gset_ne _ _ _ _ hij, hpi] at hv; cases hv
  ·rw [gset_at] at hv
   injection hv with hv
   rw [← hv]; exact hR
 ·rw [ej]
  intro w' hc hD
  exact hk u0 w' hc.noS_ (hD.2.2 _ (gset_at _ _ _))
end Go.Proofs.YtehlbomkldnalaaGreat

/- A region that draws: a call whose value goes to a call of two results, whose tuple is taken apart; the rest reads. -/
namespace Go.Proofs.YtehlbomkldnalaaGreat
open Go Go.RowKit
structure DX (i : Nat) (R : Value → Value → World → Prop) (γ : Nat → Option Value) (w : World) : Prop where
 c : ∀ u0, γ i = some u0 → ∃ u z, u0 = .tuple #[u, z] ∧ R u z w
 m : ∀ u0 u1, γ i = some u0 → γ (i + 1) = some u1 → u1 = u0
 x : ∀ u1 u2, γ (i + 1) = some u1 → γ (i + 2) = some u2 → ∃ z, u1 = .tuple #[u2, z]
 y : ∀ u1 u3, γ (i + 1) = some u1 → γ (i + 3) = some u3 → ∃ u, u1 = .tuple #[u, u3]
 q : ∀ u2 u4, γ (i + 2) = some u2 → γ (i + 4) = some u4 → u4 = u2
 n0 : γ i = none → γ (i + 1) = none
 n1 : γ (i + 1) = none → γ (i + 2) = none ∧ γ (i + 3) = none
 n2 : γ (i + 2) = none → γ (i + 4) = none
theorem wp_region_callcx {P : Program} {id : Nat} {Q : Exit → Act → World → Prop} {a : Act} {W : World} {l : List Oper} (i j : Nat) (ks : List Nat) (R0 : Value → World → Prop) (V : Value → Prop) (args2 : Value → Array Value) (R : Value → Value → World → Prop) {oi o0 o1 o2 o3 o4 : Oper} {di d0 d1 d2 d3 d4 : Nat} {fi f : FuncId} {xsi xs : Array Operand} {tsi ts : Array TypeId} {argsi : Array Value} (x1 x2 x3 x4 : Operand)
  (hm : P.follows .mixedOrders = true) (hB : ownB .any l (j + 5) ks [i, j, j + 1, j + 2, j + 3, j + 4] = true) (hpB : preB .any l (fun k => if k == j then [i] else if k == j + 1 then [j] else if k == j + 2 then [j + 1] else if k == j + 3 then [j + 1] else if k == j + 4 then [j + 2] else []) [i, j, j + 1, j + 2, j + 3, j + 4] = true) (hsl : slotsB (pick l ks) a.tmps.size = true)
  (hij : i < j) (hst : ∀ u z w w', Below w.heap.size w w' → R u z w → R u z w') (hst0 : ∀ u w w', Below w.heap.size w w' → R0 u w → R0 u w') (hV : ∀ u w, R0 u w → V u) (hV0 : ∃ u, V u)
  (hi : l[i]? = some oi) (h0 : l[j]? = some o0) (h1 : l[j + 1]? = some o1) (h2 : l[j + 2]? = some o2) (h3 : l[j + 3]? = some o3) (h4 : l[j + 4]? = some o4)
  (ei : oi.dst = some di) (e0 : o0.dst = some d0) (e1 : o1.dst = some d1) (e2 : o2.dst = some d2) (e3 : o3.dst = some d3) (e4 : o4.dst = some d4)
  (pi : oi.op = .call { callee := .value (.func fi), args := xsi, argTypes := tsi }) (p0 : o0.op = .call { callee := .value (.func f), args := xs, argTypes := ts }) (p1 : o1.op = .move x1) (p2 : o2.op = .extract x2 0) (p3 : o3.op = .extract x3 1) (p4 : o4.op = .assign x4) (hfi : ∀ args w, (callFunc fi args).run P w = .ok (.enter fi args) w) (hf : ∀ args w, (callFunc f args).run P w = .ok (.enter f args) w)
  (h : ∃ fin : Act, (∀ W1, Below W.heap.size W W1 → wpQuiet P l.toArray (fun w' => ∃ u : Since W1, w' = u.w) (fun a' => a' = fin) (pick l ks) a) ∧
   xsi.map fin.eval = argsi ∧ Region.wanted oi (yielded l.toArray fin.tmps) = true ∧
   (∀ w, Below W.heap.size W w → Calls P fi argsi w fun e w'' => ∃ u, e = .returned u ∧ R0 u w'' ∧ Below w.heap.size w w'') ∧
   ∀ ui, V ui → xs.map (fin.put (some di) ui).eval = args2 ui ∧ Region.wanted o0 (yielded l.toArray (fin.put (some di) ui).tmps) = true ∧
   (∀ w, Below W.heap.size W w → R0 ui w → Calls P f (args2 ui) w fun e w'' => ∃ u z, e = .returned (.tuple #[u, z]) ∧ R u z w'' ∧ Below W.heap.size W w'') ∧
   (∀ u0, ((fin.put (some di) ui).put (some d0) u0).eval x1 = u0 ∧ Region.wanted o1 (yielded l.toArray ((fin.put (some di) ui).put (some d0) u0).tmps) = true ∧ ∀ u1, (((fin.put (some di) ui).put (some d0) u0).put (some d1) u1).eval x2 = u1 ∧ Region.wanted o2 (yielded l.toArray (((fin.put (some di) ui).put (some d0) u0).put (some d1) u1).tmps) = true ∧
    ∀ u2, ((((fin.put (some di) ui).put (some d0) u0).put (some d1) u1).put (some d2) u2).eval x3 = u1 ∧ Region.wanted o3 (yielded l.toArray ((((fin.put (some di) ui).put (some d0) u0).put (some d1) u1).put (some d2) u2).tmps) = true ∧
     ∀ u3, (((((fin.put (some di) ui).put (some d0) u0).put (some d1) u1).put (some d2) u2).put (some d3) u3).eval x4 = u2 ∧ Region.wanted o4 (yielded l.toArray (((((fin.put (some di) ui).put (some d0) u0).put (some d1) u1).put (some d2) u2).put (some d3) u3).tmps) = true) ∧
   ∀ u z w', Below W.heap.size W w' → R u z w' → wpList P l.toArray Q (l.drop (j + 5)) ((((((fin.put (some di) ui).put (some d0) (.tuple #[u, z])).put (some d1) (.tuple #[u, z])).put (some d2) u).put (some d3) z).put (some d4) u) w') :
  (Code.region id l.toArray true).wp P Q a W := by
 obtain ⟨fin, hq, hargsi, hwi, hcalli, hrest⟩ := h
 refine wp_region_own noS (j + 5) ks [i, j, j + 1, j + 2, j + 3, j + 4] (fun k => if k == j then [i] else if k == j + 1 then [j] else if k == j + 2 then [j + 1] else if k == j + 3 then [j + 1] else if k == j + 4 then [j + 2] else [])
  (fun k u => (k = i → V u) ∧ (k = j + 1 → ∃ x y, u = .tuple #[x, y])) (fun γ w => (∀ u, γ i = some u → γ j = none → R0 u w) ∧ (γ i = none → γ j = none) ∧ DX j R γ w) hm hB hpB (fun k hk => ?_) hsl (fun γ w w' hb hD => ?_) ?_ (fun k hk => ?_) ⟨fin, fun W1 hc => hq W1 hc.noS_, ?_⟩
 ·simp only [List.mem_cons, List.not_mem_nil, or_false, not_or] at hk
  simp [hk.2.1, hk.2.2.1, hk.2.2.2.1, hk.2.2.2.2.1, hk.2.2.2.2.2]
 ·exact ⟨fun u hu hv => hst0 u w w' hb (hD.1 u hu hv), hD.2.1, fun u0 hu => by obtain ⟨u, z, g1, g2⟩ := hD.2.2.c u0 hu; exact ⟨u, z, g1, hst u z w w' hb g2⟩, hD.2.2.m, hD.2.2.x, hD.2.2.y, hD.2.2.q, hD.2.2.n0, hD.2.2.n1, hD.2.2.n2⟩
 ·exact ⟨fun _ h => (by cases h), fun _ => rfl, fun _ h => (by cases h), fun _ _ h => (by cases h), fun _ _ h => (by cases h), fun _ _ h => (by cases h), fun _ _ h => (by cases h), fun _ => rfl, fun _ => ⟨rfl, rfl⟩, fun _ => rfl⟩
 ·obtain ⟨u, hu⟩ := hV0
  by_cases hki : k = i
  ·exact ⟨u, fun _ => hu, fun h => by omega⟩
  ·exact ⟨.tuple #[undef, undef], fun h => absurd h hki, fun _ => ⟨_, _, rfl⟩⟩
 refine ⟨oi, by simpa using hi, ⟨hwi, fun w γ hc hD hn _ => ?_⟩, fun ui hui => ?_⟩
 ·rw [run_call_fn pi hfi w, hargsi]
  refine ⟨rfl, (hcalli w hc.noS_).mono ?_⟩
  rintro e w'' ⟨u, he, hR, hb⟩
  have gj := hD.2.1 hn
  have g1 := hD.2.2.n0 gj
  obtain ⟨g2, g3⟩ := hD.2.2.n1 g1
  have g4 := hD.2.2.n2 g2
  refine ⟨_, he, ⟨fun _ => hV _ _ hR, fun h => by omega⟩, hc.trans (.of_below hb), fun v hv _ => ?_, fun hv => ?_, ?_⟩
  ·rw [gset_at] at hv
   injection hv with hv
   rw [← hv]; exact hR
  ·rw [gset_at] at hv; cases hv
  ·refine ⟨fun u0 hu => ?_, fun u0 u1 hu _ => ?_, fun u1 u2 hu _ => ?_, fun u1 u2 hu _ => ?_, fun u2 u4 hu _ => ?_, fun _ => ?_, fun _ => ?_, fun _ => ?_⟩
   ·rw [gset_ne _ _ _ _ (by omega), gj] at hu; cases hu
   ·rw [gset_ne _ _ _ _ (by omega), gj] at hu; cases hu
   ·rw [gset_ne _ _ _ _ (by omega), g1] at hu; cases hu
   ·rw [gset_ne _ _ _ _ (by omega), g1] at hu; cases hu
   ·rw [gset_ne _ _ _ _ (by omega), g2] at hu; cases hu
   ·rw [gset_ne _ _ _ _ (by omega)]; exact g1
   ·rw [gset_ne _ _ _ _ (by omega), gset_ne _ _ _ _ (by omega)]; exact ⟨g2, g3⟩
   ·rw [gset_ne _ _ _ _ (by omega)]; exact g4
 rw [ei]
 obtain ⟨hargs, hw0, hcall, hev, hk⟩ := hrest ui (hui.1 rfl)
 have keep : ∀ (γ : Nat → Option Value) (w : World) k v, k ≠ i → k ≠ j → (∀ u, γ i = some u → γ j = none → R0 u w) → (γ i = none → γ j = none) → (∀ u, gset γ k v i = some u → gset γ k v j = none → R0 u w) ∧ (gset γ k v i = none → gset γ k v j = none) := fun γ w k v h1 h2 h3 h4 => by
  rw [gset_ne _ _ _ _ (Ne.symm h1), gset_ne _ _ _ _ (Ne.symm h2)]; exact ⟨h3, h4⟩
 ·refine ⟨o0, by simpa using h0, ⟨hw0, fun w γ hc hD hn hp => ?_⟩, fun u0 _ => ?_⟩
  ·have hpi := hp i (by simp)
   rw [gset_at] at hpi
   rw [run_call_fn p0 hf w, hargs]
   refine ⟨rfl, (hcall w hc.noS_ (hD.1 ui hpi hn)).mono ?_⟩
   rintro e w'' ⟨u, z, he, hR, hb⟩
   have g1 := hD.2.2.n0 hn
   obtain ⟨g2, g3⟩ := hD.2.2.n1 g1
   have g4 := hD.2.2.n2 g2
   refine ⟨_, he, ⟨fun h => by omega, fun h => absurd h (by omega)⟩, .of_below hb, fun v _ hv => ?_, fun hv => ?_, ?_⟩
   ·rw [gset_at] at hv; cases hv
   ·rw [gset_ne _ _ _ _ (by omega), hpi] at hv; cases hv
   refine ⟨fun u0 hu => ?_, fun u0 u1 _ hu => ?_, fun u1 u2 hu _ => ?_, fun u1 u2 hu _ => ?_, fun u2 u4 hu _ => ?_, fun hu => ?_, fun _ => ?_, fun _ => ?_⟩
   ·rw [gset_at] at hu; injection hu with hu; exact ⟨u, z, hu.symm, hR⟩
   ·rw [gset_ne _ _ _ _ (by omega), g1] at hu; cases hu
   ·rw [gset_ne _ _ _ _ (by omega), g1] at hu; cases hu
   ·rw [gset_ne _ _ _ _ (by omega), g1] at hu; cases hu
   ·rw [gset_ne _ _ _ _ (by omega), g2] at hu; cases hu
   ·rw [gset_at] at hu; cases hu
   ·rw [gset_ne _ _ _ _ (by omega), gset_ne _ _ _ _ (by omega)]; exact ⟨g2, g3⟩
   ·rw [gset_ne _ _ _ _ (by omega)]; exact g4
  ·rw [e0]
   obtain ⟨hv1, hw1, hev⟩ := hev u0
   refine ⟨o1, by simpa using h1, ⟨hw1, fun w γ hc hD hn hp => ?_⟩, fun u1 hV1 => ?_⟩
   ·have hp0 := hp j (by simp)
    rw [gset_at] at hp0
    have hr : (execOp ((fin.put (some di) ui).put (some d0) u0).eval o1).run P w = .ok (.value u0) w := by unfold execOp; simp only [p1, hv1]; rfl
    rw [hr]
    obtain ⟨g2, g3⟩ := hD.2.2.n1 hn
    obtain ⟨u, z, g4, g5⟩ := hD.2.2.c u0 hp0
    obtain ⟨K1, K2⟩ := keep γ w (j + 1) u0 (by omega) (by omega) hD.1 hD.2.1
    refine ⟨⟨fun h => by omega, fun _ => ⟨u, z, g4⟩⟩, hc, K1, K2, ?_⟩
    refine ⟨fun v hv => ?_, fun v v1 hv hv1 => ?_, fun v1 v2 _ hv2 => ?_, fun v1 v2 _ hv2 => ?_, fun v2 v4 hv2 _ => ?_, fun hv => ?_, fun hv => ?_, fun _ => ?_⟩
    ·rw [gset_ne _ _ _ _ (by omega)] at hv; exact hD.2.2.c v hv
    ·rw [gset_ne _ _ _ _ (by omega), hp0] at hv
     rw [gset_at] at hv1
     injection hv with hv; injection hv1 with hv1; rw [← hv, ← hv1]
    ·rw [gset_ne _ _ _ _ (by omega), g2] at hv2; cases hv2
    ·rw [gset_ne _ _ _ _ (by omega), g3] at hv2; cases hv2
    ·rw [gset_ne _ _ _ _ (by omega), g2] at hv2; cases hv2
    ·rw [gset_ne _ _ _ _ (by omega), hp0] at hv; cases hv
    ·rw [gset_at] at hv; cases hv
    ·rw [gset_ne _ _ _ _ (by omega)]; exact hD.2.2.n2 g2
   ·rw [e1]
    obtain ⟨x, y, rfl⟩ := hV1.2 rfl
    obtain ⟨hv2, hw2, hev⟩ := hev (.tuple #[x, y])
    refine ⟨o2, by simpa using h2, ⟨hw2, fun w γ hc hD hn hp => ?_⟩, fun u2 _ => ?_⟩
    ·have hp1 := hp (j + 1) (by simp)
     rw [gset_at] at hp1
     have hr : (execOp (((fin.put (some di) ui).put (some d0) u0).put (some d1) (.tuple #[x, y])).eval o2).run P w = .ok (.value x) w := by unfold execOp; simp only [p2, hv2]; rfl
     rw [hr]
     have g6 := hD.2.2.n2 hn
     obtain ⟨K1, K2⟩ := keep γ w (j + 2) x (by omega) (by omega) hD.1 hD.2.1
     refine ⟨⟨fun h => by omega, fun h => absurd h (by omega)⟩, hc, K1, K2, ?_⟩ 
     refine ⟨fun v hv => ?_, fun v v1 hv hv1 => ?_, fun v1 v2 hv1 hv2 => ?_, fun v1 v2 hv1 hv2 => ?_, fun v2 v4 _ hv4 => ?_, fun hv => ?_, fun hv => ?_, fun hv => ?_⟩
     ·rw [gset_ne _ _ _ _ (by omega)] at hv; exact hD.2.2.c v hv
     ·rw [gset_ne _ _ _ _ (by omega)] at hv hv1; exact hD.2.2.m v v1 hv hv1
     ·rw [gset_ne _ _ _ _ (by omega), hp1] at hv1
      rw [gset_at] at hv2
      injection hv1 with hv1; injection hv2 with hv2; exact ⟨y, by rw [← hv1, ← hv2]⟩
     ·rw [gset_ne _ _ _ _ (by omega)] at hv1 hv2; exact hD.2.2.y v1 v2 hv1 hv2
     ·rw [gset_ne _ _ _ _ (by omega), g6] at hv4; cases hv4
     ·rw [gset_ne _ _ _ _ (by omega)] at hv ⊢; exact hD.2.2.n0 hv
     ·rw [gset_ne _ _ _ _ (by omega), hp1] at hv; cases hv
     ·rw [gset_at] at hv; cases hv
    ·rw [e2]
     obtain ⟨hv3, hw3, hev⟩ := hev u2
     refine ⟨o3, by simpa using h3, ⟨hw3, fun w γ hc hD hn hp => ?_⟩, fun u3 _ => ?_⟩
     ·have hp1 := hp (j + 1) (by simp)
      rw [gset_ne _ _ _ _ (by omega), gset_at] at hp1
      have hr : (execOp ((((fin.put (some di) ui).put (some d0) u0).put (some d1) (.tuple #[x, y])).put (some d2) u2).eval o3).run P w = .ok (.value y) w := by unfold execOp; simp only [p3, hv3]; rfl
      rw [hr]
      obtain ⟨K1, K2⟩ := keep γ w (j + 3) y (by omega) (by omega) hD.1 hD.2.1
      refine ⟨⟨fun h => by omega, fun h => absurd h (by omega)⟩, hc, K1, K2, ?_⟩ 
      refine ⟨fun v hv => ?_, fun v v1 hv hv1 => ?_, fun v1 v2 hv1 hv2 => ?_, fun v1 v2 hv1 hv2 => ?_, fun v2 v4 hv2 hv4 => ?_, fun hv => ?_, fun hv => ?_, fun hv => ?_⟩
      ·rw [gset_ne _ _ _ _ (by omega)] at hv; exact hD.2.2.c v hv
      ·rw [gset_ne _ _ _ _ (by omega)] at hv hv1; exact hD.2.2.m v v1 hv hv1
      ·rw [gset_ne _ _ _ _ (by omega)] at hv1 hv2; exact hD.2.2.x v1 v2 hv1 hv2
      ·rw [gset_ne _ _ _ _ (by omega), hp1] at hv1
       rw [gset_at] at hv2
       injection hv1 with hv1; injection hv2 with hv2; exact ⟨x, by rw [← hv1, ← hv2]⟩
      ·rw [gset_ne _ _ _ _ (by omega)] at hv2 hv4; exact hD.2.2.q v2 v4 hv2 hv4
      ·rw [gset_ne _ _ _ _ (by omega)] at hv ⊢; exact hD.2.2.n0 hv
      ·rw [gset_ne _ _ _ _ (by omega), hp1] at hv; cases hv
      ·rw [gset_ne _ _ _ _ (by omega)] at hv ⊢; exact hD.2.2.n2 hv
     ·rw [e3]
      obtain ⟨hv4, hw4⟩ := hev u3
      refine ⟨o4, by simpa using h4, ⟨hw4, fun w γ hc hD hn hp => ?_⟩, fun u4 _ => ?_⟩
      ·have hp2 := hp (j + 2) (by simp)
       rw [gset_ne _ _ _ _ (by omega), gset_at] at hp2
       have hr : (execOp (((((fin.put (some di) ui).put (some d0) u0).put (some d1) (.tuple #[x, y])).put (some d2) u2).put (some d3) u3).eval o4).run P w = .ok (.value u2) w := by unfold execOp; simp only [p4, hv4]; rfl
       rw [hr]
       obtain ⟨K1, K2⟩ := keep γ w (j + 4) u2 (by omega) (by omega) hD.1 hD.2.1
       refine ⟨⟨fun h => by omega, fun h => absurd h (by omega)⟩, hc, K1, K2, ?_⟩ 
       refine ⟨fun v hv => ?_, fun v v1 hv hv1 => ?_, fun v1 v2 hv1 hv2 => ?_, fun v1 v2 hv1 hv2 => ?_, fun v2 v4 hv2 hv4 => ?_, fun hv => ?_, fun hv => ?_, fun hv => ?_⟩
       ·rw [gset_ne _ _ _ _ (by omega)] at hv; exact hD.2.2.c v hv
       ·rw [gset_ne _ _ _ _ (by omega)] at hv hv1; exact hD.2.2.m v v1 hv hv1
       ·rw [gset_ne _ _ _ _ (by omega)] at hv1 hv2; exact hD.2.2.x v1 v2 hv1 hv2
       ·rw [gset_ne _ _ _ _ (by omega)] at hv1 hv2; exact hD.2.2.y v1 v2 hv1 hv2
       ·rw [gset_ne _ _ _ _ (by omega), hp2] at hv2
        rw [gset_at] at hv4
        injection hv2 with hv2; injection hv4 with hv4; rw [← hv2, ← hv4]
       ·rw [gset_ne _ _ _ _ (by omega)] at hv ⊢; exact hD.2.2.n0 hv
       ·rw [gset_ne _ _ _ _ (by omega)] at hv ⊢; rw [gset_ne _ _ _ _ (by omega)]; exact hD.2.2.n1 hv
       ·rw [gset_ne _ _ _ _ (by omega), hp2] at hv; cases hv
      ·rw [e4]
       intro w' hc hD
       have g0 : gset (gset (gset (gset (gset (gset (fun _ => none) i ui) j u0) (j + 1) (.tuple #[x, y])) (j + 2) u2) (j + 3) u3) (j + 4) u4 j = some u0 := by
        rw [gset_ne _ _ _ _ (by omega), gset_ne _ _ _ _ (by omega), gset_ne _ _ _ _ (by omega), gset_ne _ _ _ _ (by omega), gset_at]
       have g1 : gset (gset (gset (gset (gset (gset (fun _ => none) i ui) j u0) (j + 1) (.tuple #[x, y])) (j + 2) u2) (j + 3) u3) (j + 4) u4 (j + 1) = some (.tuple #[x, y]) := by
        rw [gset_ne _ _ _ _ (by omega), gset_ne _ _ _ _ (by omega), gset_ne _ _ _ _ (by omega), gset_at]
       have g2 : gset (gset (gset (gset (gset (gset (fun _ => none) i ui) j u0) (j + 1) (.tuple #[x, y])) (j + 2) u2) (j + 3) u3) (j + 4) u4 (j + 2) = some u2 := by
        rw [gset_ne _ _ _ _ (by omega), gset_ne _ _ _ _ (by omega), gset_at]
       have g3 : gset (gset (gset (gset (gset (gset (fun _ => none) i ui) j u0) (j + 1) (.tuple #[x, y])) (j + 2) u2) (j + 3) u3) (j + 4) u4 (j + 3) = some u3 := by
        rw [gset_ne _ _ _ _ (by omega), gset_at]
       have g4 : gset (gset (gset (gset (gset (gset (fun _ => none) i ui) j u0) (j + 1) (.tuple #[x, y])) (j + 2) u2) (j + 3) u3) (j + 4) u4 (j + 4) = some u4 := gset_at _ _ _
       obtain ⟨u, z, ht, hR⟩ := hD.2.2.c _ g0
       have hm := hD.2.2.m _ _ g0 g1
       obtain ⟨z', hx⟩ := hD.2.2.x _ _ g1 g2
       obtain ⟨u', hy⟩ := hD.2.2.y _ _ g1 g3
       obtain rfl := hD.2.2.q _ _ g2 g4
       subst ht
       rw [hm] at hx hy
       injection hx with hx
       injection hy with hy
       have hx1 : u = u4 ∧ z = z' := by simpa using hx
       have hy1 : u = u' ∧ z = u3 := by simpa using hy
       have hxy : x = u ∧ y = z := by injection hm with hm; simpa using hm
       obtain ⟨rfl, rfl⟩ := hxy
       obtain ⟨rfl, -⟩ := hx1
       obtain ⟨-, rfl⟩ := hy1
       exact hk _ _ w' hc.noS_ hR
end Go.Proofs.YtehlbomkldnalaaGreat

/- A region that draws: it reads, and stores a whole value into a block that was there; the rest stands in one order. -/
namespace Go.Proofs.YtehlbomkldnalaaGreat
open Go Go.RowKit
theorem wp_region_store1 {P : Program} {id : Nat} {Q : Exit → Act → World → Prop} {a : Act} {W : World} {l : List Oper} (n i : Nat) (ks : List Nat) {oi : Oper} {g : Nat} {t ty : TypeId} {old : Array Value} (cells : Array Value) (px py : Operand)
  (hm : P.follows .mixedOrders = true) (hB : ownB .any l n ks [i] = true) (hpB : preB .any l (fun _ => []) [i] = true) (hsl : slotsB (pick l ks) a.tmps.size = true)
  (hg : Blk W g t old) (hoi : l[i]? = some oi) (hd : oi.dst = none) (pi : oi.op = .store ty px py) (hinf : (P.info? ty).map (·.size) = some cells.size) (hold : old.size = cells.size) (h1 : cells.all (·.oneCell') = true)
  (h : ∃ fin : Act, (∀ W1, Chg (fun k => k = g) W W1 → wpQuiet P l.toArray (fun w' => ∃ u : Since W1, w' = u.w) (fun a' => a' = fin) (pick l ks) a) ∧
   fin.eval px = .pointer (some ⟨g, 0, none⟩) ∧ fin.eval py = .agg cells ∧ Region.wanted oi (yielded l.toArray fin.tmps) = true ∧
   ∀ w', Chg (fun k => k = g) W w' → Blk w' g t cells → wpList P l.toArray Q (l.drop n) fin w') :
  (Code.region id l.toArray true).wp P Q a W := by
 obtain ⟨fin, hq, hpx, hpy, hwi, hk⟩ := h
 refine wp_region_own (fun k => k = g) n ks [i] (fun _ => []) (fun _ u => u = undef)
  (fun γ w => (γ i = none → Blk w g t old) ∧ (γ i ≠ none → Blk w g t cells))
  hm hB hpB (fun _ _ => rfl) hsl (fun γ w w' hb hD => ⟨fun hn => (hD.1 hn).below hb (hD.1 hn).lt, fun hn => (hD.2 hn).below hb (hD.2 hn).lt⟩) ⟨fun _ => hg.below ((Below.refl _ _).drew) hg.lt, fun hn => absurd rfl hn⟩ (fun _ _ => ⟨undef, rfl⟩) ⟨fin, hq, ?_⟩
 refine ⟨oi, by simpa using hoi, ⟨hwi, fun w γ hc hD hn _ => ?_⟩, fun u0 hu0 => ?_⟩
 ·have hb := hD.1 hn
  unfold execOp
  simp only [pi, hpx, hpy, Instr.storeAt, Instr.sureAddr, Sem.run_bind, Sem.run_pure, Result.andThen_ok, run_storeVar_row w g t ty old cells hb hinf hold h1]
  refine ⟨rfl, hc.trans (Chg.row1 cells), fun hn2 => ?_, fun _ => setRow_heap w g old cells t _ hb⟩
  rw [gset_at] at hn2; cases hn2
 ·rw [hd]
  subst hu0
  intro w' hc hD
  exact hk w' hc (hD.2 (by rw [gset_at]; exact fun h => by cases h))
end Go.Proofs.YtehlbomkldnalaaGreat

/- The same, and where the new list lies. A region that draws: an element laid into a new block is appended to a list that was there; other operations stand free behind the append. -/
namespace Go.Proofs.YtehlbomkldnalaaGreat
open Go Go.RowKit
theorem wp_region_app2 {α : Type} {P : Program} {id : Nat} {Q : Exit → Act → World → Prop} {a : Act} {W : World} {l : List Oper} {base : Nat} {e t : TypeId} {sz : Nat} {f : α → List Value} {v : Value} {xs : List α} {y : α} {cs : Array Value} (n i j : Nat) (ks : List Nat) {oi oj : Oper} (s x : Operand)
  (hm : P.follows .mixedOrders = true) (hB : ownB .any l n ks [i, j] = true) (hpB : preB .any l (fun k => if k == j then [i] else []) [i, j] = true) (hsl : slotsB (pick l ks) a.tmps.size = true)
  (he : ElemT P t e sz) (hO : Own W base e sz f v xs) (hf : ∀ x, (f x).length = sz) (h1c : ∀ x, ∀ u ∈ f x, u.oneCell' = true) (hlen : xs.length + 1 ≤ 1000000000) (hbase : base ≤ W.heap.size) (hcs : cs.toList = f y) (hij : i ≠ j)
  (hoi : l[i]? = some oi) (hoj : l[j]? = some oj)
  (ho : oj.op = .call { callee := .builtin .append, args := #[s, x], argTypes := #[t, t] })
  (h : ∃ fin : Act, (∀ W1, Chg (fun k => v.ownBlock = some k) W W1 → wpQuiet P l.toArray (fun w' => ∃ u : Since W1, w' = u.w) (fun a' => a' = fin) (pick l ks) a) ∧
   Region.wanted oi (yielded l.toArray fin.tmps) = true ∧ (∀ w1, (execOp fin.eval oi).run P w1 = .ok (.value (.slice (some ⟨w1.heap.size, 0, none⟩) 1 1)) (w1.alloc (.cells cs e))) ∧
   ∀ g : Nat, Region.wanted oj (yielded l.toArray (fin.put oi.dst (.slice (some ⟨g, 0, none⟩) 1 1)).tmps) = true ∧ (fin.put oi.dst (.slice (some ⟨g, 0, none⟩) 1 1)).eval s = v ∧ (fin.put oi.dst (.slice (some ⟨g, 0, none⟩) 1 1)).eval x = .slice (some ⟨g, 0, none⟩) 1 1 ∧
    ∀ gj c w', Chg (fun k => v.ownBlock = some k) W w' → Own w' base e sz f (.slice (some ⟨gj, 0, none⟩) (xs.length + 1) c) (xs ++ [y]) → (W.heap.size ≤ gj ∨ v.ownBlock = some gj) → wpList P l.toArray Q (l.drop n) ((fin.put oi.dst (.slice (some ⟨g, 0, none⟩) 1 1)).put oj.dst (.slice (some ⟨gj, 0, none⟩) (xs.length + 1) c)) w') :
  (Code.region id l.toArray true).wp P Q a W := by
 obtain ⟨fin, hq, hwi, hri, hk⟩ := h
 have hgi : ∀ γ : Nat → Option Value, ∀ u, gset γ i u i = some u := fun γ u => by unfold gset; rw [if_pos rfl]
 have hgj : ∀ γ : Nat → Option Value, ∀ u, gset γ j u j = some u := fun γ u => by unfold gset; rw [if_pos rfl]
 have hgij : ∀ γ : Nat → Option Value, ∀ u, gset γ i u j = γ j := fun γ u => by unfold gset; rw [if_neg (Ne.symm hij)]
 have hgji : ∀ γ : Nat → Option Value, ∀ u, gset γ j u i = γ i := fun γ u => by unfold gset; rw [if_neg hij]
 refine wp_region_own (fun k => v.ownBlock = some k) n ks [i, j] (fun k => if k == j then [i] else [])
  (fun k u => if k = i then ∃ g : Nat, u = .slice (some ⟨g, 0, none⟩) 1 1 else ∃ g c : Nat, u = .slice (some ⟨g, 0, none⟩) (xs.length + 1) c)
  (fun γ w => (∀ u, γ i = some u → ∃ g, u = .slice (some ⟨g, 0, none⟩) 1 1 ∧ v.ownBlock ≠ some g ∧ Blk w g e cs) ∧ (γ j = none → Own w base e sz f v xs) ∧ (∀ u, γ j = some u → Own w base e sz f u (xs ++ [y]) ∧ ∀ b, u.ownBlock = some b → W.heap.size ≤ b ∨ v.ownBlock = some b))
  hm hB hpB (fun k hk => ?_) hsl (fun γ w w' hb hD => ?_) ⟨fun u hu => (by cases hu), fun _ => hO.drew, fun u hu => (by cases hu)⟩ (fun k hk => ?_) ⟨fin, hq, ?_⟩
 ·have : k ≠ j := fun e => hk (by simp [e])
  simp [this]
 ·refine ⟨fun u hu => ?_, fun h => (hD.2.1 h).below hb, fun u hu => ⟨(hD.2.2 u hu).1.below hb, (hD.2.2 u hu).2⟩⟩
  obtain ⟨g, h1, h2, h3⟩ := hD.1 u hu
  exact ⟨g, h1, h2, h3.below hb h3.lt⟩
 ·by_cases hki : k = i
  ·exact ⟨.slice (some ⟨0, 0, none⟩) 1 1, by (try dsimp only); rw [if_pos hki]; exact ⟨0, rfl⟩⟩
  ·exact ⟨.slice (some ⟨0, 0, none⟩) (xs.length + 1) 0, by (try dsimp only); rw [if_neg hki]; exact ⟨0, 0, rfl⟩⟩
 ·refine ⟨oi, by simpa using hoi, ⟨hwi, fun w γ hc hD hn _ => ?_⟩, fun u hu => ?_⟩
  ·rw [hri w]
   refine ⟨?_, hc.alloc _, ?_⟩
   ·(try dsimp only); rw [if_pos rfl]; exact ⟨_, rfl⟩
   ·refine ⟨fun u hu => ?_, fun h => (hD.2.1 (by rwa [hgij] at h)).alloc _, fun u hu => ⟨(hD.2.2 u (by rwa [hgij] at hu)).1.alloc _, (hD.2.2 u (by rwa [hgij] at hu)).2⟩⟩
    rw [hgi] at hu
    injection hu with hu
    refine ⟨w.heap.size, hu.symm, fun he => ?_, Blk.new w e cs⟩
    have h1 := (World.ownsRow.lt hO _ he).2
    have h2 := hc.size
    omega
  ·try dsimp only at hu
   rw [if_pos rfl] at hu
   obtain ⟨g, rfl⟩ := hu
   obtain ⟨hwj, hs, hx, hk⟩ := hk g
   refine ⟨oj, by simpa using hoj, ⟨hwj, fun w γ hc hD hn hp => ?_⟩, fun u hu => ?_⟩
   ·have hp2 := hp i (by simp)
    rw [hgi] at hp2
    obtain ⟨g', h1, h2, h3⟩ := hD.1 _ hp2
    injection h1 with h1
    injection h1 with h1
    injection h1 with h1
    subst h1
    have hown := hD.2.1 hn
    obtain ⟨v', w', hr, hO', hg, hv⟩ := run_app_own (P := P) (ty := oj.type) he hown (h3.slc1 hcs) rfl hf h1c hlen (Nat.le_trans hbase hc.size) (c2 := 1)
    rw [exec_app ho hs hx hr]
    obtain ⟨g2, c2, hv2, _, _⟩ := hO'.at_ (by simp)
    rw [List.length_append] at hv2
    refine ⟨?_, ?_, ?_⟩
    ·(try dsimp only); rw [if_neg (Ne.symm hij)]; exact ⟨g2, c2, hv2⟩
    ·exact hc.trans ⟨hg.os, hg.tape, hg.output, hg.size, fun k hk hn => hg.block k hk fun he => hn he.symm⟩
    ·refine ⟨fun u hu => ?_, fun h => (by rw [hgj] at h; cases h), fun u hu => ?_⟩
     ·rw [hgji, hp2] at hu
      injection hu with hu
      exact ⟨g, hu.symm, h2, h3.grownv hg fun k hk he => h2 (by rw [he]; exact hk)⟩
     ·rw [hgj] at hu
      injection hu with hu
      subst hu
      refine ⟨hO', fun b hb => ?_⟩
      rcases hv b hb with h9 | h9
      ·exact .inl (Nat.le_trans hc.size h9)
      ·exact .inr h9
   ·try dsimp only at hu
    rw [if_neg (Ne.symm hij)] at hu
    obtain ⟨gj, c, rfl⟩ := hu
    intro w' hc hD
    exact hk gj c w' hc (hD.2.2 _ (hgj _ _)).1 ((hD.2.2 _ (hgj _ _)).2 gj rfl)
end Go.Proofs.YtehlbomkldnalaaGreat

/- A region that draws: a call of several results, handed out while the rest is still to come. -/
namespace Go.Proofs.YtehlbomkldnalaaGreat
open Go Go.RowKit
theorem exec_move_ {P : Program} {o : Oper} {x : Operand} {ev : Operand → Value} (ho : o.op = .move x) (w : World) : (execOp ev o).run P w = .ok (.value (ev x)) w := by
 unfold execOp
 simp only [ho]
 rfl
theorem exec_ext_ {P : Program} {o : Oper} {x : Operand} {k : Nat} {ev : Operand → Value} {vs : Array Value} {v : Value} (ho : o.op = .extract x k) (hx : ev x = .tuple vs) (hv : vs[k]? = some v) (w : World) : (execOp ev o).run P w = .ok (.value v) w := by
 unfold execOp
 simp only [ho, hx]
 simp [Instr.extract, hv]
theorem wanted_none {o : Oper} (h : o.guard = none) (f : Nat → Option Bool) : Region.wanted o f = true := by
 unfold Region.wanted
 rw [h]
end Go.Proofs.YtehlbomkldnalaaGreat

/- The region of the reference's Take: it loads a store, calls for three results, and stores the first back where it loaded. -/
namespace Go.Proofs.YtehlbomkldnalaaGreat
open Go Go.RowKit
theorem exec_assign_ {P : Program} {o : Oper} {x : Operand} {ev : Operand → Value} (ho : o.op = .assign x) (w : World) : (execOp ev o).run P w = .ok (.value (ev x)) w := by
 unfold execOp
 simp only [ho]
 rfl
theorem ev_ne {b : Act} {d k : Nat} {u : Value} (h : k ≠ d) : (b.put (some d) u).eval (.tmp k) = b.eval (.tmp k) := by
 simp only [Act.eval, Act.put]
 rw [Array.getD_eq_getD_getElem?, Array.getD_eq_getD_getElem?, Array.getElem?_setIfInBounds_ne (Ne.symm h)]
theorem ev_eq {b : Act} {d : Nat} {u : Value} (h : d < b.tmps.size) : (b.put (some d) u).eval (.tmp d) = u := by
 simp [Act.eval, Act.put, h]
theorem put_szA {b : Act} {d : Nat} {u : Value} : (b.put (some d) u).tmps.size = b.tmps.size := by simp [Act.put]
theorem wp_region_take {P : Program} {id : Nat} {Q : Exit → Act → World → Prop} {a : Act} {W : World} {l : List Oper} {g : Nat} {ty tg : TypeId} {old : Array Value} (R : Value → Value → Value → World → Prop) {ol oi om e0 e1 e2 os oa ob : Oper} {f : FuncId} {xs : Array Operand} {ts : Array TypeId} {args : Array Value}
  (hm : P.follows .mixedOrders = true) (hB : ownB .any l 14 [1, 2, 3, 4, 5] [0, 6, 7, 8, 9, 10, 11, 12, 13] = true)
  (hpB : preB .any l (fun k => match k with | 6 => [0] | 7 => [6] | 8 => [7] | 9 => [7] | 10 => [7] | 11 => [8, 6, 0] | 12 => [9] | 13 => [10] | _ => []) [0, 6, 7, 8, 9, 10, 11, 12, 13] = true) (hsl : slotsB (pick l [1, 2, 3, 4, 5]) a.tmps.size = true)
  (hst : ∀ u v t w w', Chg (fun k => k = g) w w' → R u v t w → R u v t w')
  (hag : ∀ u v t w, R u v t w → ∃ cs, u = .agg cs ∧ cs.size = old.size ∧ cs.all (·.oneCell') = true)
  (hol : l[0]? = some ol) (hoi : l[6]? = some oi) (hom : l[7]? = some om) (ho0 : l[8]? = some e0) (ho1 : l[9]? = some e1) (ho2 : l[10]? = some e2) (hos : l[11]? = some os) (hoa : l[12]? = some oa) (hob : l[13]? = some ob) (hll : l.length = 14)
  (edl : ol.dst = some 29) (edi : oi.dst = some 35) (edm : om.dst = some 28) (ed0 : e0.dst = some 36) (ed1 : e1.dst = some 37) (ed2 : e2.dst = some 38) (eds : os.dst = none) (eda : oa.dst = some 11) (edb : ob.dst = some 12)
  (gl : ol.guard = none) (gi : oi.guard = none) (gm : om.guard = none) (g0 : e0.guard = none) (g1 : e1.guard = none) (g2 : e2.guard = none) (gs : os.guard = none) (ga : oa.guard = none) (gb : ob.guard = none)
  (_pl : ol.op = .load ty (.tmp 3)) (pi : oi.op = .call { callee := .value (.func f), args := xs, argTypes := ts }) (pm : om.op = .move (.tmp 35)) (p0 : e0.op = .extract (.tmp 28) 0) (p1 : e1.op = .extract (.tmp 28) 1) (p2 : e2.op = .extract (.tmp 28) 2) (ps : os.op = .store ty (.tmp 3) (.tmp 36)) (pa : oa.op = .assign (.tmp 37)) (pb : ob.op = .assign (.tmp 38))
  (_hsz : a.tmps.size = 41) (hp3 : a.eval (.tmp 3) = .pointer (some ⟨g, 0, none⟩)) (hg : Blk W g tg old) (hinf : (P.info? ty).map (·.size) = some old.size)
  (hld : ∀ w, Blk w g tg old → ∀ ev : Operand → Value, ev (.tmp 3) = .pointer (some ⟨g, 0, none⟩) → (execOp ev ol).run P w = .ok (.value (.agg old)) w)
  (hf : ∀ args w, (callFunc f args).run P w = .ok (.enter f args) w)
  (h : ∃ fin : Act, (∀ W1, Chg (fun k => k = g) W W1 → wpQuiet P l.toArray (fun w' => ∃ u : Since W1, w' = u.w) (fun a' => a' = fin) (pick l [1, 2, 3, 4, 5]) a) ∧ fin.tmps.size = 41 ∧ fin.eval (.tmp 3) = .pointer (some ⟨g, 0, none⟩) ∧
   xs.map (fin.put (some 29) (.agg old)).eval = args ∧ (∀ w, Below W.heap.size W w → Calls P f args w fun e w'' => ∃ u v t, e = .returned (.tuple #[u, v, t]) ∧ R u v t w'' ∧ Below w.heap.size w w'') ∧
   ∀ cs v t w', Chg (fun k => k = g) W w' → R (.agg cs) v t w' → Blk w' g tg cs → wpList P l.toArray Q [] ((((((((fin.put (some 29) (.agg old)).put (some 35) (.tuple #[.agg cs, v, t])).put (some 28) (.tuple #[.agg cs, v, t])).put (some 36) (.agg cs)).put (some 37) v).put (some 38) t).put (some 11) v).put (some 12) t) w') :
  (Code.region id l.toArray true).wp P Q a W := by
 obtain ⟨fin, hq, hfs, hf3, hargs, hri, hk⟩ := h
 have gne : ∀ (γ : Nat → Option Value) (x y : Nat) (u : Value), y ≠ x → gset γ x u y = γ y := fun γ x y u hxy => gset_ne _ _ _ _ hxy
 have hbel : ∀ w, Chg (fun k => k = g) W w → Blk w g tg old → Below W.heap.size W w := fun w hc hb => ⟨hc.os, hc.tape, hc.output, hc.size, fun k hk9 => by
  by_cases e : k = g
  ·subst e
   have h1 : w.heap[k]? = some (Obj.cells old tg (0, 0)) := hb
   have h2 : W.heap[k]? = some (Obj.cells old tg (0, 0)) := hg
   rw [h1, h2]
  ·exact hc.block k hk9 e⟩
 refine wp_region_own (fun k => k = g) 14 [1, 2, 3, 4, 5] [0, 6, 7, 8, 9, 10, 11, 12, 13] _ (fun k u => if k = 0 then u = .agg old else if k = 11 then u = undef else True)
  (fun γ w => (γ 11 = none → Blk w g tg old) ∧ (γ 11 ≠ none → γ 0 ≠ none ∧ ∃ cs y z, γ 6 = some (.tuple #[.agg cs, y, z]) ∧ Blk w g tg cs)
   ∧ (∀ u, γ 6 = some u → ∃ x y z, u = .tuple #[x, y, z] ∧ R x y z w) ∧ (∀ u, γ 7 = some u → γ 6 = some u)
   ∧ (∀ u, γ 8 = some u → ∃ x y z, γ 6 = some (.tuple #[x, y, z]) ∧ u = x) ∧ (∀ u, γ 9 = some u → ∃ x y z, γ 6 = some (.tuple #[x, y, z]) ∧ u = y) ∧ (∀ u, γ 10 = some u → ∃ x y z, γ 6 = some (.tuple #[x, y, z]) ∧ u = z)
   ∧ (∀ u, γ 12 = some u → ∃ x y z, γ 6 = some (.tuple #[x, y, z]) ∧ u = y) ∧ (∀ u, γ 13 = some u → ∃ x y z, γ 6 = some (.tuple #[x, y, z]) ∧ u = z))
  hm hB hpB (fun k hk => ?_) hsl (fun γ w w' hb hD => ?_) ⟨fun _ => hg.drew, fun h => absurd rfl h, fun _ h => (by cases h), fun _ h => (by cases h), fun _ h => (by cases h), fun _ h => (by cases h), fun _ h => (by cases h), fun _ h => (by cases h), fun _ h => (by cases h)⟩ (fun k hk => ?_) ⟨fin, hq, ?_⟩
 ·simp only [List.mem_cons, List.not_mem_nil, or_false, not_or] at hk
  split <;> first | rfl | omega
 ·refine ⟨fun h => (hD.1 h).below hb (hD.1 h).lt, fun h => ?_, fun u hu => ?_, hD.2.2.2⟩
  ·obtain ⟨h1, cs, y, z, h2, h3⟩ := hD.2.1 h
   exact ⟨h1, cs, y, z, h2, h3.below hb h3.lt⟩
  ·obtain ⟨x, y, z, h1, h2⟩ := hD.2.2.1 u hu
   exact ⟨x, y, z, h1, hst _ _ _ _ _ (.of_below hb) h2⟩
 ·by_cases h0 : k = 0
  ·exact ⟨.agg old, by rw [if_pos h0]⟩
  ·by_cases h1 : k = 11
   ·exact ⟨undef, by rw [if_neg h0, if_pos h1]⟩
   ·exact ⟨undef, by rw [if_neg h0, if_neg h1]; trivial⟩
 refine ⟨ol, by simpa using hol, ⟨wanted_none gl _, fun w γ hc hD hn _ => ?_⟩, fun u hu => ?_⟩
 ·have h11 : γ 11 = none := by
   cases e : γ 11 with
   | none => rfl
   | some u => exact absurd hn (hD.2.1 (by rw [e]; exact fun h => by cases h)).1
  rw [hld w (hD.1 h11) fin.eval hf3]
  refine ⟨rfl, hc, ?_⟩
  refine ⟨fun h => hD.1 h11, fun h => absurd h11 (by rw [gne _ _ _ _ (by decide)] at h; exact h), ?_⟩
  rw [gne _ _ _ _ (by decide), gne _ _ _ _ (by decide), gne _ _ _ _ (by decide), gne _ _ _ _ (by decide), gne _ _ _ _ (by decide), gne _ _ _ _ (by decide), gne _ _ _ _ (by decide)]
  exact hD.2.2
 obtain rfl : u = .agg old := by simpa using hu
 rw [edl]
 refine ⟨oi, by simpa using hoi, ⟨wanted_none gi _, fun w γ hc hD hn hp => ?_⟩, fun u _ => ?_⟩
 ·have h11 : γ 11 = none := by
   cases e : γ 11 with
   | none => rfl
   | some u =>
    obtain ⟨_, cs, y, z, h2, _⟩ := hD.2.1 (by rw [e]; exact fun h => by cases h)
    rw [hn] at h2; cases h2
  rw [run_call_fn pi hf w, hargs]
  refine ⟨rfl, (hri w (hbel w hc (hD.1 h11))).mono ?_⟩
  rintro e w'' ⟨x, y, z, he, hR, hb⟩
  have no : ∀ (j : Nat) (f : Value → Value → Value → Value), (∀ u, γ j = some u → ∃ x y z, γ 6 = some (.tuple #[x, y, z]) ∧ u = f x y z) → j ≠ 6 → ∀ u, gset γ 6 (.tuple #[x, y, z]) j = some u → ∃ x' y' z', gset γ 6 (.tuple #[x, y, z]) 6 = some (.tuple #[x', y', z']) ∧ u = f x' y' z' := fun j f h hj u hu => by
   rw [gne _ _ _ _ hj] at hu
   obtain ⟨_, _, _, h1, _⟩ := h u hu
   rw [hn] at h1; cases h1
  refine ⟨_, he, by simp, hc.trans (.of_below hb), fun h => ((hD.1 h11).below hb (hD.1 h11).lt), fun h => absurd h11 (by rw [gne _ _ _ _ (by decide)] at h; exact h), fun v hv => ?_, fun v hv => ?_, no 8 (fun x _ _ => x) hD.2.2.2.2.1 (by decide), no 9 (fun _ y _ => y) hD.2.2.2.2.2.1 (by decide), no 10 (fun _ _ z => z) hD.2.2.2.2.2.2.1 (by decide), no 12 (fun _ y _ => y) hD.2.2.2.2.2.2.2.1 (by decide), no 13 (fun _ _ z => z) hD.2.2.2.2.2.2.2.2 (by decide)⟩
  ·rw [gset_at] at hv
   injection hv with hv
   exact ⟨x, y, z, hv.symm, hR⟩
  ·rw [gne _ _ _ _ (by decide)] at hv
   have := hD.2.2.2.1 v hv
   rw [hn] at this; cases this
 rw [edi]
 have pure : ∀ (γ : Nat → Option Value) (w : World) (j : Nat) (v : Value), j ≠ 11 → j ≠ 0 → j ≠ 6 →
   (((γ 11 = none → Blk w g tg old) ∧ (γ 11 ≠ none → γ 0 ≠ none ∧ ∃ cs y z, γ 6 = some (.tuple #[.agg cs, y, z]) ∧ Blk w g tg cs) ∧ (∀ u, γ 6 = some u → ∃ x y z, u = .tuple #[x, y, z] ∧ R x y z w))) →
   (((gset γ j v) 11 = none → Blk w g tg old) ∧ ((gset γ j v) 11 ≠ none → (gset γ j v) 0 ≠ none ∧ ∃ cs y z, (gset γ j v) 6 = some (.tuple #[.agg cs, y, z]) ∧ Blk w g tg cs) ∧ (∀ u, (gset γ j v) 6 = some u → ∃ x y z, u = .tuple #[x, y, z] ∧ R x y z w)) := fun γ w j v h1 h2 h3 h => by
  rw [gne _ _ _ _ (Ne.symm h1), gne _ _ _ _ (Ne.symm h2), gne _ _ _ _ (Ne.symm h3)]; exact h
 have link : ∀ (γ : Nat → Option Value) (i j : Nat) (v : Value) (f : Value → Value → Value → Value), j ≠ 6 → (i = j → ∃ x y z, γ 6 = some (.tuple #[x, y, z]) ∧ v = f x y z) → (∀ u, γ i = some u → ∃ x y z, γ 6 = some (.tuple #[x, y, z]) ∧ u = f x y z) → ∀ u, gset γ j v i = some u → ∃ x y z, gset γ j v 6 = some (.tuple #[x, y, z]) ∧ u = f x y z := fun γ i j v f h6 h1 h2 u hu => by
  rw [gne _ _ _ _ (Ne.symm h6)]
  by_cases e : i = j
  ·subst e
   rw [gset_at] at hu
   injection hu with hu
   rw [← hu]; exact h1 rfl
  ·rw [gne _ _ _ _ e] at hu
   exact h2 u hu
 refine ⟨om, by simpa using hom, ⟨wanted_none gm _, fun w γ hc hD hn hp => ?_⟩, fun um _ => ?_⟩
 ·have hpi := hp 6 (by simp)
  rw [gset_at] at hpi
  rw [exec_move_ pm w, ev_eq (by rw [put_szA, hfs]; decide)]
  obtain ⟨q1, q2, q3⟩ := pure γ w 7 u (by decide) (by decide) (by decide) ⟨hD.1, hD.2.1, hD.2.2.1⟩
  refine ⟨by simp, hc, q1, q2, q3, fun v hv => ?_, link γ 8 7 u (fun x _ _ => x) (by decide) (fun h => absurd h (by decide)) hD.2.2.2.2.1, link γ 9 7 u (fun _ y _ => y) (by decide) (fun h => absurd h (by decide)) hD.2.2.2.2.2.1, link γ 10 7 u (fun _ _ z => z) (by decide) (fun h => absurd h (by decide)) hD.2.2.2.2.2.2.1, link γ 12 7 u (fun _ y _ => y) (by decide) (fun h => absurd h (by decide)) hD.2.2.2.2.2.2.2.1, link γ 13 7 u (fun _ _ z => z) (by decide) (fun h => absurd h (by decide)) hD.2.2.2.2.2.2.2.2⟩
  rw [gset_at] at hv
  injection hv with hv
  rw [gne _ _ _ _ (by decide), ← hv]; exact hpi
 rw [edm]
 refine ⟨e0, by simpa using ho0, ⟨wanted_none g0 _, fun w γ hc hD hn hp => ?_⟩, fun u0 _ => ?_⟩
 ·have hpm := hp 7 (by simp)
  rw [gset_at] at hpm
  have hpi := hD.2.2.2.1 _ hpm
  obtain ⟨x, y, z, rfl, hR⟩ := hD.2.2.1 _ hpi
  rw [exec_ext_ p0 (by rw [ev_eq (by simp only [put_szA, hfs]; decide)]) (v := x) rfl w]
  obtain ⟨q1, q2, q3⟩ := pure γ w 8 x (by decide) (by decide) (by decide) ⟨hD.1, hD.2.1, hD.2.2.1⟩
  refine ⟨by simp, hc, q1, q2, q3, fun v hv => ?_, link γ 8 8 x (fun x _ _ => x) (by decide) (fun _ => ⟨x, y, z, hpi, rfl⟩) hD.2.2.2.2.1, link γ 9 8 x (fun _ y _ => y) (by decide) (fun h => absurd h (by decide)) hD.2.2.2.2.2.1, link γ 10 8 x (fun _ _ z => z) (by decide) (fun h => absurd h (by decide)) hD.2.2.2.2.2.2.1, link γ 12 8 x (fun _ y _ => y) (by decide) (fun h => absurd h (by decide)) hD.2.2.2.2.2.2.2.1, link γ 13 8 x (fun _ _ z => z) (by decide) (fun h => absurd h (by decide)) hD.2.2.2.2.2.2.2.2⟩
  rw [gne _ _ _ _ (by decide)] at hv
  rw [gne _ _ _ _ (by decide)]; exact hD.2.2.2.1 v hv
 rw [ed0]
 refine ⟨e1, by simpa using ho1, ⟨wanted_none g1 _, fun w γ hc hD hn hp => ?_⟩, fun u1 _ => ?_⟩
 ·have hpm := hp 7 (by simp)
  rw [gne _ _ _ _ (by decide), gset_at] at hpm
  have hpi := hD.2.2.2.1 _ hpm
  obtain ⟨x, y, z, rfl, hR⟩ := hD.2.2.1 _ hpi
  rw [exec_ext_ p1 (by rw [ev_ne (by decide), ev_eq (by simp only [put_szA, hfs]; decide)]) (v := y) rfl w]
  obtain ⟨q1, q2, q3⟩ := pure γ w 9 y (by decide) (by decide) (by decide) ⟨hD.1, hD.2.1, hD.2.2.1⟩
  refine ⟨by simp, hc, q1, q2, q3, fun v hv => ?_, link γ 8 9 y (fun x _ _ => x) (by decide) (fun h => absurd h (by decide)) hD.2.2.2.2.1, link γ 9 9 y (fun _ y _ => y) (by decide) (fun _ => ⟨x, y, z, hpi, rfl⟩) hD.2.2.2.2.2.1, link γ 10 9 y (fun _ _ z => z) (by decide) (fun h => absurd h (by decide)) hD.2.2.2.2.2.2.1, link γ 12 9 y (fun _ y _ => y) (by decide) (fun h => absurd h (by decide)) hD.2.2.2.2.2.2.2.1, link γ 13 9 y (fun _ _ z => z) (by decide) (fun h => absurd h (by decide)) hD.2.2.2.2.2.2.2.2⟩
  rw [gne _ _ _ _ (by decide)] at hv
  rw [gne _ _ _ _ (by decide)]; exact hD.2.2.2.1 v hv
 rw [ed1]
 refine ⟨e2, by simpa using ho2, ⟨wanted_none g2 _, fun w γ hc hD hn hp => ?_⟩, fun u2 _ => ?_⟩
 ·have hpm := hp 7 (by simp)
  rw [gne _ _ _ _ (by decide), gne _ _ _ _ (by decide), gset_at] at hpm
  have hpi := hD.2.2.2.1 _ hpm
  obtain ⟨x, y, z, rfl, hR⟩ := hD.2.2.1 _ hpi
  rw [exec_ext_ p2 (by rw [ev_ne (by decide), ev_ne (by decide), ev_eq (by simp only [put_szA, hfs]; decide)]) (v := z) rfl w]
  obtain ⟨q1, q2, q3⟩ := pure γ w 10 z (by decide) (by decide) (by decide) ⟨hD.1, hD.2.1, hD.2.2.1⟩
  refine ⟨by simp, hc, q1, q2, q3, fun v hv => ?_, link γ 8 10 z (fun x _ _ => x) (by decide) (fun h => absurd h (by decide)) hD.2.2.2.2.1, link γ 9 10 z (fun _ y _ => y) (by decide) (fun h => absurd h (by decide)) hD.2.2.2.2.2.1, link γ 10 10 z (fun _ _ z => z) (by decide) (fun _ => ⟨x, y, z, hpi, rfl⟩) hD.2.2.2.2.2.2.1, link γ 12 10 z (fun _ y _ => y) (by decide) (fun h => absurd h (by decide)) hD.2.2.2.2.2.2.2.1, link γ 13 10 z (fun _ _ z => z) (by decide) (fun h => absurd h (by decide)) hD.2.2.2.2.2.2.2.2⟩
  rw [gne _ _ _ _ (by decide)] at hv
  rw [gne _ _ _ _ (by decide)]; exact hD.2.2.2.1 v hv
 rw [ed2]
 refine ⟨os, by simpa using hos, ⟨wanted_none gs _, fun w γ hc hD hn hp => ?_⟩, fun us hus => ?_⟩
 ·have h8 := hp 8 (by simp)
  have h6 := hp 6 (by simp)
  have h0 := hp 0 (by simp)
  rw [gne _ _ _ _ (by decide), gne _ _ _ _ (by decide), gset_at] at h8
  rw [gne _ _ _ _ (by decide), gne _ _ _ _ (by decide), gne _ _ _ _ (by decide), gne _ _ _ _ (by decide), gset_at] at h6
  rw [gne _ _ _ _ (by decide), gne _ _ _ _ (by decide), gne _ _ _ _ (by decide), gne _ _ _ _ (by decide), gne _ _ _ _ (by decide), gset_at] at h0
  obtain ⟨x, y, z, rfl, hR⟩ := hD.2.2.1 _ h6
  obtain ⟨x', y', z', h61, hux⟩ := hD.2.2.2.2.1 _ h8
  rw [h6] at h61
  injection h61 with h61
  injection h61 with h61
  injection h61 with h61
  injection h61 with h61 h62
  subst h61 hux
  obtain ⟨cs, rfl, hcs, hc1⟩ := hag _ _ _ _ hR
  have hb := hD.1 hn
  have hpx : ((((((fin.put (some 29) (.agg old)).put (some 35) (.tuple #[.agg cs, y, z])).put (some 28) um).put (some 36) (.agg cs)).put (some 37) u1).put (some 38) u2).eval (.tmp 3) = .pointer (some ⟨g, 0, none⟩) := by
   rw [ev_ne (by decide), ev_ne (by decide), ev_ne (by decide), ev_ne (by decide), ev_ne (by decide), ev_ne (by decide)]; exact hf3
  have hpy : ((((((fin.put (some 29) (.agg old)).put (some 35) (.tuple #[.agg cs, y, z])).put (some 28) um).put (some 36) (.agg cs)).put (some 37) u1).put (some 38) u2).eval (.tmp 36) = .agg cs := by
   rw [ev_ne (by decide), ev_ne (by decide), ev_eq (by simp only [put_szA, hfs]; decide)]
  unfold execOp
  simp only [ps, hpx, hpy, Instr.storeAt, Instr.sureAddr, Sem.run_bind, Sem.run_pure, Result.andThen_ok, run_storeVar_row w g tg ty old cs hb (by rw [hcs]; exact hinf) hcs.symm hc1]
  have hcg : Chg (fun k => k = g) w _ := Chg.row1 cs
  refine ⟨by simp, hc.trans hcg, fun h => (by rw [gset_at] at h; cases h), fun _ => ⟨(by rw [gne _ _ _ _ (by decide), h0]; intro h; cases h), cs, y, z, by rw [gne _ _ _ _ (by decide)]; exact h6, setRow_heap w g old cs tg _ hb⟩, fun v hv => ?_, fun v hv => ?_, link γ 8 11 undef (fun x _ _ => x) (by decide) (fun h => absurd h (by decide)) hD.2.2.2.2.1, link γ 9 11 undef (fun _ y _ => y) (by decide) (fun h => absurd h (by decide)) hD.2.2.2.2.2.1, link γ 10 11 undef (fun _ _ z => z) (by decide) (fun h => absurd h (by decide)) hD.2.2.2.2.2.2.1, link γ 12 11 undef (fun _ y _ => y) (by decide) (fun h => absurd h (by decide)) hD.2.2.2.2.2.2.2.1, link γ 13 11 undef (fun _ _ z => z) (by decide) (fun h => absurd h (by decide)) hD.2.2.2.2.2.2.2.2⟩
  ·rw [gne _ _ _ _ (by decide)] at hv
   obtain ⟨x9, y9, z9, k1, k2⟩ := hD.2.2.1 v hv
   exact ⟨x9, y9, z9, k1, hst _ _ _ _ _ hcg k2⟩
  ·rw [gne _ _ _ _ (by decide)] at hv
   rw [gne _ _ _ _ (by decide)]; exact hD.2.2.2.1 v hv
 rw [eds]
 have hun : ∀ b : Act, ∀ u, b.put none u = b := fun _ _ => rfl
 rw [hun]
 refine ⟨oa, by simpa using hoa, ⟨wanted_none ga _, fun w γ hc hD hn hp => ?_⟩, fun u3 _ => ?_⟩
 ·have hps := hp 9 (by simp)
  rw [gne _ _ _ _ (by decide), gne _ _ _ _ (by decide), gset_at] at hps
  obtain ⟨x, y, z, h6, rfl⟩ := hD.2.2.2.2.2.1 _ hps
  rw [exec_assign_ pa w, ev_ne (by decide), ev_eq (by simp only [put_szA, hfs]; decide)]
  obtain ⟨q1, q2, q3⟩ := pure γ w 12 u1 (by decide) (by decide) (by decide) ⟨hD.1, hD.2.1, hD.2.2.1⟩
  refine ⟨by simp, hc, q1, q2, q3, fun v hv => ?_, link γ 8 12 u1 (fun x _ _ => x) (by decide) (fun h => absurd h (by decide)) hD.2.2.2.2.1, link γ 9 12 u1 (fun _ y _ => y) (by decide) (fun h => absurd h (by decide)) hD.2.2.2.2.2.1, link γ 10 12 u1 (fun _ _ z => z) (by decide) (fun h => absurd h (by decide)) hD.2.2.2.2.2.2.1, link γ 12 12 u1 (fun _ y _ => y) (by decide) (fun _ => ⟨x, u1, z, h6, rfl⟩) hD.2.2.2.2.2.2.2.1, link γ 13 12 u1 (fun _ _ z => z) (by decide) (fun h => absurd h (by decide)) hD.2.2.2.2.2.2.2.2⟩
  rw [gne _ _ _ _ (by decide)] at hv
  rw [gne _ _ _ _ (by decide)]; exact hD.2.2.2.1 v hv
 rw [eda]
 refine ⟨ob, by simpa using hob, ⟨wanted_none gb _, fun w γ hc hD hn hp => ?_⟩, fun u4 _ => ?_⟩
 ·have hps := hp 10 (by simp)
  rw [gne _ _ _ _ (by decide), gne _ _ _ _ (by decide), gset_at] at hps
  obtain ⟨x, y, z, h6, rfl⟩ := hD.2.2.2.2.2.2.1 _ hps
  rw [exec_assign_ pb w, ev_ne (by decide), ev_eq (by simp only [put_szA, hfs]; decide)]
  obtain ⟨q1, q2, q3⟩ := pure γ w 13 u2 (by decide) (by decide) (by decide) ⟨hD.1, hD.2.1, hD.2.2.1⟩
  refine ⟨by simp, hc, q1, q2, q3, fun v hv => ?_, link γ 8 13 u2 (fun x _ _ => x) (by decide) (fun h => absurd h (by decide)) hD.2.2.2.2.1, link γ 9 13 u2 (fun _ y _ => y) (by decide) (fun h => absurd h (by decide)) hD.2.2.2.2.2.1, link γ 10 13 u2 (fun _ _ z => z) (by decide) (fun h => absurd h (by decide)) hD.2.2.2.2.2.2.1, link γ 12 13 u2 (fun _ y _ => y) (by decide) (fun h => absurd h (by decide)) hD.2.2.2.2.2.2.2.1, link γ 13 13 u2 (fun _ _ z => z) (by decide) (fun _ => ⟨x, y, u2, h6, rfl⟩) hD.2.2.2.2.2.2.2.2⟩
  rw [gne _ _ _ _ (by decide)] at hv
  rw [gne _ _ _ _ (by decide)]; exact hD.2.2.2.1 v hv
 rw [edb]
 intro w' hc hD
 have k0 := hD.2.2.1 u (by simp [gset])
 obtain ⟨x, y, z, rfl, hR⟩ := k0
 have k11 := hD.2.1 (by simp [gset])
 have km := hD.2.2.2.1 um (by simp [gset])
 have c0 := hD.2.2.2.2.1 u0 (by simp [gset])
 have c1 := hD.2.2.2.2.2.1 u1 (by simp [gset])
 have c2 := hD.2.2.2.2.2.2.1 u2 (by simp [gset])
 have c3 := hD.2.2.2.2.2.2.2.1 u3 (by simp [gset])
 have c4 := hD.2.2.2.2.2.2.2.2 u4 (by simp [gset])
 simp [gset] at k11 km c0 c1 c2 c3 c4
 obtain ⟨x0, y0, z0, ⟨rfl, rfl, rfl⟩, rfl⟩ := c0
 obtain ⟨x1, y1, z1, ⟨rfl, rfl, rfl⟩, rfl⟩ := c1
 obtain ⟨x2, y2, z2, ⟨rfl, rfl, rfl⟩, rfl⟩ := c2
 obtain ⟨x3, y3, z3, ⟨rfl, rfl, rfl⟩, rfl⟩ := c3
 obtain ⟨x4, y4, z4, ⟨rfl, rfl, rfl⟩, rfl⟩ := c4
 obtain ⟨cs, rfl, hb⟩ := k11
 subst km
 rw [List.drop_of_length_le (by omega)]
 exact hk cs u1 u2 w' hc hR hb
end Go.Proofs.YtehlbomkldnalaaGreat

/- A region that draws: a call that turns what the caller knows, its answer compared, and a store of a whole value beside it. -/
namespace Go.Proofs.YtehlbomkldnalaaGreat
open Go Go.RowKit
theorem wp_region_callA {P : Program} {id : Nat} {Q : Exit → Act → World → Prop} {a : Act} {W : World} {l : List Oper} {g : Nat} {t ty : TypeId} {old cells : Array Value} (S : Nat → Prop) (n i e st : Nat) (ks : List Nat) (u0 v0 : Value) (R0 R : World → Prop) {oi oe os : Oper} {di de : Nat} {f : FuncId} {xs : Array Operand} {ts : Array TypeId} {args : Array Value} {px py : Operand}
  (hm : P.follows .mixedOrders = true) (hB : ownB .any l n ks [i, e, st] = true) (hpB : preB .any l (fun k => if k = e then [i] else if k = st then [i] else []) [i, e, st] = true) (hsl : slotsB (pick l ks) a.tmps.size = true)
  (hie : i ≠ e) (his : i ≠ st) (hes : e ≠ st) (hgS : ¬ S g) (hR0 : R0 W) (h0 : ∀ w w', Below w.heap.size w w' → R0 w → R0 w') (h1 : ∀ w w', Below w.heap.size w w' → R w → R w') (h2 : ∀ w w' cs, Blk w g t cs → Chg (fun k => k = g) w w' → R w → R w')
  (hg : Blk W g t old) (hoi : l[i]? = some oi) (hoe : l[e]? = some oe) (hos : l[st]? = some os) (edi : oi.dst = some di) (ede : oe.dst = some de) (eds : os.dst = none) (ge : oe.guard = none) (gs : os.guard = none) (gi : oi.guard = none)
  (pi : oi.op = .call { callee := .value (.func f), args := xs, argTypes := ts }) (ps : os.op = .store ty px py) (hf : ∀ args w, (callFunc f args).run P w = .ok (.enter f args) w)
  (hinf : (P.info? ty).map (·.size) = some cells.size) (hold : old.size = cells.size) (hc1 : cells.all (·.oneCell') = true)
  (h : ∃ fin : Act, (∀ W1, Chg (fun k => S k ∨ k = g) W W1 → wpQuiet P l.toArray (fun w' => ∃ u : Since W1, w' = u.w) (fun a' => a' = fin) (pick l ks) a) ∧
   xs.map fin.eval = args ∧ (∀ w, Chg (fun k => S k ∨ k = g) W w → R0 w → Calls P f args w fun e w'' => e = .returned u0 ∧ R w'' ∧ Chg S w w'') ∧
   (∀ w, (execOp (fin.put (some di) u0).eval oe).run P w = .ok (.value v0) w) ∧ ((fin.put (some di) u0).put (some de) v0).eval px = .pointer (some ⟨g, 0, none⟩) ∧ ((fin.put (some di) u0).put (some de) v0).eval py = .agg cells ∧
   ∀ w', Chg (fun k => S k ∨ k = g) W w' → R w' → Blk w' g t cells → wpList P l.toArray Q (l.drop n) ((fin.put (some di) u0).put (some de) v0) w') :
  (Code.region id l.toArray true).wp P Q a W := by
 obtain ⟨fin, hq, hargs, hri, hev, hpx, hpy, hk⟩ := h
 have gne : ∀ (γ : Nat → Option Value) (x y : Nat) (u : Value), y ≠ x → gset γ x u y = γ y := fun γ x y u hxy => gset_ne _ _ _ _ hxy
 refine wp_region_own (fun k => S k ∨ k = g) n ks [i, e, st] _ (fun k u => u = if k = i then u0 else if k = e then v0 else undef)
  (fun γ w => (γ i = none → R0 w) ∧ (γ i ≠ none → R w) ∧ (γ st = none → Blk w g t old) ∧ (γ st ≠ none → Blk w g t cells ∧ γ i ≠ none))
  hm hB hpB (fun k hk => ?_) hsl (fun γ w w' hb hD => ?_) ⟨fun _ => h0 _ _ ((Below.refl _ _).drew) hR0, fun h => absurd rfl h, fun _ => hg.drew, fun h => absurd rfl h⟩ (fun k hk => ⟨_, rfl⟩) ⟨fin, hq, ?_⟩
 ·simp only [List.mem_cons, List.not_mem_nil, or_false, not_or] at hk
  simp [hk.2.1, hk.2.2]
 ·exact ⟨fun h => h0 _ _ hb (hD.1 h), fun h => h1 _ _ hb (hD.2.1 h), fun h => (hD.2.2.1 h).below hb (hD.2.2.1 h).lt, fun h => ⟨(hD.2.2.2 h).1.below hb (hD.2.2.2 h).1.lt, (hD.2.2.2 h).2⟩⟩
 refine ⟨oi, by simpa using hoi, ⟨wanted_none gi _, fun w γ hc hD hn _ => ?_⟩, fun u hu => ?_⟩
 ·have hst : γ st = none := by
   cases e9 : γ st with
   | none => rfl
   | some u => exact absurd hn (hD.2.2.2 (by rw [e9]; exact fun h => by cases h)).2
  rw [run_call_fn pi hf w, hargs]
  refine ⟨rfl, (hri w hc (hD.1 hn)).mono ?_⟩
  rintro e1 w'' ⟨he, hR, hcs⟩
  have hb := hD.2.2.1 hst
  refine ⟨_, he, by simp, hc.trans (hcs.mono fun k _ hk => .inl hk), fun h => (by rw [gset_at] at h; cases h), fun _ => hR, fun h => hb.chg hcs hgS, fun h => absurd hst (by rw [gne _ _ _ _ (Ne.symm his)] at h; exact h)⟩
 obtain rfl : u = u0 := by simpa using hu
 rw [edi]
 refine ⟨oe, by simpa using hoe, ⟨wanted_none ge _, fun w γ hc hD hn hp => ?_⟩, fun v hv => ?_⟩
 ·rw [hev w]
  refine ⟨by simp [Ne.symm hie], hc, ?_⟩
  refine ⟨fun h => hD.1 (by rw [gne _ _ _ _ hie] at h; exact h), fun h => hD.2.1 (by rw [gne _ _ _ _ hie] at h; exact h), fun h => hD.2.2.1 (by rw [gne _ _ _ _ (Ne.symm hes)] at h; exact h), fun h => ?_⟩
  rw [gne _ _ _ _ (Ne.symm hes)] at h
  rw [gne _ _ _ _ hie]
  exact hD.2.2.2 h
 obtain rfl : v = v0 := by simpa [Ne.symm hie] using hv
 rw [ede]
 refine ⟨os, by simpa using hos, ⟨wanted_none gs _, fun w γ hc hD hn hp => ?_⟩, fun x hx => ?_⟩
 ·have hpi := hp i (by simp [Ne.symm hes])
  rw [gne _ _ _ _ hie, gset_at] at hpi
  have hin : γ i ≠ none := by rw [hpi]; exact fun h => by cases h
  have hb := hD.2.2.1 hn
  unfold execOp
  simp only [ps, hpx, hpy, Instr.storeAt, Instr.sureAddr, Sem.run_bind, Sem.run_pure, Result.andThen_ok, run_storeVar_row w g t ty old cells hb hinf hold hc1]
  have hcg : Chg (fun k => k = g) w _ := Chg.row1 cells
  refine ⟨by simp [Ne.symm his, Ne.symm hes], hc.trans (hcg.mono fun k _ hk => .inr hk), fun h => absurd (by rw [gne _ _ _ _ his] at h; exact h) hin, fun _ => h2 _ _ _ hb hcg (hD.2.1 hin), fun h => (by rw [gset_at] at h; cases h), fun _ => ⟨setRow_heap w g old cells t _ hb, by rw [gne _ _ _ _ his]; exact hin⟩⟩
 rw [eds]
 intro w' hc hD
 have e1 : ∀ (γ : Nat → Option Value) u, gset γ st u st = some u := fun γ u => gset_at _ _ _
 refine hk w' hc (hD.2.1 ?_) (hD.2.2.2 (by rw [e1]; exact fun h => by cases h)).1
 rw [gne _ _ _ _ his, gne _ _ _ _ hie, gset_at]
 exact fun h => by cases h
end Go.Proofs.YtehlbomkldnalaaGreat

/- The same with a call under a guard. -/
namespace Go.Proofs.YtehlbomkldnalaaGreat
open Go Go.RowKit
theorem wp_region_callG {P : Program} {id : Nat} {Q : Exit → Act → World → Prop} {a : Act} {W : World} {l : List Oper} {g : Nat} {t ty : TypeId} {old cells : Array Value} (S : Nat → Prop) (n i e st : Nat) (ks : List Nat) (u0 v0 : Value) (R0 R : World → Prop) {oi oe os : Oper} {di de : Nat} {f : FuncId} {xs : Array Operand} {ts : Array TypeId} {args : Array Value} {px py : Operand}
  (hm : P.follows .mixedOrders = true) (hB : ownB .any l n ks [i, e, st] = true) (hpB : preB .any l (fun k => if k = e then [i] else if k = st then [i] else []) [i, e, st] = true) (hsl : slotsB (pick l ks) a.tmps.size = true)
  (hie : i ≠ e) (his : i ≠ st) (hes : e ≠ st) (hgS : ¬ S g) (hR0 : R0 W) (h0 : ∀ w w', Below w.heap.size w w' → R0 w → R0 w') (h1 : ∀ w w', Below w.heap.size w w' → R w → R w') (h2 : ∀ w w' cs, Blk w g t cs → Chg (fun k => k = g) w w' → R w → R w')
  (hg : Blk W g t old) (hoi : l[i]? = some oi) (hoe : l[e]? = some oe) (hos : l[st]? = some os) (edi : oi.dst = some di) (ede : oe.dst = some de) (eds : os.dst = none) (ge : oe.guard = none) (gs : os.guard = none)
  (pi : oi.op = .call { callee := .value (.func f), args := xs, argTypes := ts }) (ps : os.op = .store ty px py) (hf : ∀ args w, (callFunc f args).run P w = .ok (.enter f args) w)
  (hinf : (P.info? ty).map (·.size) = some cells.size) (hold : old.size = cells.size) (hc1 : cells.all (·.oneCell') = true)
  (h : ∃ fin : Act, (∀ W1, Chg (fun k => S k ∨ k = g) W W1 → wpQuiet P l.toArray (fun w' => ∃ u : Since W1, w' = u.w) (fun a' => a' = fin) (pick l ks) a) ∧
   xs.map fin.eval = args ∧ Region.wanted oi (yielded l.toArray fin.tmps) = true ∧ (∀ w, Chg (fun k => S k ∨ k = g) W w → R0 w → Calls P f args w fun e w'' => e = .returned u0 ∧ R w'' ∧ Chg S w w'') ∧
   (∀ w, (execOp (fin.put (some di) u0).eval oe).run P w = .ok (.value v0) w) ∧ ((fin.put (some di) u0).put (some de) v0).eval px = .pointer (some ⟨g, 0, none⟩) ∧ ((fin.put (some di) u0).put (some de) v0).eval py = .agg cells ∧
   ∀ w', Chg (fun k => S k ∨ k = g) W w' → R w' → Blk w' g t cells → wpList P l.toArray Q (l.drop n) ((fin.put (some di) u0).put (some de) v0) w') :
  (Code.region id l.toArray true).wp P Q a W := by
 obtain ⟨fin, hq, hargs, hwi, hri, hev, hpx, hpy, hk⟩ := h
 have gne : ∀ (γ : Nat → Option Value) (x y : Nat) (u : Value), y ≠ x → gset γ x u y = γ y := fun γ x y u hxy => gset_ne _ _ _ _ hxy
 refine wp_region_own (fun k => S k ∨ k = g) n ks [i, e, st] _ (fun k u => u = if k = i then u0 else if k = e then v0 else undef)
  (fun γ w => (γ i = none → R0 w) ∧ (γ i ≠ none → R w) ∧ (γ st = none → Blk w g t old) ∧ (γ st ≠ none → Blk w g t cells ∧ γ i ≠ none))
  hm hB hpB (fun k hk => ?_) hsl (fun γ w w' hb hD => ?_) ⟨fun _ => h0 _ _ ((Below.refl _ _).drew) hR0, fun h => absurd rfl h, fun _ => hg.drew, fun h => absurd rfl h⟩ (fun k hk => ⟨_, rfl⟩) ⟨fin, hq, ?_⟩
 ·simp only [List.mem_cons, List.not_mem_nil, or_false, not_or] at hk
  simp [hk.2.1, hk.2.2]
 ·exact ⟨fun h => h0 _ _ hb (hD.1 h), fun h => h1 _ _ hb (hD.2.1 h), fun h => (hD.2.2.1 h).below hb (hD.2.2.1 h).lt, fun h => ⟨(hD.2.2.2 h).1.below hb (hD.2.2.2 h).1.lt, (hD.2.2.2 h).2⟩⟩
 refine ⟨oi, by simpa using hoi, ⟨hwi, fun w γ hc hD hn _ => ?_⟩, fun u hu => ?_⟩
 ·have hst : γ st = none := by
   cases e9 : γ st with
   | none => rfl
   | some u => exact absurd hn (hD.2.2.2 (by rw [e9]; exact fun h => by cases h)).2
  rw [run_call_fn pi hf w, hargs]
  refine ⟨rfl, (hri w hc (hD.1 hn)).mono ?_⟩
  rintro e1 w'' ⟨he, hR, hcs⟩
  have hb := hD.2.2.1 hst
  refine ⟨_, he, by simp, hc.trans (hcs.mono fun k _ hk => .inl hk), fun h => (by rw [gset_at] at h; cases h), fun _ => hR, fun h => hb.chg hcs hgS, fun h => absurd hst (by rw [gne _ _ _ _ (Ne.symm his)] at h; exact h)⟩
 obtain rfl : u = u0 := by simpa using hu
 rw [edi]
 refine ⟨oe, by simpa using hoe, ⟨wanted_none ge _, fun w γ hc hD hn hp => ?_⟩, fun v hv => ?_⟩
 ·rw [hev w]
  refine ⟨by simp [Ne.symm hie], hc, ?_⟩
  refine ⟨fun h => hD.1 (by rw [gne _ _ _ _ hie] at h; exact h), fun h => hD.2.1 (by rw [gne _ _ _ _ hie] at h; exact h), fun h => hD.2.2.1 (by rw [gne _ _ _ _ (Ne.symm hes)] at h; exact h), fun h => ?_⟩
  rw [gne _ _ _ _ (Ne.symm hes)] at h
  rw [gne _ _ _ _ hie]
  exact hD.2.2.2 h
 obtain rfl : v = v0 := by simpa [Ne.symm hie] using hv
 rw [ede]
 refine ⟨os, by simpa using hos, ⟨wanted_none gs _, fun w γ hc hD hn hp => ?_⟩, fun x hx => ?_⟩
 ·have hpi := hp i (by simp [Ne.symm hes])
  rw [gne _ _ _ _ hie, gset_at] at hpi
  have hin : γ i ≠ none := by rw [hpi]; exact fun h => by cases h
  have hb := hD.2.2.1 hn
  unfold execOp
  simp only [ps, hpx, hpy, Instr.storeAt, Instr.sureAddr, Sem.run_bind, Sem.run_pure, Result.andThen_ok, run_storeVar_row w g t ty old cells hb hinf hold hc1]
  have hcg : Chg (fun k => k = g) w _ := Chg.row1 cells
  refine ⟨by simp [Ne.symm his, Ne.symm hes], hc.trans (hcg.mono fun k _ hk => .inr hk), fun h => absurd (by rw [gne _ _ _ _ his] at h; exact h) hin, fun _ => h2 _ _ _ hb hcg (hD.2.1 hin), fun h => (by rw [gset_at] at h; cases h), fun _ => ⟨setRow_heap w g old cells t _ hb, by rw [gne _ _ _ _ his]; exact hin⟩⟩
 rw [eds]
 intro w' hc hD
 have e1 : ∀ (γ : Nat → Option Value) u, gset γ st u st = some u := fun γ u => gset_at _ _ _
 refine hk w' hc (hD.2.1 ?_) (hD.2.2.2 (by rw [e1]; exact fun h => by cases h)).1
 rw [gne _ _ _ _ his, gne _ _ _ _ hie, gset_at]
 exact fun h => by cases h
end Go.Proofs.YtehlbomkldnalaaGreat

/- A region that draws: reads, and twice a call whose value goes to a second call; the second calls hand back one value. -/
namespace Go.Proofs.YtehlbomkldnalaaGreat
open Go Go.RowKit
/-- the operations of a list are all wanted, where they yield what vs tells -/
def AllW (ops : Array Oper) (vs : Nat → Value) (fin : Act) : List Nat → Act → Prop
 | [], _ => True
 | k :: ks, a => ∃ o d, ops[k]? = some o ∧ o.dst = some d ∧ fin.tmps.getD d undef = vs k ∧ Region.wanted o (yielded ops a.tmps) = true ∧ AllW ops vs fin ks (a.put (some d) (vs k))
theorem pick_ok (l : List Oper) : ∀ (ks : List Nat), (∀ k ∈ ks, k < l.length) → ks.length = (pick l ks).length ∧ ∀ (j : Nat) k, ks[j]? = some k → l.toArray[k]? = (pick l ks)[j]? := by
 intro ks
 induction ks with
 | nil => intro _; exact ⟨rfl, fun j k h => by simp at h⟩
 | cons k ks ih =>
  intro hlt
  obtain ⟨i1, i2⟩ := ih fun k hk => hlt k (by simp [hk])
  have hk := hlt k (by simp)
  have he : pick l (k :: ks) = l[k] :: pick l ks := by simp [pick, hk]
  rw [he]
  refine ⟨by simp [i1], fun j k' hj => ?_⟩
  cases j with
  | zero => simp at hj; subst hj; simp [hk]
  | succ j => simpa using i2 j k' (by simpa using hj)
def gsets (vs : Nat → Value) (γ : Nat → Option Value) (ks : List Nat) : Nat → Option Value := ks.foldl (fun γ k => gset γ k (vs k)) γ
theorem ownWalk_quiets {P : Program} {ops : Array Oper} {S : Nat → Prop} {W : World} {D : (Nat → Option Value) → World → Prop} {Vo : Nat → Value → Prop} {pre : Nat → List Nat} {fn : Act → (Nat → Option Value) → Prop} (vs : Nat → Value) (hst : ∀ γ w w', Below w.heap.size w w' → D γ w → D γ w') {fin : Act} (os : List Nat) :
  ∀ (seg : List Nat) (l : List Oper) (a : Act) (γ : Nat → Option Value), seg.length = l.length → (∀ (j : Nat) k, seg[j]? = some k → ops[k]? = l[j]?) → slotsB l a.tmps.size = true → (∀ k ∈ seg, ∀ u, Vo k u ↔ u = vs k) → (∀ k ∈ seg, ∀ γ w u, D γ w → D (gset γ k u) w) →
  (∀ W1, Chg S W W1 → wpQuiet P ops (fun w' => ∃ u : Since W1, w' = u.w) (fun a' => a' = fin) l a) → AllW ops vs fin seg a → ownWalk P ops S W D Vo pre fn os fin (gsets vs γ seg) → ownWalk P ops S W D Vo pre fn (seg ++ os) a γ
 | [], [], a, γ, _, _, _, _, _, hq, _, hk => by
  have : a = fin := hq W (Chg.refl _ _)
  rw [this]; exact hk
 | [], _ :: _, _, _, h0, _, _, _, _, _, _, _ => by simp at h0
 | _ :: _, [], _, _, h0, _, _, _, _, _, _, _ => by simp at h0
 | k :: ks, o :: l, a, γ, h0, hk0, hs, hVo, hD, hq, hW, hk => by
  have ho : ops[k]? = some o := by simpa using hk0 0 k rfl
  obtain ⟨o', d, ho', hd, hvd, hwant, hW'⟩ := hW
  obtain rfl : o' = o := Option.some.inj (ho'.symm.trans ho)
  simp only [slotsB, Bool.and_eq_true, List.all_cons, decide_eq_true_eq] at hs
  obtain ⟨⟨hs1, hs2⟩, hs3⟩ := hs
  have hs4 : (l.filterMap (·.dst)).Nodup := by
   rw [List.filterMap_cons, hd] at hs3
   exact (List.nodup_cons.1 hs3).2
  have ht : d ∉ l.filterMap (·.dst) := by
   rw [List.filterMap_cons, hd] at hs3
   exact (List.nodup_cons.1 hs3).1
  have hlt : d < a.tmps.size := by rw [hd] at hs1; simpa using hs1
  have hval : ∀ W1 u, wpQuiet P ops (fun w' => ∃ u : Since W1, w' = u.w) (fun a' => a' = fin) l (a.put o'.dst u) → u = vs k := fun W1 u hqq => by
   rw [hd] at hqq
   have h5 := quiet_slot l _ d ht hqq
   have h6 : (a.put (some d) u).tmps[d]? = some u := by simp [Act.put, hlt]
   rw [h6] at h5
   rw [← hvd, Array.getD_eq_getD_getElem?, h5]; rfl
  have step : ∀ W1, Chg S W W1 → ∃ u, (∀ w, (∃ u : Since W1, w = u.w) → o'.quietAt P a (fun w' => ∃ u : Since W1, w' = u.w) w u) ∧ wpQuiet P ops (fun w' => ∃ u : Since W1, w' = u.w) (fun a' => a' = fin) l (a.put o'.dst u) := fun W1 hW1 => by
   have h1 := hq W1 hW1
   unfold wpQuiet at h1
   rw [if_pos hwant] at h1
   exact h1
  refine ⟨o', ho, ⟨hwant, fun w γ2 hc hDw hn hp => ?_⟩, fun u hu => ?_⟩
  ·obtain ⟨u, hu, hn'⟩ := step w hc
   obtain rfl := hval w u hn'
   have h2 := hu w ⟨⟨w, Below.refl _ _⟩, rfl⟩
   unfold Oper.quietAt at h2
   have hV := (hVo k (List.mem_cons_self ..) (vs k)).2 rfl
   have hDk := hD k (List.mem_cons_self ..) γ2 w (vs k) hDw
   generalize (execOp a.eval o').run P w = r at *
   cases r with
   | ok n w' =>
    cases n <;> simp only [Oper.quietUpon] at h2 <;> simp only [ownUpon]
    case value x =>
     obtain ⟨rfl, rfl⟩ := h2
     exact ⟨hV, hc, hDk⟩
    case skip =>
     obtain ⟨rfl, h3⟩ := h2
     rw [h3] at hV hDk
     exact ⟨hV, hc, hDk⟩
    case enter f args => exact ⟨h2.1, h2.2.mono fun e w'' ⟨he, u', hu'⟩ => ⟨vs k, he, hV, hc.trans (.of_below (hu' ▸ u'.h)), hst _ w w'' (hu' ▸ u'.h) hDk⟩⟩
   | halt x w' => simp only [Oper.quietUpon] at h2
  ·obtain rfl := (hVo k (List.mem_cons_self ..) u).1 hu
   refine ownWalk_quiets vs hst os ks l _ _ (by simpa using h0) (fun j k' hj => by simpa using hk0 (j + 1) k' hj) (by rw [put_size]; simp only [slotsB, Bool.and_eq_true, decide_eq_true_eq]; exact ⟨hs2, hs4⟩) (fun k' hk' => hVo k' (List.mem_cons_of_mem _ hk')) (fun k' hk' => hD k' (List.mem_cons_of_mem _ hk')) (fun W1 hW1 => ?_) (by rw [hd]; exact hW') hk
   obtain ⟨u, hu, hn'⟩ := step W1 hW1
   obtain rfl := hval W1 u hn'
   exact hn'
def PairD (i j : Nat) (R : Value → World → Prop) (γ : Nat → Option Value) (w : World) : Prop := (∀ u, γ i = some u → γ j = none → R u w) ∧ (γ i = none → γ j = none)
theorem PairD.other {i j k : Nat} {R : Value → World → Prop} {γ : Nat → Option Value} {w w' : World} (h : PairD i j R γ w) (u : Value) (h1 : k ≠ i) (h2 : k ≠ j) (hst : ∀ u, R u w → R u w') : PairD i j R (gset γ k u) w' := by
 unfold PairD
 rw [gset_ne _ _ _ _ (Ne.symm h1), gset_ne _ _ _ _ (Ne.symm h2)]
 exact ⟨fun v hv hj => hst v (h.1 v hv hj), h.2⟩
theorem PairD.prod {i j : Nat} {R : Value → World → Prop} {γ : Nat → Option Value} {w : World} {u : Value} (hR : R u w) : PairD i j R (gset γ i u) w := by
 unfold PairD
 rw [gset_at]
 exact ⟨fun v hv _ => by injection hv with hv; rw [← hv]; exact hR, fun hv => by cases hv⟩
theorem PairD.cons {i j : Nat} {R : Value → World → Prop} {γ : Nat → Option Value} {w : World} {u v : Value} (hij : i ≠ j) (hi : γ i = some u) : PairD i j R (gset γ j v) w := by
 unfold PairD
 rw [gset_at, gset_ne _ _ _ _ hij, hi]
 exact ⟨(fun _ _ h => by cases h), (fun h => by cases h)⟩
theorem wp_region_pairs {P : Program} {id : Nat} {Q : Exit → Act → World → Prop} {a : Act} {W : World} {l : List Oper} (n i1 j1 i2 j2 : Nat) (ks seg1 seg2 : List Nat) (vs : Nat → Value) (R1 R2 : Value → World → Prop) (V1 V2 : Value → Prop) (args2 args4 : Value → Array Value)
  {o1 o2 o3 o4 : Oper} {d1 d2 d3 d4 : Nat} {f1 f2 f3 f4 : FuncId} {xs1 xs2 xs3 xs4 : Array Operand} {ts1 ts2 ts3 ts4 : Array TypeId} {args1 args3 : Array Value}
  (hm : P.follows .mixedOrders = true) (hB : ownB .any l n ks (i1 :: j1 :: (seg1 ++ (i2 :: j2 :: seg2))) = true) (hpB : preB .any l (fun k => if k == j1 then [i1] else if k == j2 then [i2] else []) (i1 :: j1 :: (seg1 ++ (i2 :: j2 :: seg2))) = true) (hsl : slotsB (pick l ks) a.tmps.size = true)
  (hne : i1 ≠ j1 ∧ i1 ≠ i2 ∧ i1 ≠ j2 ∧ j1 ≠ i2 ∧ j1 ≠ j2 ∧ i2 ≠ j2) (hs1 : ∀ k ∈ seg1, k ≠ i1 ∧ k ≠ j1 ∧ k ≠ i2 ∧ k ≠ j2) (hs2 : ∀ k ∈ seg2, k ≠ i1 ∧ k ≠ j1 ∧ k ≠ i2 ∧ k ≠ j2) (hl1 : ∀ k ∈ seg1, k < l.length) (hl2 : ∀ k ∈ seg2, k < l.length)
  (ht1 : ∀ u w w', Below w.heap.size w w' → R1 u w → R1 u w') (ht2 : ∀ u w w', Below w.heap.size w w' → R2 u w → R2 u w') (hV1 : ∀ u w, R1 u w → V1 u) (hV2 : ∀ u w, R2 u w → V2 u) (hv1 : ∃ u, V1 u) (hv2 : ∃ u, V2 u)
  (ho1 : l[i1]? = some o1) (ho2 : l[j1]? = some o2) (ho3 : l[i2]? = some o3) (ho4 : l[j2]? = some o4) (e1 : o1.dst = some d1) (e2 : o2.dst = some d2) (e3 : o3.dst = some d3) (e4 : o4.dst = some d4)
  (p1 : o1.op = .call { callee := .value (.func f1), args := xs1, argTypes := ts1 }) (p2 : o2.op = .call { callee := .value (.func f2), args := xs2, argTypes := ts2 }) (p3 : o3.op = .call { callee := .value (.func f3), args := xs3, argTypes := ts3 }) (p4 : o4.op = .call { callee := .value (.func f4), args := xs4, argTypes := ts4 })
  (q1 : ∀ args w, (callFunc f1 args).run P w = .ok (.enter f1 args) w) (q2 : ∀ args w, (callFunc f2 args).run P w = .ok (.enter f2 args) w) (q3 : ∀ args w, (callFunc f3 args).run P w = .ok (.enter f3 args) w) (q4 : ∀ args w, (callFunc f4 args).run P w = .ok (.enter f4 args) w)
  (h : ∃ fin : Act, (∀ W1, Below W.heap.size W W1 → wpQuiet P l.toArray (fun w' => ∃ u : Since W1, w' = u.w) (fun a' => a' = fin) (pick l ks) a) ∧
   xs1.map fin.eval = args1 ∧ Region.wanted o1 (yielded l.toArray fin.tmps) = true ∧ (∀ w, Below W.heap.size W w → Calls P f1 args1 w fun e w'' => ∃ u, e = .returned u ∧ R1 u w'' ∧ Below w.heap.size w w'') ∧
   ∀ u1, V1 u1 → Region.wanted o2 (yielded l.toArray (fin.put (some d1) u1).tmps) = true ∧ xs2.map (fin.put (some d1) u1).eval = args2 u1 ∧ (∀ w, Below W.heap.size W w → R1 u1 w → Calls P f2 (args2 u1) w fun e w'' => e = .returned (vs j1) ∧ Below w.heap.size w w'') ∧
   ∃ fin1 : Act, (∀ W1, Below W.heap.size W W1 → wpQuiet P l.toArray (fun w' => ∃ u : Since W1, w' = u.w) (fun a' => a' = fin1) (pick l seg1) ((fin.put (some d1) u1).put (some d2) (vs j1))) ∧ slotsB (pick l seg1) ((fin.put (some d1) u1).put (some d2) (vs j1)).tmps.size = true ∧ AllW l.toArray vs fin1 seg1 ((fin.put (some d1) u1).put (some d2) (vs j1)) ∧
   xs3.map fin1.eval = args3 ∧ Region.wanted o3 (yielded l.toArray fin1.tmps) = true ∧ (∀ w, Below W.heap.size W w → Calls P f3 args3 w fun e w'' => ∃ u, e = .returned u ∧ R2 u w'' ∧ Below w.heap.size w w'') ∧
   ∀ u2, V2 u2 → Region.wanted o4 (yielded l.toArray (fin1.put (some d3) u2).tmps) = true ∧ xs4.map (fin1.put (some d3) u2).eval = args4 u2 ∧ (∀ w, Below W.heap.size W w → R2 u2 w → Calls P f4 (args4 u2) w fun e w'' => e = .returned (vs j2) ∧ Below w.heap.size w w'') ∧
   ∃ fin2 : Act, (∀ W1, Below W.heap.size W W1 → wpQuiet P l.toArray (fun w' => ∃ u : Since W1, w' = u.w) (fun a' => a' = fin2) (pick l seg2) ((fin1.put (some d3) u2).put (some d4) (vs j2))) ∧ slotsB (pick l seg2) ((fin1.put (some d3) u2).put (some d4) (vs j2)).tmps.size = true ∧ AllW l.toArray vs fin2 seg2 ((fin1.put (some d3) u2).put (some d4) (vs j2)) ∧
   ∀ w', Below W.heap.size W w' → wpList P l.toArray Q (l.drop n) fin2 w') :
  (Code.region id l.toArray true).wp P Q a W := by
 obtain ⟨n1, n2, n3, n4, n5, n6⟩ := hne
 obtain ⟨fin, hq, ha1, hw1, hc1, h⟩ := h
 have hst : ∀ (γ : Nat → Option Value) (w w' : World), Below w.heap.size w w' → (PairD i1 j1 R1 γ w ∧ PairD i2 j2 R2 γ w) → (PairD i1 j1 R1 γ w' ∧ PairD i2 j2 R2 γ w') := fun γ w w' hb hD =>
  ⟨⟨fun u hu hj => ht1 u w w' hb (hD.1.1 u hu hj), hD.1.2⟩, ⟨fun u hu hj => ht2 u w w' hb (hD.2.1 u hu hj), hD.2.2⟩⟩
 have hVs : ∀ k, k ≠ i1 → k ≠ i2 → ∀ u, ((k = i1 → V1 u) ∧ (k = i2 → V2 u) ∧ (k ≠ i1 → k ≠ i2 → u = vs k)) ↔ u = vs k := fun k h1 h2 u => ⟨fun hh => hh.2.2 h1 h2, fun hh => ⟨fun e => absurd e h1, fun e => absurd e h2, fun _ _ => hh⟩⟩
 refine wp_region_own noS n ks (i1 :: j1 :: (seg1 ++ (i2 :: j2 :: seg2))) (fun k => if k == j1 then [i1] else if k == j2 then [i2] else []) (fun k u => (k = i1 → V1 u) ∧ (k = i2 → V2 u) ∧ (k ≠ i1 → k ≠ i2 → u = vs k))
  (fun γ w => PairD i1 j1 R1 γ w ∧ PairD i2 j2 R2 γ w) hm hB hpB (fun k hk => ?_) hsl hst ⟨⟨fun _ h => (by cases h), fun _ => rfl⟩, ⟨fun _ h => (by cases h), fun _ => rfl⟩⟩ (fun k _ => ?_) ⟨fin, fun W1 hc => hq W1 hc.noS_, ?_⟩
 ·have h1 : k ≠ j1 := fun e => hk (by simp [e])
  have h2 : k ≠ j2 := fun e => hk (by simp [e])
  simp [h1, h2]
 ·obtain ⟨u, hu⟩ := hv1
  obtain ⟨v, hv⟩ := hv2
  by_cases h1 : k = i1
  ·exact ⟨u, fun _ => hu, fun e => absurd (h1.symm.trans e) n2, fun e => absurd h1 e⟩
  ·by_cases h2 : k = i2
   ·exact ⟨v, fun e => absurd e h1, fun _ => hv, fun _ e => absurd h2 e⟩
   ·exact ⟨vs k, fun e => absurd e h1, fun e => absurd e h2, fun _ _ => rfl⟩
 refine ⟨o1, by simpa using ho1, ⟨hw1, fun w γ hc hD hn _ => ?_⟩, fun u1 hu1 => ?_⟩
 ·rw [run_call_fn p1 q1 w, ha1]
  refine ⟨rfl, (hc1 w hc.noS_).mono ?_⟩
  rintro e w'' ⟨u, he, hR, hb⟩
  exact ⟨u, he, ⟨fun _ => hV1 _ _ hR, fun e => absurd e n2, fun e => absurd rfl e⟩, hc.trans (.of_below hb), PairD.prod hR, hD.2.other u n2 n3 fun v => ht2 v w w'' hb⟩
 rw [e1]
 obtain ⟨hw2, ha2, hc2, fin1, hq1, s3, s4, ha3, hw3, hc3, h⟩ := h u1 (hu1.1 rfl)
 refine ⟨o2, by simpa using ho2, ⟨hw2, fun w γ hc hD hn hp => ?_⟩, fun v1 hv1' => ?_⟩
 ·have hp0 := hp i1 (by simp)
  rw [gset_at] at hp0
  rw [run_call_fn p2 q2 w, ha2]
  refine ⟨rfl, (hc2 w hc.noS_ (hD.1.1 u1 hp0 hn)).mono ?_⟩
  rintro e w'' ⟨he, hb⟩
  exact ⟨_, he, (hVs j1 (Ne.symm n1) n4 _).2 rfl, hc.trans (.of_below hb), PairD.cons n1 hp0, hD.2.other _ n4 n5 fun v => ht2 v w w'' hb⟩
 rw [e2]
 obtain rfl := (hVs j1 (Ne.symm n1) n4 v1).1 hv1'
 refine ownWalk_quiets vs hst (i2 :: j2 :: seg2) seg1 (pick l seg1) _ _ (pick_ok l seg1 hl1).1 (pick_ok l seg1 hl1).2 s3 (fun k hk => hVs k (hs1 k hk).1 (hs1 k hk).2.2.1) (fun k hk γ w u hD => ⟨hD.1.other u (hs1 k hk).1 (hs1 k hk).2.1 fun _ h => h, hD.2.other u (hs1 k hk).2.2.1 (hs1 k hk).2.2.2 fun _ h => h⟩) (fun W1 hc => hq1 W1 hc.noS_) s4 ?_
 refine ⟨o3, by simpa using ho3, ⟨hw3, fun w γ hc hD hn _ => ?_⟩, fun u2 hu2 => ?_⟩
 ·rw [run_call_fn p3 q3 w, ha3]
  refine ⟨rfl, (hc3 w hc.noS_).mono ?_⟩
  rintro e w'' ⟨u, he, hR, hb⟩
  exact ⟨u, he, ⟨fun e => absurd e (Ne.symm n2), fun _ => hV2 _ _ hR, fun _ e => absurd rfl e⟩, hc.trans (.of_below hb), hD.1.other u (Ne.symm n2) (Ne.symm n4) (fun v => ht1 v w w'' hb), PairD.prod hR⟩
 rw [e3]
 obtain ⟨hw4, ha4, hc4, fin2, hq2, s3, s4, h⟩ := h u2 (hu2.2.1 rfl)
 refine ⟨o4, by simpa using ho4, ⟨hw4, fun w γ hc hD hn hp => ?_⟩, fun v2 hv2' => ?_⟩
 ·have hp0 := hp i2 (by simp [Ne.symm n5])
  rw [gset_at] at hp0
  rw [run_call_fn p4 q4 w, ha4]
  refine ⟨rfl, (hc4 w hc.noS_ (hD.2.1 u2 hp0 hn)).mono ?_⟩
  rintro e w'' ⟨he, hb⟩
  exact ⟨_, he, (hVs j2 (Ne.symm n3) (Ne.symm n6) _).2 rfl, hc.trans (.of_below hb), hD.1.other _ (Ne.symm n3) (Ne.symm n5) (fun v => ht1 v w w'' hb), PairD.cons n6 hp0⟩
 rw [e4]
 obtain rfl := (hVs j2 (Ne.symm n3) (Ne.symm n6) v2).1 hv2'
 have hnil : seg2 = seg2 ++ [] := by simp
 rw [hnil]
 refine ownWalk_quiets vs hst [] seg2 (pick l seg2) _ _ (pick_ok l seg2 hl2).1 (pick_ok l seg2 hl2).2 s3 (fun k hk => hVs k (hs2 k hk).1 (hs2 k hk).2.2.1) (fun k hk γ w u hD => ⟨hD.1.other u (hs2 k hk).1 (hs2 k hk).2.1 fun _ h => h, hD.2.other u (hs2 k hk).2.2.1 (hs2 k hk).2.2.2 fun _ h => h⟩) (fun W1 hc => hq2 W1 hc.noS_) s4 ?_
 exact ownWalk_nil fun w' hc hD => h w' hc.noS_
end Go.Proofs.YtehlbomkldnalaaGreat

/- Regions of SheetCopies: a call of both stores, whose next store goes back where it was loaded. -/
namespace Go.Proofs.YtehlbomkldnalaaGreat
open Go Go.RowKit
abbrev cpL (x : Option Nat) : List Nat := 1 :: 6 :: 7 :: 8 :: 9 :: 10 :: (if x.isSome then [11] else [])
def cpN (x : Option Nat) : Nat := match x with
 | none => 11
 | some _ => 12
def cpAct (x : Option Nat) (b : Act) (v : Value) : Act := match x with
 | none => b
 | some d => b.put (some d) v
theorem wp_region_cop {P : Program} {id : Nat} {Q : Exit → Act → World → Prop} {a : Act} {W : World} {l : List Oper} {g : Nat} {ty tg : TypeId} {old : Array Value} (x : Option Nat) (S : Nat → Prop) (R0 : World → Prop) (RR : Value → Value → World → Prop) {ol oi om e0 e1 os : Oper} {f : FuncId} {xs : Array Operand} {ts : Array TypeId} {args : Array Value} (tb dl di dm d0 d1 : Nat)
  (hm : P.follows .mixedOrders = true) (hB : ownB .any l (cpN x) [0, 2, 3, 4, 5] (cpL x) = true)
  (hpB : preB .any l (fun k => match k with | 6 => [1] | 7 => [6] | 8 => [7] | 9 => [7] | 10 => [8, 6, 1] | 11 => (if x.isSome then [9] else []) | _ => []) (cpL x) = true) (hsl : slotsB (pick l [0, 2, 3, 4, 5]) a.tmps.size = true)
  (h0 : ∀ w w', Below w.heap.size w w' → R0 w → R0 w') (h1 : ∀ u v w w', Below w.heap.size w w' → RR u v w → RR u v w')
  (hch : ∀ u v w w' cs, Blk w g tg cs → Chg (fun k => k = g) w w' → RR u v w → RR u v w')
  (hag : ∀ u v w, RR u v w → ∃ cs, u = .agg cs ∧ cs.size = old.size ∧ cs.all (·.oneCell') = true) (hS : ¬ S g)
  (hol : l[1]? = some ol) (hoi : l[6]? = some oi) (hom : l[7]? = some om) (ho0 : l[8]? = some e0) (ho1 : l[9]? = some e1) (hos : l[10]? = some os) (hoa : ∀ d, x = some d → ∃ o, l[11]? = some o ∧ o.dst = some d ∧ o.guard = none ∧ o.op = .assign (.tmp d1))
  (edl : ol.dst = some dl) (edi : oi.dst = some di) (edm : om.dst = some dm) (ed0 : e0.dst = some d0) (ed1 : e1.dst = some d1) (eds : os.dst = none)
  (gl : ol.guard = none) (gi : oi.guard = none) (gm : om.guard = none) (g0 : e0.guard = none) (g1 : e1.guard = none) (gs : os.guard = none)
  (pi : oi.op = .call { callee := .value (.func f), args := xs, argTypes := ts }) (pm : om.op = .move (.tmp di)) (p0 : e0.op = .extract (.tmp dm) 0) (p1 : e1.op = .extract (.tmp dm) 1) (ps : os.op = .store ty (.tmp tb) (.tmp d0))
  (hsz : di < a.tmps.size ∧ dm < a.tmps.size ∧ d0 < a.tmps.size ∧ d1 < a.tmps.size) (hne : dm ≠ d0 ∧ d0 ≠ d1) (htb : tb ≠ dl ∧ tb ≠ di ∧ tb ≠ dm ∧ tb ≠ d0 ∧ tb ≠ d1) (hg : Blk W g tg old) (hinf : (P.info? ty).map (·.size) = some old.size) (hR0 : R0 W)
  (hld : ∀ w, Blk w g tg old → ∀ ev : Operand → Value, ev (.tmp tb) = .pointer (some ⟨g, 0, none⟩) → (execOp ev ol).run P w = .ok (.value (.agg old)) w)
  (hf : ∀ args w, (callFunc f args).run P w = .ok (.enter f args) w)
  (h : ∃ fin : Act, (∀ W1, Chg (fun k => S k ∨ k = g) W W1 → wpQuiet P l.toArray (fun w' => ∃ u : Since W1, w' = u.w) (fun a' => a' = fin) (pick l [0, 2, 3, 4, 5]) a) ∧ fin.tmps.size = a.tmps.size ∧ fin.eval (.tmp tb) = .pointer (some ⟨g, 0, none⟩) ∧
   xs.map (fin.put (some dl) (.agg old)).eval = args ∧ (∀ w, Chg (fun k => S k ∨ k = g) W w → R0 w → Calls P f args w fun e w'' => ∃ u v, e = .returned (.tuple #[u, v]) ∧ RR u v w'' ∧ Chg S w w'') ∧
   ∀ cs v w', Chg (fun k => S k ∨ k = g) W w' → RR (.agg cs) v w' → Blk w' g tg cs → wpList P l.toArray Q (l.drop (cpN x)) (cpAct x (((((fin.put (some dl) (.agg old)).put (some di) (.tuple #[.agg cs, v])).put (some dm) (.tuple #[.agg cs, v])).put (some d0) (.agg cs)).put (some d1) v) v) w') :
  (Code.region id l.toArray true).wp P Q a W := by
 obtain ⟨fin, hq, hfs, hf3, hargs, hri, hk⟩ := h
 obtain ⟨s1, s2, s3, s4⟩ := hsz
 obtain ⟨n1, n2⟩ := hne
 obtain ⟨b1, b2, b3, b4, b5⟩ := htb
 have gne : ∀ (γ : Nat → Option Value) (x y : Nat) (u : Value), y ≠ x → gset γ x u y = γ y := fun γ x y u hxy => gset_ne _ _ _ _ hxy
 refine wp_region_own (fun k => S k ∨ k = g) _ [0, 2, 3, 4, 5] (cpL x) _ (fun k u => if k = 1 then u = .agg old else if k = 10 then u = undef else True)
  (fun γ w => ((γ 6 = none → R0 w) ∧ (γ 10 = none → Blk w g tg old) ∧ (γ 10 ≠ none → γ 1 ≠ none ∧ ∃ cs y, γ 6 = some (.tuple #[.agg cs, y]) ∧ Blk w g tg cs)
   ∧ (∀ u, γ 6 = some u → ∃ x y, u = .tuple #[x, y] ∧ RR x y w)) ∧ (∀ u, γ 7 = some u → γ 6 = some u)
   ∧ (∀ u, γ 8 = some u → ∃ x y, γ 6 = some (.tuple #[x, y]) ∧ u = x) ∧ (∀ u, γ 9 = some u → ∃ x y, γ 6 = some (.tuple #[x, y]) ∧ u = y) ∧ (∀ u, γ 11 = some u → ∃ x y, γ 6 = some (.tuple #[x, y]) ∧ u = y))
  hm hB hpB (fun k hk => ?_) hsl (fun γ w w' hb hD => ?_) ⟨⟨fun _ => h0 _ _ ((Below.refl _ _).drew) hR0, fun _ => hg.drew, fun h => absurd rfl h, fun _ h => (by cases h)⟩, fun _ h => (by cases h), fun _ h => (by cases h), fun _ h => (by cases h), fun _ h => (by cases h)⟩ (fun k hk => ?_) ⟨fin, hq, ?_⟩
 ·cases x <;> simp [cpL] at hk <;> split <;> first | rfl | omega
 ·refine ⟨⟨fun h => h0 _ _ hb (hD.1.1 h), fun h => (hD.1.2.1 h).below hb (hD.1.2.1 h).lt, fun h => ?_, fun u hu => ?_⟩, hD.2⟩
  ·obtain ⟨j1, cs, y, j2, j3⟩ := hD.1.2.2.1 h
   exact ⟨j1, cs, y, j2, j3.below hb j3.lt⟩
  ·obtain ⟨x, y, k1, k2⟩ := hD.1.2.2.2 u hu
   exact ⟨x, y, k1, h1 _ _ _ _ hb k2⟩
 ·by_cases h0 : k = 1
  ·exact ⟨.agg old, by rw [if_pos h0]⟩
  ·by_cases h1 : k = 10
   ·exact ⟨undef, by rw [if_neg h0, if_pos h1]⟩
   ·exact ⟨undef, by rw [if_neg h0, if_neg h1]; trivial⟩
 have pure : ∀ (γ : Nat → Option Value) (w : World) (j : Nat) (v : Value), j ≠ 10 → j ≠ 1 → j ≠ 6 →
   ((γ 6 = none → R0 w) ∧ (γ 10 = none → Blk w g tg old) ∧ (γ 10 ≠ none → γ 1 ≠ none ∧ ∃ cs y, γ 6 = some (.tuple #[.agg cs, y]) ∧ Blk w g tg cs) ∧ (∀ u, γ 6 = some u → ∃ x y, u = .tuple #[x, y] ∧ RR x y w)) →
   (((gset γ j v) 6 = none → R0 w) ∧ ((gset γ j v) 10 = none → Blk w g tg old) ∧ ((gset γ j v) 10 ≠ none → (gset γ j v) 1 ≠ none ∧ ∃ cs y, (gset γ j v) 6 = some (.tuple #[.agg cs, y]) ∧ Blk w g tg cs) ∧ (∀ u, (gset γ j v) 6 = some u → ∃ x y, u = .tuple #[x, y] ∧ RR x y w)) := fun γ w j v h1 h2 h3 h => by
  rw [gne _ _ _ _ (Ne.symm h1), gne _ _ _ _ (Ne.symm h2), gne _ _ _ _ (Ne.symm h3)]; exact h
 have link : ∀ (γ : Nat → Option Value) (i j : Nat) (v : Value) (f : Value → Value → Value), j ≠ 6 → (i = j → ∃ x y, γ 6 = some (.tuple #[x, y]) ∧ v = f x y) → (∀ u, γ i = some u → ∃ x y, γ 6 = some (.tuple #[x, y]) ∧ u = f x y) → ∀ u, gset γ j v i = some u → ∃ x y, gset γ j v 6 = some (.tuple #[x, y]) ∧ u = f x y := fun γ i j v f h6 hh1 hh2 u hu => by
  rw [gne _ _ _ _ (Ne.symm h6)]
  by_cases e : i = j
  ·subst e
   rw [gset_at] at hu
   injection hu with hu
   rw [← hu]; exact hh1 rfl
  ·rw [gne _ _ _ _ e] at hu
   exact hh2 u hu
 have l7 : ∀ (γ : Nat → Option Value) (j : Nat) (v : Value), j ≠ 7 → j ≠ 6 → (∀ u, γ 7 = some u → γ 6 = some u) → ∀ u, gset γ j v 7 = some u → gset γ j v 6 = some u := fun γ j v h7 h6 h u hu => by
  rw [gne _ _ _ _ (Ne.symm h7)] at hu
  rw [gne _ _ _ _ (Ne.symm h6)]; exact h u hu
 refine ⟨ol, by simpa using hol, ⟨wanted_none gl _, fun w γ hc hD hn _ => ?_⟩, fun u hu => ?_⟩
 ·have h10 : γ 10 = none := by
   cases e : γ 10 with
   | none => rfl
   | some u => exact absurd hn (hD.1.2.2.1 (by rw [e]; exact fun h => by cases h)).1
  rw [hld w (hD.1.2.1 h10) fin.eval hf3]
  refine ⟨rfl, hc, ?_⟩
  have e6 : ∀ v, gset γ 1 v 6 = γ 6 := fun v => gne _ _ _ _ (by decide)
  have e7 : ∀ v, gset γ 1 v 7 = γ 7 := fun v => gne _ _ _ _ (by decide)
  have e8 : ∀ v, gset γ 1 v 8 = γ 8 := fun v => gne _ _ _ _ (by decide)
  have e9 : ∀ v, gset γ 1 v 9 = γ 9 := fun v => gne _ _ _ _ (by decide)
  have e10 : ∀ v, gset γ 1 v 10 = γ 10 := fun v => gne _ _ _ _ (by decide)
  have e11 : ∀ v, gset γ 1 v 11 = γ 11 := fun v => gne _ _ _ _ (by decide)
  simp only [e6, e7, e8, e9, e10, e11]
  exact ⟨⟨hD.1.1, hD.1.2.1, fun h => absurd h10 h, hD.1.2.2.2⟩, hD.2⟩
 obtain rfl : u = .agg old := by simpa using hu
 rw [edl]
 refine ⟨oi, by simpa using hoi, ⟨wanted_none gi _, fun w γ hc hD hn hp => ?_⟩, fun u _ => ?_⟩
 ·have h10 : γ 10 = none := by
   cases e : γ 10 with
   | none => rfl
   | some u =>
    obtain ⟨_, cs, y, h2, _⟩ := hD.1.2.2.1 (by rw [e]; exact fun h => by cases h)
    rw [hn] at h2; cases h2
  rw [run_call_fn pi hf w, hargs]
  refine ⟨rfl, (hri w hc (hD.1.1 hn)).mono ?_⟩
  rintro e w'' ⟨x, y, he, hR, hcs⟩
  have no : ∀ (j : Nat) (f : Value → Value → Value), (∀ u, γ j = some u → ∃ x y, γ 6 = some (.tuple #[x, y]) ∧ u = f x y) → j ≠ 6 → ∀ u, gset γ 6 (.tuple #[x, y]) j = some u → ∃ x' y', gset γ 6 (.tuple #[x, y]) 6 = some (.tuple #[x', y']) ∧ u = f x' y' := fun j f h hj u hu => by
   rw [gne _ _ _ _ hj] at hu
   obtain ⟨_, _, h1, _⟩ := h u hu
   rw [hn] at h1; cases h1
  refine ⟨_, he, by simp, hc.trans (hcs.mono fun k _ hk => .inl hk), ⟨fun h => (by rw [gset_at] at h; cases h), fun _ => (hD.1.2.1 h10).chg hcs hS, fun h => absurd h10 (by rw [gne _ _ _ _ (by decide)] at h; exact h), fun v hv => ?_⟩, fun v hv => ?_, no 8 (fun x _ => x) hD.2.2.1 (by decide), no 9 (fun _ y => y) hD.2.2.2.1 (by decide), no 11 (fun _ y => y) hD.2.2.2.2 (by decide)⟩
  ·rw [gset_at] at hv
   injection hv with hv
   exact ⟨x, y, hv.symm, hR⟩
  ·rw [gne _ _ _ _ (by decide)] at hv
   have := hD.2.1 v hv
   rw [hn] at this; cases this
 rw [edi]
 refine ⟨om, by simpa using hom, ⟨wanted_none gm _, fun w γ hc hD hn hp => ?_⟩, fun um _ => ?_⟩
 ·have hpi := hp 6 (by simp)
  rw [gset_at] at hpi
  rw [exec_move_ pm w, ev_eq (by rw [put_szA, hfs]; exact s1)]
  refine ⟨by simp, hc, pure γ w 7 u (by decide) (by decide) (by decide) hD.1, fun v hv => ?_, link γ 8 7 u (fun x _ => x) (by decide) (fun h => absurd h (by decide)) hD.2.2.1, link γ 9 7 u (fun _ y => y) (by decide) (fun h => absurd h (by decide)) hD.2.2.2.1, link γ 11 7 u (fun _ y => y) (by decide) (fun h => absurd h (by decide)) hD.2.2.2.2⟩
  rw [gset_at] at hv
  injection hv with hv
  rw [gne _ _ _ _ (by decide), ← hv]; exact hpi
 rw [edm]
 refine ⟨e0, by simpa using ho0, ⟨wanted_none g0 _, fun w γ hc hD hn hp => ?_⟩, fun u0 _ => ?_⟩
 ·have hpm := hp 7 (by simp)
  rw [gset_at] at hpm
  have hpi := hD.2.1 _ hpm
  obtain ⟨x, y, rfl, hR⟩ := hD.1.2.2.2 _ hpi
  rw [exec_ext_ p0 (by rw [ev_eq (by simp only [put_szA, hfs]; exact s2)]) (v := x) rfl w]
  exact ⟨by simp, hc, pure γ w 8 x (by decide) (by decide) (by decide) hD.1, l7 γ 8 x (by decide) (by decide) hD.2.1, link γ 8 8 x (fun x _ => x) (by decide) (fun _ => ⟨x, y, hpi, rfl⟩) hD.2.2.1, link γ 9 8 x (fun _ y => y) (by decide) (fun h => absurd h (by decide)) hD.2.2.2.1, link γ 11 8 x (fun _ y => y) (by decide) (fun h => absurd h (by decide)) hD.2.2.2.2⟩
 rw [ed0]
 refine ⟨e1, by simpa using ho1, ⟨wanted_none g1 _, fun w γ hc hD hn hp => ?_⟩, fun u1 _ => ?_⟩
 ·have hpm := hp 7 (by simp)
  rw [gne _ _ _ _ (by decide), gset_at] at hpm
  have hpi := hD.2.1 _ hpm
  obtain ⟨x, y, rfl, hR⟩ := hD.1.2.2.2 _ hpi
  rw [exec_ext_ p1 (by rw [ev_ne n1, ev_eq (by simp only [put_szA, hfs]; exact s2)]) (v := y) rfl w]
  exact ⟨by simp, hc, pure γ w 9 y (by decide) (by decide) (by decide) hD.1, l7 γ 9 y (by decide) (by decide) hD.2.1, link γ 8 9 y (fun x _ => x) (by decide) (fun h => absurd h (by decide)) hD.2.2.1, link γ 9 9 y (fun _ y => y) (by decide) (fun _ => ⟨x, y, hpi, rfl⟩) hD.2.2.2.1, link γ 11 9 y (fun _ y => y) (by decide) (fun h => absurd h (by decide)) hD.2.2.2.2⟩
 rw [ed1]
 refine ⟨os, by simpa using hos, ⟨wanted_none gs _, fun w γ hc hD hn hp => ?_⟩, fun us hus => ?_⟩
 ·have h8 := hp 8 (by simp)
  have h6 := hp 6 (by simp)
  have h0 := hp 1 (by simp)
  rw [gne _ _ _ _ (by decide), gset_at] at h8
  rw [gne _ _ _ _ (by decide), gne _ _ _ _ (by decide), gne _ _ _ _ (by decide), gset_at] at h6
  rw [gne _ _ _ _ (by decide), gne _ _ _ _ (by decide), gne _ _ _ _ (by decide), gne _ _ _ _ (by decide), gset_at] at h0
  obtain ⟨x, y, rfl, hR⟩ := hD.1.2.2.2 _ h6
  obtain ⟨x', y', h61, hux⟩ := hD.2.2.1 _ h8
  rw [h6] at h61
  injection h61 with h61
  injection h61 with h61
  injection h61 with h61
  injection h61 with h61 h62
  subst h61 hux
  obtain ⟨cs, rfl, hcs, hc1⟩ := hag _ _ _ hR
  have hb := hD.1.2.1 hn
  have hpx : (((((fin.put (some dl) (.agg old)).put (some di) (.tuple #[.agg cs, y])).put (some dm) um).put (some d0) (.agg cs)).put (some d1) u1).eval (.tmp tb) = .pointer (some ⟨g, 0, none⟩) := by
   rw [ev_ne b5, ev_ne b4, ev_ne b3, ev_ne b2, ev_ne b1]; exact hf3
  have hpy : (((((fin.put (some dl) (.agg old)).put (some di) (.tuple #[.agg cs, y])).put (some dm) um).put (some d0) (.agg cs)).put (some d1) u1).eval (.tmp d0) = .agg cs := by
   rw [ev_ne n2, ev_eq (by simp only [put_szA, hfs]; exact s3)]
  unfold execOp
  simp only [ps, hpx, hpy, Instr.storeAt, Instr.sureAddr, Sem.run_bind, Sem.run_pure, Result.andThen_ok, run_storeVar_row w g tg ty old cs hb (by rw [hcs]; exact hinf) hcs.symm hc1]
  have hcg : Chg (fun k => k = g) w (w.setRow g cs) := Chg.row1 cs
  refine ⟨by simp, hc.trans (hcg.mono fun k _ hk => .inr hk), ⟨fun h => (by rw [gne _ _ _ _ (by decide), h6] at h; cases h), fun h => (by rw [gset_at] at h; cases h), fun _ => ⟨(by rw [gne _ _ _ _ (by decide), h0]; intro h; cases h), cs, y, by rw [gne _ _ _ _ (by decide)]; exact h6, setRow_heap w g old cs tg _ hb⟩, fun v hv => ?_⟩, l7 γ 10 undef (by decide) (by decide) hD.2.1, link γ 8 10 undef (fun x _ => x) (by decide) (fun h => absurd h (by decide)) hD.2.2.1, link γ 9 10 undef (fun _ y => y) (by decide) (fun h => absurd h (by decide)) hD.2.2.2.1, link γ 11 10 undef (fun _ y => y) (by decide) (fun h => absurd h (by decide)) hD.2.2.2.2⟩
  rw [gne _ _ _ _ (by decide)] at hv
  obtain ⟨x9, y9, k1, k2⟩ := hD.1.2.2.2 v hv
  exact ⟨x9, y9, k1, hch _ _ _ _ _ hb hcg k2⟩
 rw [eds]
 have hun : ∀ b : Act, ∀ u, b.put none u = b := fun _ _ => rfl
 rw [hun]
 have last : ∀ (γ : Nat → Option Value) (w' : World), γ 6 = some u → γ 7 = some um → γ 8 = some u0 → γ 9 = some u1 → γ 10 ≠ none → Chg (fun k => S k ∨ k = g) W w' →
   (((γ 6 = none → R0 w') ∧ (γ 10 = none → Blk w' g tg old) ∧ (γ 10 ≠ none → γ 1 ≠ none ∧ ∃ cs y, γ 6 = some (.tuple #[.agg cs, y]) ∧ Blk w' g tg cs) ∧ (∀ u, γ 6 = some u → ∃ x y, u = .tuple #[x, y] ∧ RR x y w')) ∧ (∀ u, γ 7 = some u → γ 6 = some u)
   ∧ (∀ u, γ 8 = some u → ∃ x y, γ 6 = some (.tuple #[x, y]) ∧ u = x) ∧ (∀ u, γ 9 = some u → ∃ x y, γ 6 = some (.tuple #[x, y]) ∧ u = y) ∧ (∀ u, γ 11 = some u → ∃ x y, γ 6 = some (.tuple #[x, y]) ∧ u = y)) →
   wpList P l.toArray Q (l.drop (cpN x)) (cpAct x (((((fin.put (some dl) (.agg old)).put (some di) u).put (some dm) um).put (some d0) u0).put (some d1) u1) u1) w' := fun γ w' t6 t7 t8 t9 t10 hc hD => by
  obtain ⟨x, y, rfl, hR⟩ := hD.1.2.2.2 u t6
  obtain ⟨_, cs, y', k4, hb⟩ := hD.1.2.2.1 t10
  have km := hD.2.1 um t7
  obtain ⟨x0, y0, c0, rfl⟩ := hD.2.2.1 u0 t8
  obtain ⟨x1, y1, c1, rfl⟩ := hD.2.2.2.1 u1 t9
  rw [t6] at k4 km c0 c1
  simp at k4 km c0 c1
  obtain ⟨rfl, rfl⟩ := k4
  obtain ⟨rfl, rfl⟩ := c0
  obtain ⟨rfl, rfl⟩ := c1
  subst km
  exact hk cs _ w' hc hR hb
 cases x with
 | none => exact fun w' hc hD => last _ w' (by simp [gset]) (by simp [gset]) (by simp [gset]) (by simp [gset]) (by simp [gset]) hc hD
 | some d =>
  obtain ⟨oa, ja, eda, ga, pa⟩ := hoa d rfl
  refine ⟨oa, by simpa using ja, ⟨wanted_none ga _, fun w γ hc hD hn hp => ?_⟩, fun u3 _ => ?_⟩
  ·have hps := hp 9 (by simp)
   rw [gne _ _ _ _ (by decide), gset_at] at hps
   obtain ⟨x, y, h6, rfl⟩ := hD.2.2.2.1 _ hps
   rw [exec_assign_ pa w, ev_eq (by simp only [put_szA, hfs]; exact s4)]
   exact ⟨by simp, hc, pure γ w 11 u1 (by decide) (by decide) (by decide) hD.1, l7 γ 11 u1 (by decide) (by decide) hD.2.1, link γ 8 11 u1 (fun x _ => x) (by decide) (fun h => absurd h (by decide)) hD.2.2.1, link γ 9 11 u1 (fun _ y => y) (by decide) (fun h => absurd h (by decide)) hD.2.2.2.1, link γ 11 11 u1 (fun _ y => y) (by decide) (fun _ => ⟨x, u1, h6, rfl⟩) hD.2.2.2.2⟩
  rw [eda]
  intro w' hc hD
  have c11 := hD.2.2.2.2 u3 (by simp [gset])
  have c9 := hD.2.2.2.1 u1 (by simp [gset])
  obtain ⟨x3, y3, c3, rfl⟩ := c11
  obtain ⟨x4, y4, c4, rfl⟩ := c9
  rw [c3] at c4
  simp at c4
  obtain ⟨rfl, rfl⟩ := c4
  exact last _ w' (by simp [gset]) (by simp [gset]) (by simp [gset]) (by simp [gset]) (by simp [gset]) hc hD
end Go.Proofs.YtehlbomkldnalaaGreat

/- The first region of SheetCopies: reads, a new box filled, three assigns. -/
namespace Go.Proofs.YtehlbomkldnalaaGreat
open Go Go.RowKit
theorem wp_region_scr {P : Program} {id : Nat} {Q : Exit → Act → World → Prop} {a : Act} {W : World} {l : List Oper} {ty tg : TypeId} {zs cs : Array Value} {va vb vc : Value} {al os oa ob oc : Oper} (ks : List Nat)
  (hm : P.follows .mixedOrders = true) (hB : ownB .any l 13 ks [8, 9, 10, 11, 12] = true)
  (hpB : preB .any l (fun k => match k with | 9 => [8] | _ => []) [8, 9, 10, 11, 12] = true) (hsl : slotsB (pick l ks) a.tmps.size = true)
  (hal : l[8]? = some al) (hos : l[9]? = some os) (hoa : l[10]? = some oa) (hob : l[11]? = some ob) (hoc : l[12]? = some oc)
  (edl : al.dst = some 3) (eds : os.dst = none) (eda : oa.dst = some 4) (edb : ob.dst = some 5) (edc : oc.dst = some 6)
  (gl : al.guard = none) (gs : os.guard = none) (ga : oa.guard = none) (gb : ob.guard = none) (gc : oc.guard = none)
  (ps : os.op = .store ty (.tmp 3) (.tmp 18)) (pa : oa.op = .assign (.tmp 20)) (pb : ob.op = .assign (.tmp 22)) (pc : oc.op = .assign (.tmp 24))
  (pal : ∀ (ev : Operand → Value) w, (execOp ev al).run P w = .ok (.value (.pointer (some ⟨w.heap.size, 0, none⟩))) (w.alloc (.cells zs tg)))
  (hsz : 25 < a.tmps.size) (hinf : (P.info? ty).map (·.size) = some zs.size) (hcz : cs.size = zs.size) (hc1 : cs.all (·.oneCell') = true)
  (h : ∃ fin : Act, (∀ W1, Chg (fun _ => False) W W1 → wpQuiet P l.toArray (fun w' => ∃ u : Since W1, w' = u.w) (fun a' => a' = fin) (pick l ks) a) ∧ fin.tmps.size = a.tmps.size ∧
   fin.eval (.tmp 18) = .agg cs ∧ fin.eval (.tmp 20) = va ∧ fin.eval (.tmp 22) = vb ∧ fin.eval (.tmp 24) = vc ∧
   ∀ g w', Below W.heap.size W w' → Blk w' g tg cs → W.heap.size ≤ g → wpList P l.toArray Q (l.drop 13) ((((fin.put (some 3) (.pointer (some ⟨g, 0, none⟩))).put (some 4) va).put (some 5) vb).put (some 6) vc) w')
  (hks : ks = [0, 1, 2, 3, 4, 5, 6, 7]) :
  (Code.region id l.toArray true).wp P Q a W := by
 subst hks
 obtain ⟨fin, hq, hfs, f18, f20, f22, f24, hk⟩ := h
 have gne : ∀ (γ : Nat → Option Value) (x y : Nat) (u : Value), y ≠ x → gset γ x u y = γ y := fun γ x y u hxy => gset_ne _ _ _ _ hxy
 refine wp_region_own (fun _ => False) 13 _ [8, 9, 10, 11, 12] _ (fun k u => if k = 9 then u = undef else if k = 10 then u = va else if k = 11 then u = vb else if k = 12 then u = vc else True)
  (fun γ w => (∀ u, γ 8 = some u → ∃ g, u = .pointer (some ⟨g, 0, none⟩) ∧ W.heap.size ≤ g ∧ (γ 9 = none → Blk w g tg zs) ∧ (γ 9 ≠ none → Blk w g tg cs)) ∧ (γ 9 ≠ none → γ 8 ≠ none))
  hm hB hpB (fun k hk => ?_) hsl (fun γ w w' hb hD => ?_) ⟨fun _ h => (by cases h), fun h => absurd rfl h⟩ (fun k hk => ?_) ⟨fin, hq, ?_⟩
 ·simp at hk
  split <;> first | rfl | omega
 ·refine ⟨fun u hu => ?_, hD.2⟩
  obtain ⟨g, k1, k2, k3, k4⟩ := hD.1 u hu
  exact ⟨g, k1, k2, fun h => (k3 h).below hb (k3 h).lt, fun h => (k4 h).below hb (k4 h).lt⟩
 ·simp only [List.mem_cons, List.not_mem_nil, or_false] at hk
  rcases hk with rfl | rfl | rfl | rfl | rfl <;> simp
 refine ⟨al, by simpa using hal, ⟨wanted_none gl _, fun w γ hc hD hn _ => ?_⟩, fun u _ => ?_⟩
 ·have h9 : γ 9 = none := by
   cases e : γ 9 with
   | none => rfl
   | some u => exact absurd hn (hD.2 (by rw [e]; exact fun h => by cases h))
  rw [pal _ w]
  refine ⟨by simp, hc.alloc _, fun v hv => ?_, fun h => absurd h9 (by rw [gne _ _ _ _ (by decide)] at h; exact h)⟩
  rw [gset_at] at hv
  injection hv with hv
  rw [gne _ _ _ _ (by decide), h9]
  exact ⟨_, hv.symm, hc.size, fun _ => Blk.new w tg zs, fun h => absurd rfl h⟩
 rw [edl]
 refine ⟨os, by simpa using hos, ⟨wanted_none gs _, fun w γ hc hD hn hp => ?_⟩, fun us hus => ?_⟩
 ·have h8 := hp 8 (by simp)
  rw [gset_at] at h8
  obtain ⟨g, rfl, k2, k3, _⟩ := hD.1 _ h8
  have hb := k3 hn
  have hpx : (fin.put (some 3) (.pointer (some ⟨g, 0, none⟩))).eval (.tmp 3) = .pointer (some ⟨g, 0, none⟩) := ev_eq (by rw [hfs]; omega)
  have hpy : (fin.put (some 3) (.pointer (some ⟨g, 0, none⟩))).eval (.tmp 18) = .agg cs := by rw [ev_ne (by decide)]; exact f18
  unfold execOp
  simp only [ps, hpx, hpy, Instr.storeAt, Instr.sureAddr, Sem.run_bind, Sem.run_pure, Result.andThen_ok, run_storeVar_row w g tg ty zs cs hb (by rw [hcz]; exact hinf) hcz.symm hc1]
  have hcg : Chg (fun k => k = g) w (w.setRow g cs) := Chg.row1 cs
  have hcw : Chg (fun _ => False) W (w.setRow g cs) := hc.trans' hcg (fun i hi hT => absurd hT (by show ¬ i = g; omega))
  refine ⟨by simp, hcw, fun v hv => ?_, fun _ => (by rw [gne _ _ _ _ (by decide), h8]; intro h; cases h)⟩
  rw [gne _ _ _ _ (by decide), h8] at hv
  injection hv with hv
  refine ⟨g, hv.symm, k2, fun h => ?_, fun _ => setRow_heap w g zs cs tg _ hb⟩
  rw [gset_at] at h; cases h
 rw [eds]
 have hun : ∀ b : Act, ∀ u, b.put none u = b := fun _ _ => rfl
 rw [hun]
 have hst : ∀ (γ : Nat → Option Value) (w : World) (j : Nat) (v : Value), j ≠ 8 → j ≠ 9 → ((∀ u, γ 8 = some u → ∃ g, u = .pointer (some ⟨g, 0, none⟩) ∧ W.heap.size ≤ g ∧ (γ 9 = none → Blk w g tg zs) ∧ (γ 9 ≠ none → Blk w g tg cs)) ∧ (γ 9 ≠ none → γ 8 ≠ none)) →
   ((∀ u, gset γ j v 8 = some u → ∃ g, u = .pointer (some ⟨g, 0, none⟩) ∧ W.heap.size ≤ g ∧ (gset γ j v 9 = none → Blk w g tg zs) ∧ (gset γ j v 9 ≠ none → Blk w g tg cs)) ∧ (gset γ j v 9 ≠ none → gset γ j v 8 ≠ none)) := fun γ w j v h8 h9 h => by
  rw [gne _ _ _ _ (Ne.symm h8), gne _ _ _ _ (Ne.symm h9)]; exact h
 refine ⟨oa, by simpa using hoa, ⟨wanted_none ga _, fun w γ hc hD hn hp => ?_⟩, fun ua hua => ?_⟩
 ·rw [exec_assign_ pa w, ev_ne (by decide), f20]
  exact ⟨by simp, hc, hst γ w 10 va (by decide) (by decide) hD⟩
 obtain rfl : ua = va := by simpa using hua
 rw [eda]
 refine ⟨ob, by simpa using hob, ⟨wanted_none gb _, fun w γ hc hD hn hp => ?_⟩, fun ub hub => ?_⟩
 ·rw [exec_assign_ pb w, ev_ne (by decide), ev_ne (by decide), f22]
  exact ⟨by simp, hc, hst γ w 11 vb (by decide) (by decide) hD⟩
 obtain rfl : ub = vb := by simpa using hub
 rw [edb]
 refine ⟨oc, by simpa using hoc, ⟨wanted_none gc _, fun w γ hc hD hn hp => ?_⟩, fun uc huc => ?_⟩
 ·rw [exec_assign_ pc w, ev_ne (by decide), ev_ne (by decide), ev_ne (by decide), f24]
  exact ⟨by simp, hc, hst γ w 12 vc (by decide) (by decide) hD⟩
 obtain rfl : uc = vc := by simpa using huc
 rw [edc]
 intro w' hc hD
 obtain ⟨g, rfl, k2, _, k4⟩ := hD.1 u (by simp [gset])
 exact hk g w' (hc.to_below (Nat.le_refl _) fun _ _ h => h) (k4 (by simp [gset])) k2
end Go.Proofs.YtehlbomkldnalaaGreat
