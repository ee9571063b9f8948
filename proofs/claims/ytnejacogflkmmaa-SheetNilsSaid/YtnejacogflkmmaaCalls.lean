/- Regions that draw their order and hold several calls, each of which hands back a value of its own and new memory: reading operations first, then the calls, then the forced end. -/
import Derived.Test.YtnejacogflkmmaaDraw
namespace Go.Proofs.Ytnejacogflkmmaa
open Go Go.RowKit
/-- a call at index i: what is known of its value and of the world -/
structure Cl where
  i : Nat
  ok : Value → World → Prop
structure Cl.Good (x : Cl) : Prop where
  stable : ∀ u w w', Below w.heap.size w w' → x.ok u w → x.ok u w'
  lt : ∀ u w, x.ok u w → ∀ b, u.ownBlock = some b → b < w.heap.size
structure DC (ls : List Cl) (γ : Nat → Option Value) (w : World) : Prop where
  ok : ∀ x ∈ ls, ∀ u, γ x.i = some u → x.ok u w
  apart : ∀ x ∈ ls, ∀ y ∈ ls, x.i ≠ y.i → ∀ u v, γ x.i = some u → γ y.i = some v → ∀ b, u.ownBlock = some b → v.ownBlock ≠ some b
theorem DC.stable {ls : List Cl} (hg : ∀ x ∈ ls, x.Good) (γ : Nat → Option Value) (w w' : World) (hb : Below w.heap.size w w') (h : DC ls γ w) : DC ls γ w' :=
  ⟨fun x hx u hu => (hg x hx).stable u w w' hb (h.ok x hx u hu), h.apart⟩
def noS (_ : Nat) : Prop := False
theorem Chg.noS_ {W w : World} (h : Chg noS W w) : Below W.heap.size W w := h.to_below (Nat.le_refl _) fun _ _ hk => hk
theorem run_call_fn {P : Program} {o : Oper} {a : Act} {f : FuncId} {xs : Array Operand} {ts : Array TypeId} (ho : o.op = .call { callee := .value (.func f), args := xs, argTypes := ts }) (hf : ∀ args w, (callFunc f args).run P w = .ok (.enter f args) w) (w : World) :
    (execOp a.eval o).run P w = .ok (.enter f (xs.map a.eval)) w := by
  unfold execOp
  simp [ho, resolve, invoke, Result.andThen, Act.eval, Deferred.ofValue, hf]
theorem ownWalk_call {P : Program} {ops : Array Oper} {W : World} {ls : List Cl} {fin : Act → (Nat → Option Value) → Prop} {os : List Nat} {i d : Nat} {o : Oper} {a : Act} {γ : Nat → Option Value} {f : FuncId} {xs : Array Operand} {ts : Array TypeId} {args : Array Value} (x : Cl)
    (hg : ∀ x ∈ ls, x.Good) (hxi : x.i = i) (ho : ops[i]? = some o) (hd : o.dst = some d) (hw : Region.wanted o (yielded ops a.tmps) = true)
    (hop : o.op = .call { callee := .value (.func f), args := xs, argTypes := ts }) (hargs : xs.map a.eval = args) (hf : ∀ args w, (callFunc f args).run P w = .ok (.enter f args) w) (hm : x ∈ ls) (hu : ∀ y ∈ ls, y.i = x.i → y = x)
    (hcall : ∀ w, Below W.heap.size W w → Calls P f args w fun e w'' => ∃ u, e = .returned u ∧ x.ok u w'' ∧ (∀ b, u.ownBlock = some b → w.heap.size ≤ b) ∧ Below w.heap.size w w'')
    (hk : ∀ u, ownWalk P ops noS W (DC ls) (fun _ _ => True) (fun _ => []) fin os { tmps := a.tmps.setIfInBounds d u, defers := a.defers } (gset γ i u)) :
    ownWalk P ops noS W (DC ls) (fun _ _ => True) (fun _ => []) fin (i :: os) a γ := by
  subst hxi
  refine ⟨o, ho, ⟨hw, fun w γ hb hD hn _ => ?_⟩, fun u _ => ?_⟩
  · rw [run_call_fn hop hf w, hargs]
    refine ⟨rfl, (hcall w hb.noS_).mono ?_⟩
    rintro e w'' ⟨u, he, hok, hnew, hbl⟩
    refine ⟨u, he, trivial, hb.trans (.of_below hbl), fun y hy v hv => ?_, fun y hy z hz hyz v v' hv hv' b hb' => ?_⟩
    · unfold gset at hv
      split at hv
      · rename_i he
        injection hv with hv
        subst hv
        obtain rfl := hu y hy he
        exact hok
      · exact (hg y hy).stable v w w'' hbl (hD.ok y hy v hv)
    · unfold gset at hv hv'
      split at hv
      · rename_i he
        injection hv with hv
        subst hv
        rw [if_neg (fun h => hyz (he.trans h.symm))] at hv'
        intro h2
        have h3 := (hg z hz).lt v' w (hD.ok z hz v' hv') b h2
        have h4 := hnew b hb'
        omega
      · rename_i hne
        split at hv'
        · injection hv' with hv'
          subst hv'
          intro h2
          have h3 := (hg y hy).lt v w (hD.ok y hy v hv) b hb'
          have h4 := hnew b h2
          omega
        · exact hD.apart y hy z hz hyz v v' hv hv' b hb'
  · rw [hd]
    exact hk u
theorem wp_region_calls {P : Program} {id : Nat} {Q : Exit → Act → World → Prop} {a : Act} {w : World} {l : List Oper} (n : Nat) (ks os : List Nat) (ls : List Cl) (hg : ∀ x ∈ ls, x.Good)
    (hm : P.follows .mixedOrders = true) (hB : ownB .any l n ks os = true) (hpB : preB .any l (fun _ => []) os = true) (hsl : slotsB (pick l ks) a.tmps.size = true)
    (h : ∃ fin, (∀ W1, Below w.heap.size w W1 → wpQuiet P l.toArray (fun w' => ∃ u : Since W1, w' = u.w) (fun a' => a' = fin) (pick l ks) a) ∧
      ownWalk P l.toArray noS w (DC ls) (fun _ _ => True) (fun _ => []) (fun a' γ' => ∀ w', Below w.heap.size w w' → DC ls γ' w' → wpList P l.toArray Q (l.drop n) a' w') os fin (fun _ => none)) : (Code.region id l.toArray true).wp P Q a w := by
  obtain ⟨fin, h1, h2⟩ := h
  refine wp_region_own noS n ks os (fun _ => []) (fun _ _ => True) (DC ls) hm hB hpB (fun _ _ => rfl) hsl (DC.stable hg) ⟨fun _ _ _ h => (by cases h), fun _ _ _ _ _ _ _ h => (by cases h)⟩ (fun _ _ => ⟨undef, trivial⟩) ⟨fin, fun W1 hc => h1 W1 hc.noS_, ?_⟩
  have key : ∀ (os : List Nat) a γ, ownWalk P l.toArray noS w (DC ls) (fun _ _ => True) (fun _ => []) (fun a' γ' => ∀ w', Below w.heap.size w w' → DC ls γ' w' → wpList P l.toArray Q (l.drop n) a' w') os a γ →
      ownWalk P l.toArray noS w (DC ls) (fun _ _ => True) (fun _ => []) (fun a' γ' => ∀ w', Chg noS w w' → DC ls γ' w' → wpList P l.toArray Q (l.drop n) a' w') os a γ := by
    intro os
    induction os with
    | nil => intro a γ h w' hc hD; exact h w' hc.noS_ hD
    | cons i os ih =>
      rintro a γ ⟨o, ho, hy, hk⟩
      exact ⟨o, ho, hy, fun u hu => ih _ _ (hk u hu)⟩
  exact key os _ _ h2
end Go.Proofs.Ytnejacogflkmmaa
