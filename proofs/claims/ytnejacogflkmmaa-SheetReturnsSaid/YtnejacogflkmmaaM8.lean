/- Parts of the proofs of this seat: Draw, Calls. Each part says what it proves; no condition beyond those stated there. -/
import Derived.Laws.MakeOwn
import Derived.Test.YtnejacogflkmmaaM1
import Derived.Test.YtnejacogflkmmaaM7

/- Regions that draw their order and hold operations that make memory (own operations: alloc, box, make, calls that hand back new memory) beside operations that only read: the reading ones are walked once, in the order of the text; then the own ones, whatever value they hand back; then the forced end. -/
namespace Go.Proofs.Ytnejacogflkmmaa
open Go Go.RowKit

def gset (γ : Nat → Option Value) (i : Nat) (u : Value) : Nat → Option Value := fun k => if k = i then some u else γ k
theorem gset_comm (γ : Nat → Option Value) {i j : Nat} (u v : Value) (h : i ≠ j) : gset (gset γ i u) j v = gset (gset γ j v) i u := by
  funext k; unfold gset
  by_cases h1 : k = i
  · subst h1; simp [h]
  · by_cases h2 : k = j
    · subst h2; simp [h1]
    · simp [h1, h2]
section
variable {P : Program} {ops : Array Oper} {md : Region.Mode}

/-- a reading operation: the value (where it goes anywhere), the world no less than before -/
def qxUpon (P : Program) (w : World) (ok : Value → Prop) : Result Next → Prop
  | .ok (.value u) w' => w' = w ∧ ok u
  | .ok .skip w' => w' = w ∧ ok undef
  | .ok (.enter f args) w' => w' = w ∧ Calls P f args w (fun e w'' => ∃ u, e = .returned u ∧ ok u ∧ Below w.heap.size w w'')
  | _ => False
def YQ (P : Program) (ops : Array Oper) (S : Nat → Prop) (W : World) (o : Oper) (v : Value) (a : Act) : Prop :=
  (Region.wanted o (yielded ops a.tmps) = true ∧ ∀ w, Chg S W w → qxUpon P w (fun u => o.dst = none ∨ u = v) ((execOp a.eval o).run P w)) ∨
  (Region.wanted o (yielded ops a.tmps) = false ∧ (o.dst = none ∨ v = undef))
/-- an own operation -/
def ownUpon (P : Program) (S : Nat → Prop) (W : World) (D : (Nat → Option Value) → World → Prop) (w : World) (V : Value → Prop) (γ : Nat → Option Value) (i : Nat) : Result Next → Prop
  | .ok (.value u) w' => V u ∧ Chg S W w' ∧ D (gset γ i u) w'
  | .ok .skip w' => V undef ∧ Chg S W w' ∧ D (gset γ i undef) w'
  | .ok (.enter f args) w' => w' = w ∧ Calls P f args w (fun e w'' => ∃ u, e = .returned u ∧ V u ∧ Chg S W w'' ∧ D (gset γ i u) w'')
  | _ => False
def YO (P : Program) (ops : Array Oper) (S : Nat → Prop) (W : World) (D : (Nat → Option Value) → World → Prop) (V : Value → Prop) (pre : List Nat) (i : Nat) (o : Oper) (a : Act) (γ0 : Nat → Option Value) : Prop :=
  Region.wanted o (yielded ops a.tmps) = true ∧ ∀ w γ, Chg S W w → D γ w → γ i = none → (∀ k ∈ pre, γ k = γ0 k) → ownUpon P S W D w V γ i ((execOp a.eval o).run P w)
theorem put_same {a : Act} {d : Option Tmp} {u v : Value} (h : d = none ∨ u = v) : a.put d u = a.put d v := by
  rcases h with h | h
  · subst h; rfl
  · rw [h]
theorem YQ.of_same {S : Nat → Prop} {W : World} {o : Oper} {v : Value} {a a' : Act} (hy : YQ P ops S W o v a) (he : execOp a'.eval o = execOp a.eval o)
    (hw : Region.wanted o (yielded ops a'.tmps) = Region.wanted o (yielded ops a.tmps)) : YQ P ops S W o v a' := by
  unfold YQ at *; rw [he, hw]; exact hy
theorem YO.of_same {S : Nat → Prop} {W : World} {D : (Nat → Option Value) → World → Prop} {V : Value → Prop} {pre : List Nat} {i : Nat} {o : Oper} {a a' : Act} {γ0 γ1 : Nat → Option Value} (hy : YO P ops S W D V pre i o a γ0) (he : execOp a'.eval o = execOp a.eval o)
    (hw : Region.wanted o (yielded ops a'.tmps) = Region.wanted o (yielded ops a.tmps)) (hg : ∀ k ∈ pre, γ1 k = γ0 k) : YO P ops S W D V pre i o a' γ1 := by
  unfold YO at *; rw [he, hw]; exact ⟨hy.1, fun w γ h1 h2 h3 h4 => hy.2 w γ h1 h2 h3 fun k hk => (h4 k hk).trans (hg k hk)⟩

variable {S : Nat → Prop} {W : World} {D : (Nat → Option Value) → World → Prop} {Vo : Nat → Value → Prop} {pre : Nat → List Nat} {own : Nat → Bool}
def yOp (P : Program) (ops : Array Oper) (S : Nat → Prop) (W : World) (D : (Nat → Option Value) → World → Prop) (Vo : Nat → Value → Prop) (pre : Nat → List Nat) (own : Nat → Bool) (i : Nat) (K : Act → (Nat → Option Value) → Prop) (a : Act) (γ : Nat → Option Value) : Prop :=
  ∃ o, ops[i]? = some o ∧ if own i then YO P ops S W D (Vo i) (pre i) i o a γ ∧ ∀ u, Vo i u → K (a.put o.dst u) (gset γ i u) else ∃ v, YQ P ops S W o v a ∧ K (a.put o.dst v) γ
theorem yOp_mono {i : Nat} {a : Act} {γ : Nat → Option Value} {K K' : Act → (Nat → Option Value) → Prop} (h : ∀ a γ, K a γ → K' a γ) (hh : yOp P ops S W D Vo pre own i K a γ) : yOp P ops S W D Vo pre own i K' a γ := by
  obtain ⟨o, ho, hh⟩ := hh
  refine ⟨o, ho, ?_⟩
  split
  · rename_i hw; rw [if_pos hw] at hh; exact ⟨hh.1, fun u hu => h _ _ (hh.2 u hu)⟩
  · rename_i hw; rw [if_neg hw] at hh; obtain ⟨v, h1, h2⟩ := hh; exact ⟨v, h1, h _ _ h2⟩

theorem wpOp_of_yOp (hst : ∀ γ w w', Below w.heap.size w w' → D γ w → D γ w') {i : Nat} {a : Act} {γ : Nat → Option Value} {K : Act → (Nat → Option Value) → Prop} {K' : Act → World → Prop} {Q' : Exit → Act → World → Prop} {w : World}
    (hC : Chg S W w) (hD : D γ w) (hγ : γ i = none) (h : ∀ a' w' γ', Chg S W w' → D γ' w' → (∀ k, k ≠ i → γ' k = γ k) → K a' γ' → K' a' w') (hh : yOp P ops S W D Vo pre own i K a γ) : wpOp P ops Q' i K' a w := by
  obtain ⟨o, ho, hh⟩ := hh
  unfold wpOp
  simp only [ho]
  have trans : ∀ {w'}, Below w.heap.size w w' → Chg S W w' := fun hb => hC.trans (.of_below hb)
  by_cases hw : own i
  · rw [if_pos hw] at hh
    obtain ⟨⟨hwan, hy⟩, hk⟩ := hh
    rw [if_pos hwan]
    refine .inl ?_
    have h3 := hy w γ hC hD hγ (fun _ _ => rfl)
    unfold Oper.wp
    generalize (execOp a.eval o).run P w = r at *
    have hg : ∀ u k, k ≠ i → gset γ i u k = γ k := fun u k hk => by simp [gset, hk]
    cases r with
    | ok n w' =>
      cases n <;> simp only [ownUpon] at h3 <;> simp only [Oper.upon]
      case value u => exact h _ _ _ h3.2.1 h3.2.2 (hg u) (hk u h3.1)
      case skip => exact h _ _ _ h3.2.1 h3.2.2 (hg undef) (hk undef h3.1)
      case enter f args =>
        obtain ⟨e1, hc⟩ := h3
        rw [e1]
        exact hc.mono fun e w'' ⟨u, he, hv, hb, hd⟩ => by subst he; exact h _ _ _ hb hd (hg u) (hk u hv)
    | halt x w' => simp only [ownUpon] at h3
  · rw [if_neg hw] at hh
    obtain ⟨v, hy, hk⟩ := hh
    rcases hy with ⟨hwan, hy⟩ | ⟨hwan, hv⟩
    · rw [if_pos hwan]
      refine .inl ?_
      have h3 := hy w hC
      unfold Oper.wp
      generalize (execOp a.eval o).run P w = r at *
      cases r with
      | ok n w' =>
        cases n <;> simp only [qxUpon] at h3 <;> simp only [Oper.upon]
        case value u => rw [h3.1, put_same h3.2]; exact h _ _ _ hC hD (fun _ _ => rfl) hk
        case skip => rw [h3.1, put_same h3.2]; exact h _ _ _ hC hD (fun _ _ => rfl) hk
        case enter f args =>
          obtain ⟨e1, hc⟩ := h3
          rw [e1]
          exact hc.mono fun e w'' ⟨u, he, hv, hb⟩ => by subst he; show K' (a.put o.dst u) w''; rw [put_same hv]; exact h _ _ _ (trans hb) (hst _ _ _ hb hD) (fun _ _ => rfl) hk
      | halt x w' => simp only [qxUpon] at h3
    · rw [if_neg (by rw [hwan]; exact Bool.false_ne_true)]
      rw [put_same hv] at hk
      exact h _ _ _ hC hD (fun _ _ => rfl) hk

def wpAnyY (P : Program) (md : Region.Mode) (ops : Array Oper) (S : Nat → Prop) (W : World) (D : (Nat → Option Value) → World → Prop) (Vo : Nat → Value → Prop) (pre : Nat → List Nat) (own : Nat → Bool) (n : Nat) (L : Array Bool → Act → (Nat → Option Value) → Prop) : Nat → Array Bool → Act → (Nat → Option Value) → Prop
  | 0, listed, a, γ => L listed a γ
  | f + 1, listed, a, γ =>
    Region.ready md ops listed ≠ [] ∧ ∀ i ∈ Region.ready md ops listed, i < n ∧ yOp P ops S W D Vo pre own i (wpAnyY P md ops S W D Vo pre own n L f (listed.setIfInBounds i true)) a γ
theorem wpAny_of_headY (hst : ∀ γ w w', Below w.heap.size w w' → D γ w → D γ w') {n g : Nat} {L : Array Bool → Act → (Nat → Option Value) → Prop} {Q' : Exit → Act → World → Prop} (hL : ∀ listed a γ w, Chg S W w → D γ w → L listed a γ → wpAny P md ops Q' g listed a w) :
    ∀ (f : Nat) (listed : Array Bool) (a : Act) (γ : Nat → Option Value) (w : World), Chg S W w → D γ w → (∀ k, γ k ≠ none → listed.getD k true = true) → wpAnyY P md ops S W D Vo pre own n L f listed a γ → wpAny P md ops Q' (f + g) listed a w
  | 0, listed, a, γ, w, hw, hD, _, h => by rw [Nat.zero_add]; exact hL _ _ _ _ hw hD h
  | f + 1, listed, a, γ, w, hw, hD, hγ, h => by
    rw [show f + 1 + g = (f + g) + 1 by omega]
    refine ⟨fun h0 => absurd h0 h.1, fun i hi => ?_⟩
    have hun := (mem_ready.1 hi).1
    have hgi : γ i = none := by
      cases hq : γ i with
      | none => rfl
      | some x => have := hγ i (by rw [hq]; simp); rw [hun] at this; cases this
    refine wpOp_of_yOp hst hw hD hgi (fun a' w' γ' hw' hD' hk h' => wpAny_of_headY hst hL f _ a' γ' w' hw' hD' (fun k hne => ?_) h') (h.2 i hi).2
    by_cases hki : i = k
    · subst hki
      rcases Nat.lt_or_ge i listed.size with h1 | h1
      · simp [h1]
      · simp [h1]
    · rw [getD_set_ne true hki]
      exact hγ k (by rw [← hk k (Ne.symm hki)]; exact hne)

theorem not_bound {i _j : Nat} {listed : Array Bool} {oj : Oper} (hi : i ∈ Region.ready md ops listed) (hall : ∀ e ∈ oj.after, Region.binds md e = true → listed.getD e.on false = true) : ∀ e ∈ oj.after, Region.binds md e = true → e.on ≠ i := fun e he hb heq => by
  have h1 := hall e he hb
  rw [heq, getD_both (mem_ready.1 hi).1] at h1
  cases h1
theorem free_after {i j : Nat} {oi : Oper} {listed : Array Bool} (hfree : ∀ j oj, ops[j]? = some oj → j ≠ i → listed.getD j true = false → (∀ e ∈ oj.after, Region.binds md e = true → e.on ≠ i) → oi.apart ops oj = true) (hjun : listed.getD j true = false) :
    ∀ k ok, ops[k]? = some ok → k ≠ i → (listed.setIfInBounds j true).getD k true = false → (∀ e ∈ ok.after, Region.binds md e = true → e.on ≠ i) → oi.apart ops ok = true := fun k ok hk hki hun hno => by
  refine hfree k ok hk hki ?_ hno
  by_cases hjk : j = k
  · subst hjk; exact hjun
  · rw [getD_set_ne true hjk] at hun; exact hun

/-- a reading operation may be taken first -/
theorem wpAnyY_firstq {n i : Nat} {oi : Oper} {v : Value} {L : Array Bool → Act → (Nat → Option Value) → Prop} (hi : ops[i]? = some oi) (hsel : ∀ (j : Nat) (o : Oper) cs b, ops[j]? = some o → o.op ≠ .select cs b)
    (hoi : own i = false) (hin : i < n) (hwait : ∀ listed, HeadInv md ops n listed → (∃ i, i < n ∧ listed.getD i true = false) → ∀ t ∈ Region.ready md ops listed, t < n)
    (hdone : ∀ listed a γ, L listed a γ → ∀ j ∈ Region.ready md ops listed, n ≤ j) :
    ∀ (f : Nat) (listed : Array Bool) (a : Act) (γ : Nat → Option Value), HeadInv md ops n listed →
      (∀ j oj, ops[j]? = some oj → j ≠ i → listed.getD j true = false → (∀ e ∈ oj.after, Region.binds md e = true → e.on ≠ i) → oi.apart ops oj = true) →
      i ∈ Region.ready md ops listed → YQ P ops S W oi v a →
      wpAnyY P md ops S W D Vo pre own n L f (listed.setIfInBounds i true) (a.put oi.dst v) γ → wpAnyY P md ops S W D Vo pre own n L (f + 1) listed a γ := by
  have mine : ∀ {K : Act → (Nat → Option Value) → Prop} {a γ}, YQ P ops S W oi v a → K (a.put oi.dst v) γ → yOp P ops S W D Vo pre own i K a γ := fun hy hk => ⟨oi, hi, by rw [hoi]; exact ⟨v, hy, hk⟩⟩
  intro f
  induction f with
  | zero =>
    intro listed a γ inv _ hr hy H
    have hun := (mem_ready.1 hr).1
    refine ⟨fun h => (by rw [h] at hr; cases hr), fun j hj => ?_⟩
    have hjn := hwait listed inv ⟨i, hin, hun⟩ j hj
    refine ⟨hjn, ?_⟩
    by_cases hji : j = i
    · subst hji; exact mine hy H
    · have := hdone _ _ _ H j (ready_mono hj hji)
      omega
  | succ f ih =>
    intro listed a γ inv hfree hr hy H
    have hun := (mem_ready.1 hr).1
    refine ⟨fun h => (by rw [h] at hr; cases hr), fun j hj => ?_⟩
    have hjn := hwait listed inv ⟨i, hin, hun⟩ j hj
    refine ⟨hjn, ?_⟩
    by_cases hji : j = i
    · subst hji; exact mine hy H
    · obtain ⟨oj, hoj, h1⟩ := (H.2 j (ready_mono hj hji)).2
      obtain ⟨hjun, oj', hoj', hall⟩ := mem_ready.1 hj
      obtain rfl : oj' = oj := Option.some.inj (hoj'.symm.trans hoj)
      have hap := hfree j oj' hoj hji hjun (not_bound (_j := j) hr hall)
      obtain ⟨p1, p2, p3⟩ := Oper.apart_spec hap
      have hsi := fun cs b => hsel i oi cs b hi
      have hsj := fun cs b => hsel j oj' cs b hoj
      have hfree' := free_after hfree hjun
      have keep : ∀ u, YQ P ops S W oi v (a.put oj'.dst u) := fun u => hy.of_same (execOp_put oi hsi a oj'.dst u p3) (wanted_put oi a oj'.dst u p3)
      refine ⟨oj', hoj, ?_⟩
      have next : ∀ u γ', wpAnyY P md ops S W D Vo pre own n L f ((listed.setIfInBounds i true).setIfInBounds j true) ((a.put oi.dst v).put oj'.dst u) γ' → wpAnyY P md ops S W D Vo pre own n L (f + 1) (listed.setIfInBounds j true) (a.put oj'.dst u) γ' := fun u γ' h => by
        refine ih (listed.setIfInBounds j true) _ γ' (inv.set hj hjn) hfree' (ready_mono hr (Ne.symm hji)) (keep u) ?_
        rw [Array.setIfInBounds_comm _ _ hji, ← Act.put_comm a v u p2]
        exact h
      split
      · rename_i hw
        rw [if_pos hw] at h1
        exact ⟨h1.1.of_same (execOp_put oj' hsj a oi.dst v p1).symm (wanted_put oj' a oi.dst v p1).symm (fun _ _ => rfl), fun u hu => next u _ (h1.2 u hu)⟩
      · rename_i hw
        rw [if_neg hw] at h1
        obtain ⟨u, h2, h3⟩ := h1
        exact ⟨u, h2.of_same (execOp_put oj' hsj a oi.dst v p1).symm (wanted_put oj' a oi.dst v p1).symm, next u _ h3⟩

/-- an own operation may be taken first, where only own ones are left -/
theorem wpAnyY_firsto {n i : Nat} {oi : Oper} {L : Array Bool → Act → (Nat → Option Value) → Prop} (hi : ops[i]? = some oi) (hsel : ∀ (j : Nat) (o : Oper) cs b, ops[j]? = some o → o.op ≠ .select cs b)
    (hoi : own i = true) (hin : i < n) (hwait : ∀ listed, HeadInv md ops n listed → (∃ i, i < n ∧ listed.getD i true = false) → ∀ t ∈ Region.ready md ops listed, t < n)
    (hdone : ∀ listed a γ, L listed a γ → ∀ j ∈ Region.ready md ops listed, n ≤ j) (hne : ∃ u, Vo i u) (hpre : ∀ j oj, ops[j]? = some oj → ∀ k ∈ pre j, ∃ e ∈ oj.after, Region.binds md e = true ∧ e.on = k) :
    ∀ (f : Nat) (listed : Array Bool) (a : Act) (γ : Nat → Option Value), HeadInv md ops n listed →
      (∀ j oj, ops[j]? = some oj → j ≠ i → listed.getD j true = false → (∀ e ∈ oj.after, Region.binds md e = true → e.on ≠ i) → oi.apart ops oj = true) →
      (∀ j, j < n → listed.getD j true = false → own j = true) →
      i ∈ Region.ready md ops listed → YO P ops S W D (Vo i) (pre i) i oi a γ →
      (∀ u, Vo i u → wpAnyY P md ops S W D Vo pre own n L f (listed.setIfInBounds i true) (a.put oi.dst u) (gset γ i u)) → wpAnyY P md ops S W D Vo pre own n L (f + 1) listed a γ := by
  have mine : ∀ {K : Act → (Nat → Option Value) → Prop} {a γ}, YO P ops S W D (Vo i) (pre i) i oi a γ → (∀ u, Vo i u → K (a.put oi.dst u) (gset γ i u)) → yOp P ops S W D Vo pre own i K a γ := fun hy hk => ⟨oi, hi, by rw [hoi]; exact ⟨hy, hk⟩⟩
  intro f
  induction f with
  | zero =>
    intro listed a γ inv _ _ hr hy H
    have hun := (mem_ready.1 hr).1
    refine ⟨fun h => (by rw [h] at hr; cases hr), fun j hj => ?_⟩
    have hjn := hwait listed inv ⟨i, hin, hun⟩ j hj
    refine ⟨hjn, ?_⟩
    by_cases hji : j = i
    · subst hji; exact mine hy H
    · obtain ⟨u, hu⟩ := hne
      have := hdone _ _ _ (H u hu) j (ready_mono hj hji)
      omega
  | succ f ih =>
    intro listed a γ inv hfree hown hr hy H
    have hun := (mem_ready.1 hr).1
    refine ⟨fun h => (by rw [h] at hr; cases hr), fun j hj => ?_⟩
    have hjn := hwait listed inv ⟨i, hin, hun⟩ j hj
    refine ⟨hjn, ?_⟩
    by_cases hji : j = i
    · subst hji; exact mine hy H
    · obtain ⟨hjun, oj, hoj, hall⟩ := mem_ready.1 hj
      have hjo := hown j hjn hjun
      have hap := hfree j oj hoj hji hjun (not_bound (_j := j) hr hall)
      obtain ⟨p1, p2, p3⟩ := Oper.apart_spec hap
      have hsi := fun cs b => hsel i oi cs b hi
      have hsj := fun cs b => hsel j oj cs b hoj
      have hfree' := free_after hfree hjun
      have hown' : ∀ k, k < n → (listed.setIfInBounds j true).getD k true = false → own k = true := fun k hk hun => by
        refine hown k hk ?_
        by_cases hjk : j = k
        · subst hjk; exact hjun
        · rw [getD_set_ne true hjk] at hun; exact hun
      obtain ⟨_, oi', hoi', halli⟩ := mem_ready.1 hr
      obtain rfl : oi' = oi := Option.some.inj (hoi'.symm.trans hi)
      have nej : ∀ k ∈ pre i, k ≠ j := fun k hk he => by
        obtain ⟨e, he1, he2, he3⟩ := hpre i oi' hi k hk
        have h1 := halli e he1 he2
        rw [he3, he, getD_both hjun] at h1
        cases h1
      have nei : ∀ k ∈ pre j, k ≠ i := fun k hk he => by
        obtain ⟨e, he1, he2, he3⟩ := hpre j oj hoj k hk
        have h1 := hall e he1 he2
        rw [he3, he, getD_both hun] at h1
        cases h1
      have keep : ∀ u, YO P ops S W D (Vo i) (pre i) i oi' (a.put oj.dst u) (gset γ j u) := fun u => hy.of_same (execOp_put oi' hsi a oj.dst u p3) (wanted_put oi' a oj.dst u p3) fun k hk => by simp [gset, nej k hk]
      have get : ∀ u, Vo i u → YO P ops S W D (Vo j) (pre j) j oj (a.put oi'.dst u) (gset γ i u) ∧ ∀ v, Vo j v → wpAnyY P md ops S W D Vo pre own n L f ((listed.setIfInBounds i true).setIfInBounds j true) ((a.put oi'.dst u).put oj.dst v) (gset (gset γ i u) j v) := fun u hu => by
        obtain ⟨oj', hoj', h1⟩ := ((H u hu).2 j (ready_mono hj hji)).2
        obtain rfl : oj' = oj := Option.some.inj (hoj'.symm.trans hoj)
        rw [if_pos hjo] at h1
        exact h1
      refine ⟨oj, hoj, ?_⟩
      rw [if_pos hjo]
      obtain ⟨u0, hu0⟩ := hne
      refine ⟨(get u0 hu0).1.of_same (execOp_put oj hsj a oi'.dst u0 p1).symm (wanted_put oj a oi'.dst u0 p1).symm (fun k hk => by simp [gset, nei k hk]), fun v hv => ?_⟩
      refine ih (listed.setIfInBounds j true) _ _ (inv.set hj hjn) hfree' hown' (ready_mono hr (Ne.symm hji)) (keep v) fun u hu => ?_
      rw [Array.setIfInBounds_comm _ _ hji, ← Act.put_comm a u v p2, ← gset_comm γ u v (Ne.symm hji)]
      exact (get u hu).2 v hv

/-- the order of the walk: first the reading operations, then the own ones -/
def ordB (md : Region.Mode) (ops : Array Oper) (n g : Nat) : List Nat → Array Bool → Bool
  | [], listed => Region.seqB md ops g n listed
  | k :: ks, listed => decide (k < n) && (Region.ready md ops listed).contains k && Region.free md ops listed k && ordB md ops n g ks (listed.setIfInBounds k true)
def marks : List Nat → Array Bool → Array Bool
  | [], listed => listed
  | k :: ks, listed => marks ks (listed.setIfInBounds k true)
def preB (md : Region.Mode) (l : List Oper) (pre : Nat → List Nat) (os : List Nat) : Bool := os.all fun j => (pre j).all fun k => Region.waitsFor md l.toArray j k
def ownB (md : Region.Mode) (l : List Oper) (n : Nat) (ks os : List Nat) : Bool :=
  Region.noSelect l.toArray && (n == l.length || (decide (n < l.length) && Region.sinkB md l.toArray n && Region.chainB md l.toArray n)) &&
  ordB md l.toArray n (l.length - n) (ks ++ os) (Array.replicate l.length false) && ks.all (fun k => !os.contains k) && decide (ks.length + os.length = n) &&
  (List.range n).all fun j => (marks ks (Array.replicate l.length false)).getD j true || os.contains j
def pick (l : List Oper) (ks : List Nat) : List Oper := ks.filterMap (l[·]?)
def wpX (P : Program) (ops : Array Oper) (S : Nat → Prop) (W : World) (Q : Act → Prop) : List Nat → Act → Prop
  | [], a => Q a
  | k :: ks, a => ∃ o v, ops[k]? = some o ∧ YQ P ops S W o v a ∧ wpX P ops S W Q ks (a.put o.dst v)
def ownWalk (P : Program) (ops : Array Oper) (S : Nat → Prop) (W : World) (D : (Nat → Option Value) → World → Prop) (Vo : Nat → Value → Prop) (pre : Nat → List Nat) (fin : Act → (Nat → Option Value) → Prop) : List Nat → Act → (Nat → Option Value) → Prop
  | [], a, γ => fin a γ
  | i :: os, a, γ => ∃ o, ops[i]? = some o ∧ YO P ops S W D (Vo i) (pre i) i o a γ ∧ ∀ u, Vo i u → ownWalk P ops S W D Vo pre fin os (a.put o.dst u) (gset γ i u)

theorem wpAnyY_ordo {n g : Nat} {fin : Act → (Nat → Option Value) → Prop} (hpre : ∀ j oj, ops[j]? = some oj → ∀ k ∈ pre j, ∃ e ∈ oj.after, Region.binds md e = true ∧ e.on = k) (hsel : Region.noSelect ops = true) (hwait : ∀ listed, HeadInv md ops n listed → (∃ i, i < n ∧ listed.getD i true = false) → ∀ t ∈ Region.ready md ops listed, t < n) :
    ∀ (os : List Nat) (listed : Array Bool) (a : Act) (γ : Nat → Option Value), (∀ i ∈ os, own i = true ∧ ∃ u, Vo i u) → HeadInv md ops n listed → (∀ j, j < n → listed.getD j true = false → own j = true) → ordB md ops n g os listed = true → ownWalk P ops S W D Vo pre fin os a γ →
    wpAnyY P md ops S W D Vo pre own n (fun listed' a' γ' => Region.seqB md ops g n listed' = true ∧ fin a' γ') os.length listed a γ
  | [], listed, a, γ, _, _, _, hB, h => ⟨by simpa [ordB] using hB, h⟩
  | i :: os, listed, a, γ, hos, inv, hown, hB, ⟨o, ho, hy, hk⟩ => by
    simp only [ordB, Bool.and_eq_true, decide_eq_true_eq] at hB
    obtain ⟨⟨⟨hin, hr⟩, hf⟩, hB'⟩ := hB
    have hr' : i ∈ Region.ready md ops listed := by simpa using hr
    obtain ⟨h1, h2⟩ := hos i (by simp)
    refine wpAnyY_firsto ho (Region.noSelect_spec hsel) h1 hin hwait (fun listed' a' γ' hL => seqB_ready hL.1) h2 hpre os.length listed a γ inv (Region.free_spec ho hf) hown hr' hy fun u hu => ?_
    refine wpAnyY_ordo hpre hsel hwait os _ _ _ (fun j hj => hos j (by simp [hj])) (inv.set hr' hin) (fun j hj hun => hown j hj ?_) hB' (hk u hu)
    by_cases hij : i = j
    · subst hij; exact (mem_ready.1 hr').1
    · rw [getD_set_ne true hij] at hun; exact hun
theorem wpAnyY_ord {n g : Nat} {fin : Act → (Nat → Option Value) → Prop} (hpre : ∀ j oj, ops[j]? = some oj → ∀ k ∈ pre j, ∃ e ∈ oj.after, Region.binds md e = true ∧ e.on = k) (hsel : Region.noSelect ops = true) (hwait : ∀ listed, HeadInv md ops n listed → (∃ i, i < n ∧ listed.getD i true = false) → ∀ t ∈ Region.ready md ops listed, t < n) (os : List Nat) (hos : ∀ i ∈ os, own i = true ∧ ∃ u, Vo i u) :
    ∀ (ks : List Nat) (listed : Array Bool) (a : Act) (γ : Nat → Option Value), (∀ i ∈ ks, own i = false) → HeadInv md ops n listed → (∀ j, j < n → (marks ks listed).getD j true = false → own j = true) → ordB md ops n g (ks ++ os) listed = true → wpX P ops S W (fun a' => ownWalk P ops S W D Vo pre fin os a' γ) ks a →
    wpAnyY P md ops S W D Vo pre own n (fun listed' a' γ' => Region.seqB md ops g n listed' = true ∧ fin a' γ') (ks.length + os.length) listed a γ
  | [], listed, a, γ, _, inv, hown, hB, h => by
    rw [show ([] : List Nat).length + os.length = os.length by simp]
    exact wpAnyY_ordo hpre hsel hwait os listed a γ hos inv hown (by simpa using hB) h
  | i :: ks, listed, a, γ, hks, inv, hown, hB, ⟨o, v, ho, hy, hk⟩ => by
    simp only [List.cons_append, ordB, Bool.and_eq_true, decide_eq_true_eq] at hB
    obtain ⟨⟨⟨hin, hr⟩, hf⟩, hB'⟩ := hB
    have hr' : i ∈ Region.ready md ops listed := by simpa using hr
    rw [show (i :: ks).length + os.length = (ks.length + os.length) + 1 by simp; omega]
    exact wpAnyY_firstq ho (Region.noSelect_spec hsel) (hks i (by simp)) hin hwait (fun listed' a' γ' hL => seqB_ready hL.1) (ks.length + os.length) listed a γ inv (Region.free_spec ho hf) hr' hy
      (wpAnyY_ord hpre hsel hwait os hos ks _ _ _ (fun j hj => hks j (by simp [hj])) (inv.set hr' hin) hown hB' hk)

/-! from the kit's quiet walk, at each later world, with one frame at the end -/
def slotsB (l : List Oper) (size : Nat) : Bool := l.all (fun o => match o.dst with | some t => decide (t < size) | none => true) && decide ((l.filterMap (·.dst)).Nodup)
theorem put_size (a : Act) (d : Option Tmp) (v : Value) : (a.put d v).tmps.size = a.tmps.size := by cases d <;> simp [Act.put]
theorem put_ne (a : Act) {d : Option Tmp} (v : Value) {t : Tmp} (h : d ≠ some t) : (a.put d v).tmps[t]? = a.tmps[t]? := by
  cases d with
  | none => rfl
  | some e => have : e ≠ t := fun he => h (he ▸ rfl); simp [Act.put, Array.getElem?_setIfInBounds_ne this]
theorem quiet_slot {C : World → Prop} {fin : Act} : ∀ (l : List Oper) (a : Act) (t : Tmp), t ∉ l.filterMap (·.dst) → wpQuiet P ops C (fun a' => a' = fin) l a → fin.tmps[t]? = a.tmps[t]?
  | [], a, t, _, h => by have : a = fin := h; rw [this]
  | o :: l, a, t, ht, h => by
    have h1 : o.dst ≠ some t := fun he => ht (by simp [he])
    have h2 : t ∉ l.filterMap (·.dst) := fun hm => ht (by rw [List.filterMap_cons]; split <;> simp [*])
    unfold wpQuiet at h
    split at h
    · obtain ⟨v, _, h3⟩ := h
      rw [quiet_slot l _ t h2 h3, put_ne a v h1]
    · rw [quiet_slot l _ t h2 h, put_ne a undef h1]
theorem wpX_of_quiet {fin : Act} : ∀ (ks : List Nat) (l : List Oper) (a : Act), ks.length = l.length → (∀ (j : Nat) k, ks[j]? = some k → ops[k]? = l[j]?) → slotsB l a.tmps.size = true →
    (∀ W1, Chg S W W1 → wpQuiet P ops (fun w' => ∃ u : Since W1, w' = u.w) (fun a' => a' = fin) l a) → wpX P ops S W (fun a' => a' = fin) ks a
  | [], [], a, _, _, _, h => h W (Chg.refl _ _)
  | [], _ :: _, _, h0, _, _, _ => by simp at h0
  | _ :: _, [], _, h0, _, _, _ => by simp at h0
  | k :: ks, o :: l, a, h0, hk, hs, h => by
    have ho : ops[k]? = some o := by simpa using hk 0 k rfl
    simp only [slotsB, Bool.and_eq_true, List.all_cons, decide_eq_true_eq] at hs
    obtain ⟨⟨hs1, hs2⟩, hs3⟩ := hs
    have hs4 : (l.filterMap (·.dst)).Nodup := by
      rw [List.filterMap_cons] at hs3
      split at hs3
      · exact hs3
      · exact (List.nodup_cons.1 hs3).2
    -- the value
    obtain ⟨v, hv⟩ : ∃ v, ∀ W1 u, wpQuiet P ops (fun w' => ∃ u : Since W1, w' = u.w) (fun a' => a' = fin) l (a.put o.dst u) → (o.dst = none ∨ u = v) := by
      cases hd : o.dst with
      | none => exact ⟨undef, fun _ _ _ => .inl rfl⟩
      | some t =>
        refine ⟨fin.tmps.getD t undef, fun W1 u hq => .inr ?_⟩
        have ht : t ∉ l.filterMap (·.dst) := by
          rw [List.filterMap_cons, hd] at hs3
          exact (List.nodup_cons.1 hs3).1
        have h5 := quiet_slot l _ t ht hq
        rw [hd] at hs1
        have hlt : t < a.tmps.size := by simpa using hs1
        have h6 : (a.put (some t) u).tmps[t]? = some u := by simp [Act.put, hlt]
        rw [h6] at h5
        have : fin.tmps.getD t undef = u := by rw [Array.getD_eq_getD_getElem?, h5]; rfl
        exact this.symm
    refine ⟨o, v, ho, ?_, wpX_of_quiet ks l _ (by simpa using h0) (fun j k' hj => by simpa using hk (j + 1) k' hj) (by rw [put_size]; simp only [slotsB, Bool.and_eq_true, decide_eq_true_eq]; exact ⟨hs2, hs4⟩) fun W1 hW1 => ?_⟩
    · by_cases hw : Region.wanted o (yielded ops a.tmps) = true
      · refine .inl ⟨hw, fun w hw' => ?_⟩
        have h1 := h w hw'
        unfold wpQuiet at h1
        rw [if_pos hw] at h1
        obtain ⟨u, hu, hn⟩ := h1
        have h2 := hu w ⟨⟨w, Below.refl _ _⟩, rfl⟩
        have h3 := hv w u hn
        unfold Oper.quietAt at h2
        generalize (execOp a.eval o).run P w = r at *
        cases r with
        | ok n w' =>
          cases n <;> simp only [Oper.quietUpon] at h2 <;> simp only [qxUpon]
          case value x => exact ⟨h2.1, h2.2.symm ▸ h3⟩
          case skip => exact ⟨h2.1, h2.2 ▸ h3⟩
          case enter f args => exact ⟨h2.1, h2.2.mono fun e w'' ⟨he, u', hu'⟩ => ⟨u, he, h3, hu' ▸ u'.h⟩⟩
        | halt x w' => simp only [Oper.quietUpon] at h2
      · refine .inr ⟨by simpa using hw, ?_⟩
        have h1 := h W (Chg.refl _ _)
        unfold wpQuiet at h1
        rw [if_neg hw] at h1
        exact (hv W undef h1).imp id Eq.symm
    · have h1 := h W1 hW1
      unfold wpQuiet at h1
      split at h1
      · obtain ⟨u, _, hn⟩ := h1
        rw [put_same (hv W1 u hn)] at hn
        exact hn
      · rw [put_same (hv W1 undef h1)] at h1
        exact h1
theorem wpX_mono {Q Q' : Act → Prop} (h : ∀ a, Q a → Q' a) : ∀ (ks : List Nat) (a : Act), wpX P ops S W Q ks a → wpX P ops S W Q' ks a
  | [], a, hh => h a hh
  | _k :: ks, _a, ⟨o, v, h1, h2, h3⟩ => ⟨o, v, h1, h2, wpX_mono h ks _ h3⟩

/-- A region that draws its order: 'ks' only read, or call what makes memory and hands back one value; 'os' make memory, each hands back a value of its own kind 'Vo i'; what is known of these and of their memory is 'D', which new memory does not disturb; the rest, from 'n' on, stands in one forced order. -/
theorem wp_region_own {id : Nat} {Q : Exit → Act → World → Prop} {a : Act} {w : World} {l : List Oper} (S : Nat → Prop) (n : Nat) (ks os : List Nat) (pre : Nat → List Nat) (Vo : Nat → Value → Prop) (D : (Nat → Option Value) → World → Prop)
    (hm : P.follows .mixedOrders = true) (hB : ownB .any l n ks os = true) (hpB : preB .any l pre os = true) (hp0 : ∀ j, j ∉ os → pre j = []) (hsl : slotsB (pick l ks) a.tmps.size = true) (hst : ∀ γ w w', Below w.heap.size w w' → D γ w → D γ w') (hD : D (fun _ => none) w.drew) (hne : ∀ i ∈ os, ∃ u, Vo i u)
    (h : ∃ fin, (∀ W1, Chg S w W1 → wpQuiet P l.toArray (fun w' => ∃ u : Since W1, w' = u.w) (fun a' => a' = fin) (pick l ks) a) ∧
      ownWalk P l.toArray S w D Vo pre (fun a' γ' => ∀ w', Chg S w w' → D γ' w' → wpList P l.toArray Q (l.drop n) a' w') os fin (fun _ => none)) : (Code.region id l.toArray true).wp P Q a w := by
  obtain ⟨fin, hq, ho⟩ := h
  simp only [ownB, Bool.and_eq_true, decide_eq_true_eq, List.all_eq_true, Bool.or_eq_true, beq_iff_eq] at hB
  obtain ⟨⟨⟨⟨⟨hsel, hnn⟩, hord⟩, hdis⟩, hlen⟩, hmk⟩ := hB
  have inv0 : HeadInv .any l.toArray n (Array.replicate l.length false) :=
    ⟨by simp, fun j oj _ hl => (by rw [getD_replicate_false] at hl; cases hl), fun t _ ht => getD_in (by simpa using ht) (getD_replicate_false _ _)⟩
  have hwait : ∀ listed, HeadInv .any l.toArray n listed → (∃ i, i < n ∧ listed.getD i true = false) → ∀ t ∈ Region.ready .any l.toArray listed, t < n := fun listed inv ⟨i, hin, hun⟩ t ht => by
    rcases hnn with hnn | ⟨⟨h1, h2⟩, h3⟩
    · obtain ⟨_, ot, hot, _⟩ := mem_ready.1 ht
      have := (Array.getElem?_eq_some_iff.1 hot).1
      simp at this; omega
    · rcases Nat.lt_or_ge t n with h4 | h4
      · exact h4
      · exact absurd ht (tail_waits h2 h3 (by simpa using h1) inv _ i rfl hin hun t h4)
  have hnl : n ≤ l.length := by rcases hnn with hnn | ⟨⟨h1, _⟩, _⟩ <;> omega
  have hpick : ∀ (ks : List Nat), (∀ k ∈ ks, k < l.length) → ks.length = (pick l ks).length ∧ ∀ (j : Nat) k, ks[j]? = some k → l.toArray[k]? = (pick l ks)[j]? := by
    intro ks
    induction ks with
    | nil => intro _; exact ⟨rfl, fun j k h => by simp at h⟩
    | cons k ks ih =>
      intro hlt
      obtain ⟨i1, i2⟩ := ih fun k hk => hlt k (by simp [hk])
      have hk := hlt k (by simp)
      have he : pick l (k :: ks) = l[k] :: pick l ks := by simp [pick, hk]
      rw [he]
      refine ⟨by simp [i1], fun j k' hj => ?_⟩
      cases j with
      | zero => simp at hj; subst hj; simp [hk]
      | succ j => simpa using i2 j k' (by simpa using hj)
  have hlt : ∀ k ∈ ks, k < l.length := by
    have : ∀ (ks : List Nat) listed, ordB .any l.toArray n (l.length - n) (ks ++ os) listed = true → ∀ k ∈ ks, k < l.length := by
      intro ks
      induction ks with
      | nil => intro _ _ k hk; cases hk
      | cons x ks ih =>
        intro listed hB k hk
        simp only [List.cons_append, ordB, Bool.and_eq_true, decide_eq_true_eq] at hB
        rcases List.mem_cons.1 hk with rfl | hk
        · omega
        · exact ih _ hB.2 k hk
    exact this ks _ hord
  obtain ⟨p1, p2⟩ := hpick ks hlt
  have hX := wpX_of_quiet (P := P) (S := S) (W := w) (fin := fin) ks (pick l ks) a p1 p2 hsl hq
  have hpre : ∀ j oj, l.toArray[j]? = some oj → ∀ k ∈ pre j, ∃ e ∈ oj.after, Region.binds .any e = true ∧ e.on = k := fun j oj hj k hk => by
    have hjo : j ∈ os := by
      rcases Classical.em (j ∈ os) with h1 | h1
      · exact h1
      · rw [hp0 j h1] at hk; cases hk
    have h1 := List.all_eq_true.1 (List.all_eq_true.1 hpB j hjo) k hk
    obtain ⟨oj', hj', h2⟩ := Region.waitsFor_spec h1
    obtain rfl : oj' = oj := Option.some.inj (hj'.symm.trans hj)
    exact h2
  have H := wpAnyY_ord (P := P) (md := .any) (S := S) (W := w) (D := D) (Vo := Vo) (pre := pre) (own := fun i => os.contains i) (g := l.length - n) (fin := fun a' γ' => ∀ w', Chg S w w' → D γ' w' → wpList P l.toArray Q (l.drop n) a' w') hpre hsel hwait os (fun i hi => ⟨by simpa using hi, hne i hi⟩) ks _ a (fun _ => none) (fun i hi => by simpa using hdis i hi) inv0
    (fun j hj hun => by
      have := hmk j (List.mem_range.2 hj)
      rcases this with h1 | h1
      · rw [h1] at hun; cases hun
      · exact h1) hord (wpX_mono (fun a' ha => by subst ha; exact ho) ks a hX)
  refine wp_region_any hm ?_
  have hdl : (l.drop n).length = l.length - n := by simp
  have := wpAny_of_headY (Q' := Q) hst (fun listed a' γ' w' hw' hD' hL => by
    have := wpAny_of_seq (md := .any) (Q' := Q) (l.drop n) n listed a' w' (fun j => by simp [List.getElem?_drop]) (by rw [hdl]; exact hL.1) (hL.2 w' hw' hD')
    rwa [hdl] at this) _ _ _ _ w.drew ((Chg.refl _ _).drew) hD (fun k hk => absurd rfl hk) H
  rw [hlen, show n + (l.length - n) = l.toArray.size by simp; omega] at this
  simpa using this
end

/-! blocks that the region makes -/
inductive Shape where
  | ptr
  | slice (n c : Nat)
  | map
def Shape.val : Shape → Nat → Value
  | .ptr, g => .pointer (some ⟨g, 0, none⟩)
  | .slice n c, g => .slice (some ⟨g, 0, none⟩) n c
  | .map, g => .map (some g)
theorem Shape.inj {s : Shape} {g g' : Nat} (h : s.val g = s.val g') : g = g' := by
  cases s <;> simp [Shape.val] at h <;> exact h
structure Box where
  i : Nat
  s : Shape
  o : Obj
  st : Nat
  o' : Obj
/-- what a block holds: o, or o' behind the store 'st' (where there is none: st = i) -/
def Box.now (b : Box) (γ : Nat → Option Value) : Obj := if γ b.st = none then b.o else b.o'
structure Boxes (B : Nat) (ls : List Box) (γ : Nat → Option Value) (w : World) : Prop where
  val_ : ∀ x ∈ ls, ∀ u, γ x.i = some u → ∃ g, u = x.s.val g
  at_ : ∀ x ∈ ls, ∀ g, γ x.i = some (x.s.val g) → B ≤ g ∧ w.heap[g]? = some (x.now γ)
  ne_ : ∀ x ∈ ls, ∀ y ∈ ls, x.i ≠ y.i → ∀ g g', γ x.i = some (x.s.val g) → γ y.i = some (y.s.val g') → g ≠ g'
  pre_ : ∀ x ∈ ls, γ x.i = none → γ x.st = none
theorem Boxes.none_ {B : Nat} {ls : List Box} {w : World} : Boxes B ls (fun _ => none) w := ⟨fun _ _ _ h => (by cases h), fun _ _ _ h => (by cases h), fun _ _ _ _ _ _ _ h => (by cases h), fun _ _ _ => rfl⟩
theorem heap_lt {w : World} {g : Nat} {o : Obj} (h : w.heap[g]? = some o) : g < w.heap.size := (Array.getElem?_eq_some_iff.1 h).1
theorem Boxes.stable {B : Nat} {ls : List Box} (γ : Nat → Option Value) (w w' : World) (hb : Below w.heap.size w w') (h : Boxes B ls γ w) : Boxes B ls γ w' :=
  ⟨h.val_, fun x hx g hg => by obtain ⟨h3, h2⟩ := h.at_ x hx g hg; exact ⟨h3, (hb.block g (heap_lt h2)).trans h2⟩, h.ne_, h.pre_⟩
def IsShape (ls : List Box) (i : Nat) (u : Value) : Prop := (∀ x ∈ ls, x.i = i → ∃ g, u = x.s.val g) ∧ ((∀ x ∈ ls, x.i ≠ i) → u = undef)
/-- the indices of the list, those of its stores among them, are apart -/
def boxesB (ls : List Box) : Bool := ls.all fun x => ls.all fun y => (x.i == y.i) == decide (x.st = y.st) && (x.i != y.st || x.st == x.i && x.i == y.i)
theorem boxesB_i {ls : List Box} (h : boxesB ls = true) {x y : Box} (hx : x ∈ ls) (hy : y ∈ ls) : (x.i = y.i ↔ x.st = y.st) ∧ (x.i = y.st → x.st = x.i ∧ x.i = y.i) := by
  simp only [boxesB, List.all_eq_true, Bool.and_eq_true, Bool.or_eq_true, beq_iff_eq, bne_iff_ne] at h
  obtain ⟨h1, h2⟩ := h x hx y hy
  refine ⟨?_, fun he => h2.resolve_left fun hn => hn he⟩
  by_cases h3 : x.i = y.i <;> by_cases h4 : x.st = y.st <;> simp [h3, h4] at h1 ⊢
theorem Boxes.make {B : Nat} {ls : List Box} {γ : Nat → Option Value} {w : World} {x0 : Box} (hls : boxesB ls = true) (hB : B ≤ w.heap.size) (h : Boxes B ls γ w) (h0 : x0 ∈ ls) (hn : γ x0.i = none) (hu : ∀ x ∈ ls, x.i = x0.i → x = x0) (ho : x0.st = x0.i → x0.o' = x0.o) :
    IsShape ls x0.i (x0.s.val w.heap.size) ∧ Below w.heap.size w (w.alloc x0.o) ∧ Boxes B ls (gset γ x0.i (x0.s.val w.heap.size)) (w.alloc x0.o) := by
  have hb : Below w.heap.size w (w.alloc x0.o) := (Below.refl _ _).alloc (Nat.le_refl _) _
  have now0 : x0.now (gset γ x0.i (x0.s.val w.heap.size)) = x0.o := by
    unfold Box.now gset
    by_cases hs : x0.st = x0.i
    · rw [if_pos hs, if_neg (by simp), ho hs]
    · rw [if_neg hs, if_pos (h.pre_ x0 h0 hn)]
  have nowx : ∀ x ∈ ls, x.i ≠ x0.i → x.now (gset γ x0.i (x0.s.val w.heap.size)) = x.now γ := fun x hx hxi => by
    have : x.st ≠ x0.i := fun he => hxi ((boxesB_i hls h0 hx).2 he.symm).2.symm
    unfold Box.now gset
    rw [if_neg this]
  have old : ∀ z ∈ ls, z.i ≠ x0.i → ∀ g, gset γ x0.i (x0.s.val w.heap.size) z.i = some (z.s.val g) → γ z.i = some (z.s.val g) ∧ g < w.heap.size := fun z hz hzi g hg => by
    simp [gset, hzi] at hg
    exact ⟨hg, heap_lt (h.at_ z hz g hg).2⟩
  have new : ∀ z ∈ ls, z.i = x0.i → ∀ g, gset γ x0.i (x0.s.val w.heap.size) z.i = some (z.s.val g) → g = w.heap.size := fun z hz hzi g hg => by
    obtain rfl := hu z hz hzi
    simp [gset] at hg
    exact (Shape.inj hg).symm
  refine ⟨⟨fun x hx hxi => ⟨w.heap.size, by rw [hu x hx hxi]⟩, fun hno => absurd rfl (hno x0 h0)⟩, hb, fun x hx u hg => ?_, fun x hx g hg => ?_, fun x hx y hy hne g g' hg hg' => ?_, fun x hx hg => ?_⟩
  · by_cases hxi : x.i = x0.i
    · obtain rfl := hu x hx hxi
      simp [gset] at hg; exact ⟨_, hg.symm⟩
    · simp [gset, hxi] at hg; exact h.val_ x hx u hg
  · by_cases hxi : x.i = x0.i
    · obtain rfl := new x hx hxi g hg
      obtain rfl := hu x hx hxi
      exact ⟨hB, by rw [now0]; exact heap_alloc_new w _⟩
    · obtain ⟨h1, h2⟩ := old x hx hxi g hg
      obtain ⟨h3, h4⟩ := h.at_ x hx g h1
      exact ⟨h3, by rw [nowx x hx hxi, hb.block g h2]; exact h4⟩
  · by_cases hxi : x.i = x0.i
    · have hyi : y.i ≠ x0.i := fun he => hne (hxi.trans he.symm)
      have h1 := new x hx hxi g hg
      have h2 := (old y hy hyi g' hg').2
      omega
    · by_cases hyi : y.i = x0.i
      · have h1 := new y hy hyi g' hg'
        have h2 := (old x hx hxi g hg).2
        omega
      · exact h.ne_ x hx y hy hne g g' (old x hx hxi g hg).1 (old y hy hyi g' hg').1
  · by_cases hxi : x.i = x0.i
    · simp [gset, hxi] at hg
    · have : x.st ≠ x0.i := fun he => hxi ((boxesB_i hls h0 hx).2 he.symm).2.symm
      simp [gset, hxi] at hg
      simp [gset, this]; exact h.pre_ x hx hg
theorem Boxes.fill {B : Nat} {ls : List Box} {γ : Nat → Option Value} {w : World} {x0 : Box} {g : Nat} {t : TypeId} {cs cs' : Array Value} (hls : boxesB ls = true) (h : Boxes B ls γ w) (h0 : x0 ∈ ls) (hu : ∀ x ∈ ls, x.i = x0.i → x = x0) (hs : x0.st ≠ x0.i) (hn : γ x0.st = none)
    (hg : γ x0.i = some (x0.s.val g)) (ho : x0.o = .cells cs t) (ho' : x0.o' = .cells cs' t) : B ≤ g ∧ w.heap[g]? = some (.cells cs t (0, 0)) ∧ Boxes B ls (gset γ x0.st undef) (w.setRow g cs') := by
  obtain ⟨hB, hh⟩ := h.at_ x0 h0 g hg
  have hh' : w.heap[g]? = some (.cells cs t (0, 0)) := by rw [hh]; unfold Box.now; rw [if_pos hn, ho]
  have hi : ∀ x ∈ ls, x.i ≠ x0.st := fun x hx he => hs (he.symm.trans ((boxesB_i hls hx h0).2 he).2)
  have hst : ∀ x ∈ ls, x.i ≠ x0.i → x.st ≠ x0.st := fun x hx hne he => hne ((boxesB_i hls hx h0).1.2 he)
  have gi : ∀ x ∈ ls, gset γ x0.st undef x.i = γ x.i := fun x hx => by simp [gset, hi x hx]
  refine ⟨hB, hh', fun x hx u hu => h.val_ x hx u (by rw [← gi x hx]; exact hu), fun x hx g' hg' => ?_, fun x hx y hy hne g1 g2 h1 h2 => h.ne_ x hx y hy hne g1 g2 (by rw [← gi x hx]; exact h1) (by rw [← gi y hy]; exact h2), fun x hx hg' => ?_⟩
  · rw [gi x hx] at hg'
    by_cases hxi : x.i = x0.i
    · obtain rfl := hu x hx hxi
      rw [hg] at hg'
      obtain rfl := Shape.inj (Option.some.inj hg')
      refine ⟨hB, ?_⟩
      rw [show x.now (gset γ x.st undef) = .cells cs' t by unfold Box.now gset; simp [ho']]
      exact setRow_heap w g cs cs' t _ hh'
    · obtain ⟨h3, h4⟩ := h.at_ x hx g' hg'
      refine ⟨h3, ?_⟩
      rw [show x.now (gset γ x0.st undef) = x.now γ by unfold Box.now gset; rw [if_neg (hst x hx hxi)], setRow_other w g g' cs' (h.ne_ x hx x0 h0 hxi g' g hg' hg)]
      exact h4
  · rw [gi x hx] at hg'
    have hne : x.i ≠ x0.i := fun he => by rw [he, hg] at hg'; cases hg'
    simp [gset, hst x hx hne]; exact h.pre_ x hx hg'
theorem Since.later {W w' : World} (hb : Below W.heap.size W w') {p : Addr} {v : Value} (h : W.cell? p = some v) : w'.cell? p = some v := Since.cell h ⟨w', hb⟩
theorem Boxes.get {B : Nat} {ls : List Box} {γ : Nat → Option Value} {w : World} (h : Boxes B ls γ w) {x : Box} {g : Nat} {o : Obj} (hm : x ∈ ls) (hg : γ x.i = some (x.s.val g)) (ho : x.now γ = o) : B ≤ g ∧ w.heap[g]? = some o := by
  rw [← ho]; exact h.at_ x hm g hg
theorem Boxes.apart {B : Nat} {ls : List Box} {γ : Nat → Option Value} {w : World} (h : Boxes B ls γ w) {x y : Box} {g g' : Nat} (hi : x ∈ ls) (hj : y ∈ ls) (hne : x.i ≠ y.i)
    (hg : γ x.i = some (x.s.val g)) (hg' : γ y.i = some (y.s.val g')) : g ≠ g' := h.ne_ x hi y hj hne _ _ hg hg'
/-- each index of the list has a value of its shape -/
theorem isShape_some {ls : List Box} (hu : ∀ x ∈ ls, ∀ y ∈ ls, x.i = y.i → x = y) {i : Nat} : ∃ u, IsShape ls i u := by
  by_cases h : ∃ x ∈ ls, x.i = i
  · obtain ⟨x, hx, hxi⟩ := h
    exact ⟨x.s.val 0, fun y hy hyi => ⟨0, by rw [hu x hx y hy (hxi.trans hyi.symm)]⟩, fun hno => absurd hxi (hno x hx)⟩
  · exact ⟨undef, fun x hx hxi => absurd ⟨x, hx, hxi⟩ h, fun _ => rfl⟩
/-- which own operation a store waits for -/
def preOf (ls : List Box) (j : Nat) : List Nat := (ls.filter fun x => x.st == j && x.i != j).map (·.i)
/-- a block that was there and into which the region stores one cell -/
structure Fld where
  st : Nat
  g : Nat
  t : TypeId
  cs : Array Value
  cs' : Array Value
def Fld.now (f : Fld) (γ : Nat → Option Value) : Array Value := if γ f.st = none then f.cs else f.cs'
def FS (fs : List Fld) (k : Nat) : Prop := ∃ f ∈ fs, k = f.g
structure FldOk (W : World) (ls : List Box) (fs : List Fld) : Prop where
  lt : ∀ f ∈ fs, f.g < W.heap.size
  ne : ∀ f ∈ fs, ∀ f' ∈ fs, f.st = f'.st ∨ f.g ≠ f'.g
  uniq : ∀ f ∈ fs, ∀ f' ∈ fs, f.st = f'.st → f = f'
  box : ∀ f ∈ fs, ∀ x ∈ ls, f.st ≠ x.i ∧ f.st ≠ x.st
structure Both (B : Nat) (ls : List Box) (fs : List Fld) (γ : Nat → Option Value) (w : World) : Prop where
  box : Boxes B ls γ w
  fld : ∀ f ∈ fs, Blk w f.g f.t (f.now γ)
theorem Boxes.keep {B : Nat} {ls : List Box} {γ γ' : Nat → Option Value} {w w' : World} (h : Boxes B ls γ w) (hc : ∀ k, B ≤ k → k < w.heap.size → w'.heap[k]? = w.heap[k]?) (hg : ∀ x ∈ ls, γ' x.i = γ x.i ∧ γ' x.st = γ x.st) : Boxes B ls γ' w' := by
  refine ⟨fun x hx u hu => h.val_ x hx u (by rw [← (hg x hx).1]; exact hu), fun x hx g hu => ?_, fun x hx y hy hne g g' h1 h2 => h.ne_ x hx y hy hne g g' (by rw [← (hg x hx).1]; exact h1) (by rw [← (hg y hy).1]; exact h2), fun x hx hu => by rw [(hg x hx).2]; exact h.pre_ x hx (by rw [← (hg x hx).1]; exact hu)⟩
  obtain ⟨h1, h2⟩ := h.at_ x hx g (by rw [← (hg x hx).1]; exact hu)
  refine ⟨h1, ?_⟩
  rw [hc g h1 (heap_lt h2), h2]
  unfold Box.now
  rw [(hg x hx).2]
theorem Both.stable {B : Nat} {ls : List Box} {fs : List Fld} (γ : Nat → Option Value) (w w' : World) (hb : Below w.heap.size w w') (h : Both B ls fs γ w) : Both B ls fs γ w' :=
  ⟨h.box.stable γ w w' hb, fun f hf => (h.fld f hf).below hb (h.fld f hf).lt⟩
theorem Both.none_ {B : Nat} {ls : List Box} {fs : List Fld} {w : World} (h : ∀ f ∈ fs, Blk w f.g f.t f.cs) : Both B ls fs (fun _ => none) w := ⟨Boxes.none_, fun f hf => by unfold Fld.now; rw [if_pos rfl]; exact h f hf⟩
theorem ownWalk_alloc {P : Program} {ops : Array Oper} {W : World} {ls : List Box} {fs : List Fld} {fin : Act → (Nat → Option Value) → Prop} {os : List Nat} {i d : Nat} {o : Oper} {a : Act} {γ : Nat → Option Value} (x : Box)
    (hok : FldOk W ls fs) (hls : boxesB ls = true) (hxi : x.i = i) (ho : ops[i]? = some o) (hd : o.dst = some d) (hw : Region.wanted o (yielded ops a.tmps) = true)
    (hrun : ∀ w, (execOp a.eval o).run P w = .ok (.value (x.s.val w.heap.size)) (w.alloc x.o)) (hm : x ∈ ls) (hu : ∀ y ∈ ls, y.i = x.i → y = x) (hoo : x.st = x.i → x.o' = x.o)
    (hk : ∀ g : Nat, ownWalk P ops (FS fs) W (Both W.heap.size ls fs) (IsShape ls) (preOf ls) fin os { tmps := a.tmps.setIfInBounds d (x.s.val g), defers := a.defers } (gset γ i (x.s.val g))) : ownWalk P ops (FS fs) W (Both W.heap.size ls fs) (IsShape ls) (preOf ls) fin (i :: os) a γ := by
  subst hxi
  refine ⟨o, ho, ⟨hw, fun w γ hb hD hn _ => ?_⟩, fun u hu' => ?_⟩
  · rw [hrun w]
    obtain ⟨h1, h2, h3⟩ := hD.box.make hls hb.size hm hn hu hoo
    refine ⟨h1, hb.trans (.of_below h2), h3, fun f hf => ?_⟩
    have : f.now (gset γ x.i (x.s.val w.heap.size)) = f.now γ := by unfold Fld.now gset; rw [if_neg (hok.box f hf x hm).1]
    rw [this]
    exact (hD.fld f hf).below h2 (hD.fld f hf).lt
  · obtain ⟨g, rfl⟩ := hu'.1 x hm rfl
    rw [hd]
    exact hk g
theorem ownWalk_fill {P : Program} {ops : Array Oper} {W : World} {ls : List Box} {fs : List Fld} {fin : Act → (Nat → Option Value) → Prop} {os : List Nat} {j g : Nat} {o : Oper} {a : Act} {γ : Nat → Option Value} (x : Box) {t ty : TypeId} {cs cs' : Array Value} {px py : Operand}
    (hok : FldOk W ls fs) (hls : boxesB ls = true) (hxj : x.st = j) (ho : ops[j]? = some o) (hd : o.dst = none) (hw : Region.wanted o (yielded ops a.tmps) = true) (hop : o.op = .store ty px py) (hs : x.s = .ptr)
    (hpx : a.eval px = .pointer (some ⟨g, 0, none⟩)) (hpy : a.eval py = .agg cs') (hinf : (P.info? ty).map (·.size) = some cs'.size) (hold : cs.size = cs'.size) (h1 : cs'.all (·.oneCell') = true) (hox : x.o = .cells cs t) (hox' : x.o' = .cells cs' t)
    (hm : x ∈ ls) (hu : ∀ y ∈ ls, y.i = x.i → y = x) (hne : x.st ≠ x.i) (hg : γ x.i = some (.pointer (some ⟨g, 0, none⟩)))
    (hk : ownWalk P ops (FS fs) W (Both W.heap.size ls fs) (IsShape ls) (preOf ls) fin os a (gset γ j undef)) (hnone : ∀ y ∈ ls, y.i ≠ j) : ownWalk P ops (FS fs) W (Both W.heap.size ls fs) (IsShape ls) (preOf ls) fin (j :: os) a γ := by
  subst hxj
  refine ⟨o, ho, ⟨hw, fun w γ' hb hD hn hp => ?_⟩, fun u hu' => ?_⟩
  · have hg' : γ' x.i = some (x.s.val g) := by
      rw [hp x.i (List.mem_map.2 ⟨x, List.mem_filter.2 ⟨hm, by simp [Ne.symm hne]⟩, rfl⟩), hg, hs]; rfl
    obtain ⟨hB, hh, hD'⟩ := hD.box.fill hls hm hu hne hn hg' hox hox'
    have hrun : (execOp a.eval o).run P w = .ok .skip (w.setRow g cs') := by
      unfold execOp
      simp only [hop, hpx, hpy, Instr.storeAt, Instr.sureAddr, Sem.run_bind, Sem.run_pure, Result.andThen_ok, run_storeVar_row w g t ty cs cs' hh hinf hold h1]
    rw [hrun]
    refine ⟨⟨fun y hy hyi => absurd hyi (hnone y hy), fun _ => rfl⟩, hb.trans' (Chg.row1 cs') (fun k hk he => by subst he; omega), hD', fun f hf => ?_⟩
    have : f.now (gset γ' x.st undef) = f.now γ' := by unfold Fld.now gset; rw [if_neg (hok.box f hf x hm).2]
    rw [this]
    exact (hD.fld f hf).chg1 (Chg.row1 cs') (by have := hok.lt f hf; omega)
  · rw [hd]
    obtain rfl := hu'.2 hnone
    exact hk
theorem run_store_at {P : Program} {o : Oper} {a : Act} {w : World} (ty : TypeId) (x y : Operand) (ho : o.op = .store ty x y)
    {g i : Nat} {t : TypeId} {old : Array Value} (v : Value) (hb : Blk w g t old) (hx : a.eval x = .pointer (some ⟨g, i, none⟩)) (hy : a.eval y = v) (hi : (P.info? ty).map (·.size) = some 1) (hc : v.cells = #[v])
    (hlt : i < old.size) (h1 : v.oneCell' = true) : (execOp a.eval o).run P w = .ok .skip (w.setCell ⟨g, i, none⟩ v) := by
  have hcell : w.cell? ⟨g, i, none⟩ = some old[i] := by rw [hb.cell i]; simp [hlt]
  have hst : (store ((⟨g, i, none⟩ : Addr).add 0) v).run P w = .ok () (w.setCell ⟨g, i, none⟩ v) := by
    rw [show (⟨g, i, none⟩ : Addr).add 0 = ⟨g, i, none⟩ by simp [Addr.add], run_store P w _ v _ h1, hcell]
    simp [hb.frozen i]
  have hrun : (storeVar ty ⟨g, i, none⟩ v).run P w = .ok () (w.setCell ⟨g, i, none⟩ v) := by
    cases hq : P.info? ty with
    | none => simp [hq] at hi
    | some inf =>
      have hs : inf.size = 1 := by simpa [hq] using hi
      simp [storeVar, sizeOf, typeInfo, hq, hc, hs, storeCells, hst]
  unfold execOp
  simp only [ho, hx, hy, Instr.storeAt, Instr.sureAddr, Sem.run_bind, Sem.run_pure, Result.andThen_ok, hrun]
theorem ownWalk_put {P : Program} {ops : Array Oper} {W : World} {ls : List Box} {fs : List Fld} {fin : Act → (Nat → Option Value) → Prop} {os : List Nat} {j i : Nat} {o : Oper} {a : Act} {γ : Nat → Option Value} (f : Fld) {ty : TypeId} {v : Value} {px py : Operand}
    (hok : FldOk W ls fs) (hm : f ∈ fs) (hfj : f.st = j) (ho : ops[j]? = some o) (hd : o.dst = none) (hw : Region.wanted o (yielded ops a.tmps) = true) (hop : o.op = .store ty px py)
    (hpx : a.eval px = .pointer (some ⟨f.g, i, none⟩)) (hpy : a.eval py = v) (hinf : (P.info? ty).map (·.size) = some 1) (hc : v.cells = #[v]) (hlt : i < f.cs.size) (h1 : v.oneCell' = true) (hnew : f.cs' = f.cs.setIfInBounds i v) (hnone : ∀ y ∈ ls, y.i ≠ j)
    (hk : ownWalk P ops (FS fs) W (Both W.heap.size ls fs) (IsShape ls) (preOf ls) fin os a (gset γ j undef)) : ownWalk P ops (FS fs) W (Both W.heap.size ls fs) (IsShape ls) (preOf ls) fin (j :: os) a γ := by
  subst hfj
  refine ⟨o, ho, ⟨hw, fun w γ' hb hD hn _ => ?_⟩, fun u hu' => ?_⟩
  · have hbf : Blk w f.g f.t f.cs := by have := hD.fld f hm; unfold Fld.now at this; rw [if_pos hn] at this; exact this
    rw [run_store_at ty px py hop v hbf hpx hpy hinf hc hlt h1]
    have hc1 : Chg (fun k => k = f.g) w (w.setCell ⟨f.g, i, none⟩ v) := Chg.set1 v
    refine ⟨⟨fun y hy hyi => absurd hyi (hnone y hy), fun _ => rfl⟩, hb.trans' hc1 (fun k hk he => ⟨f, hm, he⟩), ?_, fun f' hf' => ?_⟩
    · refine hD.box.keep (fun k hk hkl => hc1.block k hkl (by have := hok.lt f hm; intro he; omega)) fun x hx => ?_
      obtain ⟨e1, e2⟩ := hok.box f hm x hx
      simp [gset, Ne.symm e1, Ne.symm e2]
    · by_cases hff : f'.st = f.st
      · obtain rfl := hok.uniq f' hf' f hm hff
        have : f'.now (gset γ' f'.st undef) = f'.cs' := by unfold Fld.now gset; simp
        rw [this, hnew]
        exact hbf.set_ i v
      · have : f'.now (gset γ' f.st undef) = f'.now γ' := by unfold Fld.now gset; rw [if_neg hff]
        rw [this]
        exact (hD.fld f' hf').chg1 hc1 ((hok.ne f' hf' f hm).resolve_left hff)
  · rw [hd]
    obtain rfl := hu'.2 hnone
    exact hk
theorem run_exec_make {P : Program} {o : Oper} {a : Act} {w w' : World} {t : TypeId} {x y : Operand} {v : Value} (h : o.op = .makeSlice t x y) (hr : (Instr.makeSlice t (a.eval x) (a.eval y)).run P w = .ok v w') : (execOp a.eval o).run P w = .ok (.value v) w' := by
  unfold execOp
  simp only [h, Sem.run_bind, hr, Result.andThen_ok]
  rfl
/-- making a slice whose elements take one cell -/
theorem run_make1 {P : Program} {t e : TypeId} {z : Value} {bytes : Nat} (ht : P.underlying t = some (.slice e)) (h : (P.info? e).map (fun i => (i.zero, i.size, i.bytes)) = some (some z, 1, bytes)) (hz : z.cells = #[z]) (hb : bytes ≤ 4096) (n : Nat) (hn : n ≤ 1000000) (w : World) :
    (Instr.makeSlice t (.int .i64 n) (.int .i64 n)).run P w = .ok (.slice (some ⟨w.heap.size, 0, none⟩) n n) (w.alloc (.cells (List.replicate n z).toArray e)) := by
  obtain ⟨i, hi, h1, h2, h3⟩ := info_parts h
  have hbn : (i.bytes : Int) * n ≤ 281474976710656 := by
    rw [h3]
    have h4 : bytes * n ≤ 4096 * 1000000 := Nat.mul_le_mul hb hn
    have h5 : ((bytes * n : Nat) : Int) = (bytes : Int) * (n : Int) := Int.natCast_mul _ _
    omega
  rw [run_make w t e i z ht hi h1 .i64 .i64 n n (by omega) (Int.le_refl _) hbn (by omega)]
  simp only [Int.toNat_natCast, h2, Nat.mul_one, hz]
  congr 3
  apply Array.ext
  · simp [size_madeCells]
  · intro j h1 h2
    simp [madeCells, Nat.mod_one]
theorem ownWalk_nil {P : Program} {ops : Array Oper} {W : World} {D : (Nat → Option Value) → World → Prop} {Vo : Nat → Value → Prop} {pre : Nat → List Nat} {fin : Act → (Nat → Option Value) → Prop} {a : Act} {γ : Nat → Option Value} (h : fin a γ) {S : Nat → Prop} : ownWalk P ops S W D Vo pre fin [] a γ := h
/-- the law, for blocks that the region makes and fills, and for blocks that were there and into which it stores -/
theorem wp_region_both {P : Program} {id : Nat} {Q : Exit → Act → World → Prop} {a : Act} {w : World} {l : List Oper} (n : Nat) (ks os : List Nat) (ls : List Box) (fs : List Fld) (hfb : ∀ f ∈ fs, Blk w f.g f.t f.cs)
    (hm : P.follows .mixedOrders = true) (hB : ownB .any l n ks os = true) (hpB : preB .any l (preOf ls) os = true) (hsl : slotsB (pick l ks) a.tmps.size = true) (hst : ls.all (fun x => os.contains x.st) = true) (hu : ∀ x ∈ ls, ∀ y ∈ ls, x.i = y.i → x = y)
    (h : ∃ fin, (∀ W1, Chg (FS fs) w W1 → wpQuiet P l.toArray (fun w' => ∃ u : Since W1, w' = u.w) (fun a' => a' = fin) (pick l ks) a) ∧
      ownWalk P l.toArray (FS fs) w (Both w.heap.size ls fs) (IsShape ls) (preOf ls) (fun a' γ' => ∀ w', Chg (FS fs) w w' → Both w.heap.size ls fs γ' w' → wpList P l.toArray Q (l.drop n) a' w') os fin (fun _ => none)) : (Code.region id l.toArray true).wp P Q a w :=
  wp_region_own (FS fs) n ks os (preOf ls) (IsShape ls) (Both w.heap.size ls fs) hm hB hpB (fun j hj => by
    unfold preOf
    rw [List.filter_eq_nil_iff.2, List.map_nil]
    intro x hx
    have h1 := List.all_eq_true.1 hst x hx
    simp only [Bool.and_eq_true, beq_iff_eq, bne_iff_ne, not_and]
    rintro rfl
    exact absurd (by simpa using h1) hj) hsl Both.stable (Both.none_ hfb) (fun _ _ => isShape_some hu) h
theorem FldOk.nil_ {W : World} {ls : List Box} : FldOk W ls [] := ⟨fun _ h => (by cases h), fun _ h => (by cases h), fun _ h => (by cases h), fun _ h => (by cases h)⟩
theorem Chg.nil_ {W w : World} (h : Chg (FS []) W w) : Below W.heap.size W w := h.to_below (Nat.le_refl _) fun k _ hk => by obtain ⟨f, hf, _⟩ := hk; cases hf
theorem Chg.one_ {W w : World} {f : Fld} (h : Chg (FS [f]) W w) : Chg (fun k => k = f.g) W w := h.mono fun k _ ⟨f', hf, hk⟩ => by simp at hf; subst hf; exact hk
theorem FldOk.one_ {W : World} {ls : List Box} {f : Fld} (h : f.g < W.heap.size) (hb : ∀ x ∈ ls, f.st ≠ x.i ∧ f.st ≠ x.st) : FldOk W ls [f] :=
  ⟨fun f' hf => by simp at hf; subst hf; exact h, fun a ha b hb => by simp at ha hb; subst ha hb; exact .inl rfl, fun a ha b hb _ => by simp at ha hb; rw [ha, hb], fun f' hf => by simp at hf; subst hf; exact hb⟩
theorem Chg.cell1 {W w : World} {g : Nat} (h : Chg (fun k => k = g) W w) {p : Addr} {v : Value} (hc : W.cell? p = some v) (hne : p.block ≠ g) : w.cell? p = some v := by
  have hlt : p.block < W.heap.size := by
    unfold World.cell? at hc
    rcases Nat.lt_or_ge p.block W.heap.size with h1 | h1
    · exact h1
    · rw [Array.getElem?_eq_none h1] at hc; cases hc
  rw [World.cell?_of_block (h.block _ hlt hne)]
  exact hc
/-- a store of a whole block of one's own -/
theorem wpList_store_blk {P : Program} {ops : Array Oper} {rest : List Oper} {o : Oper} {a : Act} {w : World} {Q : Exit → Act → World → Prop} (hgd : o.guard = none) (ty : TypeId) (x y : Operand) (ho : o.op = .store ty x y)
    {g : Nat} {t : TypeId} {old : Array Value} (cells : Array Value) (hb : Blk w g t old) (hx : a.eval x = .pointer (some ⟨g, 0, none⟩)) (hy : a.eval y = .agg cells) (hi : (P.info? ty).map (·.size) = some cells.size)
    (hold : old.size = cells.size) (h1 : cells.all (·.oneCell') = true)
    (h : ∀ w', Blk w' g t cells → Chg (fun k => k = g) w w' → wpList P ops Q rest (a.put o.dst undef) w') : wpList P ops Q (o :: rest) a w :=
  wpList_store_row hgd ty x y ho g cells hx hy t old hb hi hold h1 (h _ (setRow_heap w g old cells t _ hb) (Chg.row1 cells))
/-- a store of one cell into a block of one's own -/
theorem wpList_store_at {P : Program} {ops : Array Oper} {rest : List Oper} {o : Oper} {a : Act} {w : World} {Q : Exit → Act → World → Prop} (hgd : o.guard = none) (ty : TypeId) (x y : Operand) (ho : o.op = .store ty x y)
    {g i : Nat} {t : TypeId} {old : Array Value} (v : Value) (hb : Blk w g t old) (hx : a.eval x = .pointer (some ⟨g, i, none⟩)) (hy : a.eval y = v) (hi : (P.info? ty).map (·.size) = some 1) (hc : v.cells = #[v])
    (hlt : i < old.size) (h1 : v.oneCell' = true)
    (h : ∀ w', Blk w' g t (old.setIfInBounds i v) → Chg (fun k => k = g) w w' → wpList P ops Q rest (a.put o.dst undef) w') : wpList P ops Q (o :: rest) a w := by
  refine wpList_plain hgd fun _ hK => ?_
  unfold Oper.wp
  rw [run_store_at ty x y ho v hb hx hy hi hc hlt h1]
  exact hK _ _ (h _ (hb.set_ i v) (Chg.set1 v))
theorem Both.get {B : Nat} {ls : List Box} {fs : List Fld} {γ : Nat → Option Value} {w : World} (h : Both B ls fs γ w) {f : Fld} {cs : Array Value} (hm : f ∈ fs) (hn : f.now γ = cs) : Blk w f.g f.t cs := by rw [← hn]; exact h.fld f hm
end Go.Proofs.Ytnejacogflkmmaa

/- Regions that draw their order and hold several calls, each of which hands back a value of its own and new memory: reading operations first, then the calls, then the forced end. -/
namespace Go.Proofs.Ytnejacogflkmmaa
open Go Go.RowKit
/-- a call at index i: what is known of its value and of the world -/
structure Cl where
  i : Nat
  ok : Value → World → Prop
structure Cl.Good (x : Cl) : Prop where
  stable : ∀ u w w', Below w.heap.size w w' → x.ok u w → x.ok u w'
  lt : ∀ u w, x.ok u w → ∀ b, u.ownBlock = some b → b < w.heap.size
structure DC (ls : List Cl) (γ : Nat → Option Value) (w : World) : Prop where
  ok : ∀ x ∈ ls, ∀ u, γ x.i = some u → x.ok u w
  apart : ∀ x ∈ ls, ∀ y ∈ ls, x.i ≠ y.i → ∀ u v, γ x.i = some u → γ y.i = some v → ∀ b, u.ownBlock = some b → v.ownBlock ≠ some b
theorem DC.stable {ls : List Cl} (hg : ∀ x ∈ ls, x.Good) (γ : Nat → Option Value) (w w' : World) (hb : Below w.heap.size w w') (h : DC ls γ w) : DC ls γ w' :=
  ⟨fun x hx u hu => (hg x hx).stable u w w' hb (h.ok x hx u hu), h.apart⟩
def noS (_ : Nat) : Prop := False
theorem Chg.noS_ {W w : World} (h : Chg noS W w) : Below W.heap.size W w := h.to_below (Nat.le_refl _) fun _ _ hk => hk
theorem run_call_fn {P : Program} {o : Oper} {a : Act} {f : FuncId} {xs : Array Operand} {ts : Array TypeId} (ho : o.op = .call { callee := .value (.func f), args := xs, argTypes := ts }) (hf : ∀ args w, (callFunc f args).run P w = .ok (.enter f args) w) (w : World) :
    (execOp a.eval o).run P w = .ok (.enter f (xs.map a.eval)) w := by
  unfold execOp
  simp [ho, resolve, invoke, Act.eval, Deferred.ofValue, hf]
theorem ownWalk_call {P : Program} {ops : Array Oper} {W : World} {ls : List Cl} {fin : Act → (Nat → Option Value) → Prop} {os : List Nat} {i d : Nat} {o : Oper} {a : Act} {γ : Nat → Option Value} {f : FuncId} {xs : Array Operand} {ts : Array TypeId} {args : Array Value} (x : Cl)
    (hg : ∀ x ∈ ls, x.Good) (hxi : x.i = i) (ho : ops[i]? = some o) (hd : o.dst = some d) (hw : Region.wanted o (yielded ops a.tmps) = true)
    (hop : o.op = .call { callee := .value (.func f), args := xs, argTypes := ts }) (hargs : xs.map a.eval = args) (hf : ∀ args w, (callFunc f args).run P w = .ok (.enter f args) w) (hm : x ∈ ls) (hu : ∀ y ∈ ls, y.i = x.i → y = x)
    (hcall : ∀ w, Below W.heap.size W w → Calls P f args w fun e w'' => ∃ u, e = .returned u ∧ x.ok u w'' ∧ (∀ b, u.ownBlock = some b → w.heap.size ≤ b) ∧ Below w.heap.size w w'')
    (hk : ∀ u, ownWalk P ops noS W (DC ls) (fun _ _ => True) (fun _ => []) fin os { tmps := a.tmps.setIfInBounds d u, defers := a.defers } (gset γ i u)) :
    ownWalk P ops noS W (DC ls) (fun _ _ => True) (fun _ => []) fin (i :: os) a γ := by
  subst hxi
  refine ⟨o, ho, ⟨hw, fun w γ hb hD hn _ => ?_⟩, fun u _ => ?_⟩
  · rw [run_call_fn hop hf w, hargs]
    refine ⟨rfl, (hcall w hb.noS_).mono ?_⟩
    rintro e w'' ⟨u, he, hok, hnew, hbl⟩
    refine ⟨u, he, trivial, hb.trans (.of_below hbl), fun y hy v hv => ?_, fun y hy z hz hyz v v' hv hv' b hb' => ?_⟩
    · unfold gset at hv
      split at hv
      · rename_i he
        injection hv with hv
        subst hv
        obtain rfl := hu y hy he
        exact hok
      · exact (hg y hy).stable v w w'' hbl (hD.ok y hy v hv)
    · unfold gset at hv hv'
      split at hv
      · rename_i he
        injection hv with hv
        subst hv
        rw [if_neg (fun h => hyz (he.trans h.symm))] at hv'
        intro h2
        have h3 := (hg z hz).lt v' w (hD.ok z hz v' hv') b h2
        have h4 := hnew b hb'
        omega
      · rename_i hne
        split at hv'
        · injection hv' with hv'
          subst hv'
          intro h2
          have h3 := (hg y hy).lt v w (hD.ok y hy v hv) b hb'
          have h4 := hnew b h2
          omega
        · exact hD.apart y hy z hz hyz v v' hv hv' b hb'
  · rw [hd]
    exact hk u
theorem wp_region_calls {P : Program} {id : Nat} {Q : Exit → Act → World → Prop} {a : Act} {w : World} {l : List Oper} (n : Nat) (ks os : List Nat) (ls : List Cl) (hg : ∀ x ∈ ls, x.Good)
    (hm : P.follows .mixedOrders = true) (hB : ownB .any l n ks os = true) (hpB : preB .any l (fun _ => []) os = true) (hsl : slotsB (pick l ks) a.tmps.size = true)
    (h : ∃ fin, (∀ W1, Below w.heap.size w W1 → wpQuiet P l.toArray (fun w' => ∃ u : Since W1, w' = u.w) (fun a' => a' = fin) (pick l ks) a) ∧
      ownWalk P l.toArray noS w (DC ls) (fun _ _ => True) (fun _ => []) (fun a' γ' => ∀ w', Below w.heap.size w w' → DC ls γ' w' → wpList P l.toArray Q (l.drop n) a' w') os fin (fun _ => none)) : (Code.region id l.toArray true).wp P Q a w := by
  obtain ⟨fin, h1, h2⟩ := h
  refine wp_region_own noS n ks os (fun _ => []) (fun _ _ => True) (DC ls) hm hB hpB (fun _ _ => rfl) hsl (DC.stable hg) ⟨fun _ _ _ h => (by cases h), fun _ _ _ _ _ _ _ h => (by cases h)⟩ (fun _ _ => ⟨undef, trivial⟩) ⟨fin, fun W1 hc => h1 W1 hc.noS_, ?_⟩
  have key : ∀ (os : List Nat) a γ, ownWalk P l.toArray noS w (DC ls) (fun _ _ => True) (fun _ => []) (fun a' γ' => ∀ w', Below w.heap.size w w' → DC ls γ' w' → wpList P l.toArray Q (l.drop n) a' w') os a γ →
      ownWalk P l.toArray noS w (DC ls) (fun _ _ => True) (fun _ => []) (fun a' γ' => ∀ w', Chg noS w w' → DC ls γ' w' → wpList P l.toArray Q (l.drop n) a' w') os a γ := by
    intro os
    induction os with
    | nil => intro a γ h w' hc hD; exact h w' hc.noS_ hD
    | cons i os ih =>
      rintro a γ ⟨o, ho, hy, hk⟩
      exact ⟨o, ho, hy, fun u hu => ih _ _ (hk u hu)⟩
  exact key os _ _ h2
end Go.Proofs.Ytnejacogflkmmaa
