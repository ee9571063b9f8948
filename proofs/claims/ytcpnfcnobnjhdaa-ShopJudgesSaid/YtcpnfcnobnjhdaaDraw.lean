/- Regions that draw their order and hold operations that make memory (own operations: alloc, box, make, calls that hand back new memory) beside operations that only read: the reading ones are walked once, in the order of the text; then the own ones, whatever value they hand back; then the forced end. -/
import Derived.Test.YtcpnfcnobnjhdaaRegion
namespace Go.Proofs.Ytcpnfcnobnjhdaa
open Go Go.RowKit

def gset (γ : Nat → Option Value) (i : Nat) (u : Value) : Nat → Option Value := fun k => if k = i then some u else γ k
theorem gset_comm (γ : Nat → Option Value) {i j : Nat} (u v : Value) (h : i ≠ j) : gset (gset γ i u) j v = gset (gset γ j v) i u := by
  funext k; unfold gset
  by_cases h1 : k = i
  · subst h1; simp [h]
  · by_cases h2 : k = j
    · subst h2; simp [h1]
    · simp [h1, h2]
section
variable {P : Program} {ops : Array Oper} {md : Region.Mode}

/-- a reading operation: the value (where it goes anywhere), the world no less than before -/
def qxUpon (P : Program) (w : World) (ok : Value → Prop) : Result Next → Prop
  | .ok (.value u) w' => w' = w ∧ ok u
  | .ok .skip w' => w' = w ∧ ok undef
  | .ok (.enter f args) w' => w' = w ∧ Calls P f args w (fun e w'' => ∃ u, e = .returned u ∧ ok u ∧ Below w.heap.size w w'')
  | _ => False
def YQ (P : Program) (ops : Array Oper) (W : World) (o : Oper) (v : Value) (a : Act) : Prop :=
  (Region.wanted o (yielded ops a.tmps) = true ∧ ∀ w, Below W.heap.size W w → qxUpon P w (fun u => o.dst = none ∨ u = v) ((execOp a.eval o).run P w)) ∨
  (Region.wanted o (yielded ops a.tmps) = false ∧ (o.dst = none ∨ v = undef))
/-- an own operation -/
def ownUpon (P : Program) (D : (Nat → Option Value) → World → Prop) (w : World) (V : Value → Prop) (γ : Nat → Option Value) (i : Nat) : Result Next → Prop
  | .ok (.value u) w' => V u ∧ Below w.heap.size w w' ∧ D (gset γ i u) w'
  | .ok (.enter f args) w' => w' = w ∧ Calls P f args w (fun e w'' => ∃ u, e = .returned u ∧ V u ∧ Below w.heap.size w w'' ∧ D (gset γ i u) w'')
  | _ => False
def YO (P : Program) (ops : Array Oper) (W : World) (D : (Nat → Option Value) → World → Prop) (V : Value → Prop) (i : Nat) (o : Oper) (a : Act) : Prop :=
  Region.wanted o (yielded ops a.tmps) = true ∧ ∀ w γ, Below W.heap.size W w → D γ w → γ i = none → ownUpon P D w V γ i ((execOp a.eval o).run P w)
theorem put_same {a : Act} {d : Option Tmp} {u v : Value} (h : d = none ∨ u = v) : a.put d u = a.put d v := by
  rcases h with h | h
  · subst h; rfl
  · rw [h]
theorem YQ.of_same {W : World} {o : Oper} {v : Value} {a a' : Act} (hy : YQ P ops W o v a) (he : execOp a'.eval o = execOp a.eval o)
    (hw : Region.wanted o (yielded ops a'.tmps) = Region.wanted o (yielded ops a.tmps)) : YQ P ops W o v a' := by
  unfold YQ at *; rw [he, hw]; exact hy
theorem YO.of_same {W : World} {D : (Nat → Option Value) → World → Prop} {V : Value → Prop} {i : Nat} {o : Oper} {a a' : Act} (hy : YO P ops W D V i o a) (he : execOp a'.eval o = execOp a.eval o)
    (hw : Region.wanted o (yielded ops a'.tmps) = Region.wanted o (yielded ops a.tmps)) : YO P ops W D V i o a' := by
  unfold YO at *; rw [he, hw]; exact hy

variable {W : World} {D : (Nat → Option Value) → World → Prop} {Vo : Nat → Value → Prop} {own : Nat → Bool}
def yOp (P : Program) (ops : Array Oper) (W : World) (D : (Nat → Option Value) → World → Prop) (Vo : Nat → Value → Prop) (own : Nat → Bool) (i : Nat) (K : Act → (Nat → Option Value) → Prop) (a : Act) (γ : Nat → Option Value) : Prop :=
  ∃ o, ops[i]? = some o ∧ if own i then YO P ops W D (Vo i) i o a ∧ ∀ u, Vo i u → K (a.put o.dst u) (gset γ i u) else ∃ v, YQ P ops W o v a ∧ K (a.put o.dst v) γ
theorem yOp_mono {i : Nat} {a : Act} {γ : Nat → Option Value} {K K' : Act → (Nat → Option Value) → Prop} (h : ∀ a γ, K a γ → K' a γ) (hh : yOp P ops W D Vo own i K a γ) : yOp P ops W D Vo own i K' a γ := by
  obtain ⟨o, ho, hh⟩ := hh
  refine ⟨o, ho, ?_⟩
  split
  · rename_i hw; rw [if_pos hw] at hh; exact ⟨hh.1, fun u hu => h _ _ (hh.2 u hu)⟩
  · rename_i hw; rw [if_neg hw] at hh; obtain ⟨v, h1, h2⟩ := hh; exact ⟨v, h1, h _ _ h2⟩

theorem wpOp_of_yOp (hst : ∀ γ w w', Below w.heap.size w w' → D γ w → D γ w') {i : Nat} {a : Act} {γ : Nat → Option Value} {K : Act → (Nat → Option Value) → Prop} {K' : Act → World → Prop} {Q' : Exit → Act → World → Prop} {w : World}
    (hC : Below W.heap.size W w) (hD : D γ w) (hγ : γ i = none) (h : ∀ a' w' γ', Below W.heap.size W w' → D γ' w' → (∀ k, k ≠ i → γ' k = γ k) → K a' γ' → K' a' w') (hh : yOp P ops W D Vo own i K a γ) : wpOp P ops Q' i K' a w := by
  obtain ⟨o, ho, hh⟩ := hh
  unfold wpOp
  simp only [ho]
  have trans : ∀ {w'}, Below w.heap.size w w' → Below W.heap.size W w' := fun hb => hC.trans (hb.mono hC.size)
  by_cases hw : own i
  · rw [if_pos hw] at hh
    obtain ⟨⟨hwan, hy⟩, hk⟩ := hh
    rw [if_pos hwan]
    refine .inl ?_
    have h3 := hy w γ hC hD hγ
    unfold Oper.wp
    generalize (execOp a.eval o).run P w = r at *
    have hg : ∀ u k, k ≠ i → gset γ i u k = γ k := fun u k hk => by simp [gset, hk]
    cases r with
    | ok n w' =>
      cases n <;> simp only [ownUpon] at h3 <;> simp only [Oper.upon]
      case value u => exact h _ _ _ (trans h3.2.1) h3.2.2 (hg u) (hk u h3.1)
      case enter f args =>
        obtain ⟨e1, hc⟩ := h3
        rw [e1]
        exact hc.mono fun e w'' ⟨u, he, hv, hb, hd⟩ => by subst he; exact h _ _ _ (trans hb) hd (hg u) (hk u hv)
    | halt x w' => simp only [ownUpon] at h3
  · rw [if_neg hw] at hh
    obtain ⟨v, hy, hk⟩ := hh
    rcases hy with ⟨hwan, hy⟩ | ⟨hwan, hv⟩
    · rw [if_pos hwan]
      refine .inl ?_
      have h3 := hy w hC
      unfold Oper.wp
      generalize (execOp a.eval o).run P w = r at *
      cases r with
      | ok n w' =>
        cases n <;> simp only [qxUpon] at h3 <;> simp only [Oper.upon]
        case value u => rw [h3.1, put_same h3.2]; exact h _ _ _ hC hD (fun _ _ => rfl) hk
        case skip => rw [h3.1, put_same h3.2]; exact h _ _ _ hC hD (fun _ _ => rfl) hk
        case enter f args =>
          obtain ⟨e1, hc⟩ := h3
          rw [e1]
          exact hc.mono fun e w'' ⟨u, he, hv, hb⟩ => by subst he; show K' (a.put o.dst u) w''; rw [put_same hv]; exact h _ _ _ (trans hb) (hst _ _ _ hb hD) (fun _ _ => rfl) hk
      | halt x w' => simp only [qxUpon] at h3
    · rw [if_neg (by rw [hwan]; exact Bool.false_ne_true)]
      rw [put_same hv] at hk
      exact h _ _ _ hC hD (fun _ _ => rfl) hk

def wpAnyY (P : Program) (md : Region.Mode) (ops : Array Oper) (W : World) (D : (Nat → Option Value) → World → Prop) (Vo : Nat → Value → Prop) (own : Nat → Bool) (n : Nat) (L : Array Bool → Act → (Nat → Option Value) → Prop) : Nat → Array Bool → Act → (Nat → Option Value) → Prop
  | 0, listed, a, γ => L listed a γ
  | f + 1, listed, a, γ =>
    Region.ready md ops listed ≠ [] ∧ ∀ i ∈ Region.ready md ops listed, i < n ∧ yOp P ops W D Vo own i (wpAnyY P md ops W D Vo own n L f (listed.setIfInBounds i true)) a γ
theorem wpAny_of_headY (hst : ∀ γ w w', Below w.heap.size w w' → D γ w → D γ w') {n g : Nat} {L : Array Bool → Act → (Nat → Option Value) → Prop} {Q' : Exit → Act → World → Prop} (hL : ∀ listed a γ w, Below W.heap.size W w → D γ w → L listed a γ → wpAny P md ops Q' g listed a w) :
    ∀ (f : Nat) (listed : Array Bool) (a : Act) (γ : Nat → Option Value) (w : World), Below W.heap.size W w → D γ w → (∀ k, γ k ≠ none → listed.getD k true = true) → wpAnyY P md ops W D Vo own n L f listed a γ → wpAny P md ops Q' (f + g) listed a w
  | 0, listed, a, γ, w, hw, hD, _, h => by rw [Nat.zero_add]; exact hL _ _ _ _ hw hD h
  | f + 1, listed, a, γ, w, hw, hD, hγ, h => by
    rw [show f + 1 + g = (f + g) + 1 by omega]
    refine ⟨fun h0 => absurd h0 h.1, fun i hi => ?_⟩
    have hun := (mem_ready.1 hi).1
    have hgi : γ i = none := by
      cases hq : γ i with
      | none => rfl
      | some x => have := hγ i (by rw [hq]; simp); rw [hun] at this; cases this
    refine wpOp_of_yOp hst hw hD hgi (fun a' w' γ' hw' hD' hk h' => wpAny_of_headY hst hL f _ a' γ' w' hw' hD' (fun k hne => ?_) h') (h.2 i hi).2
    by_cases hki : i = k
    · subst hki
      rcases Nat.lt_or_ge i listed.size with h1 | h1
      · simp [h1]
      · simp [h1]
    · rw [getD_set_ne true hki]
      exact hγ k (by rw [← hk k (Ne.symm hki)]; exact hne)

theorem not_bound {i j : Nat} {listed : Array Bool} {oj : Oper} (hi : i ∈ Region.ready md ops listed) (hall : ∀ e ∈ oj.after, Region.binds md e = true → listed.getD e.on false = true) : ∀ e ∈ oj.after, Region.binds md e = true → e.on ≠ i := fun e he hb heq => by
  have h1 := hall e he hb
  rw [heq, getD_both (mem_ready.1 hi).1] at h1
  cases h1
theorem free_after {i j : Nat} {oi : Oper} {listed : Array Bool} (hfree : ∀ j oj, ops[j]? = some oj → j ≠ i → listed.getD j true = false → (∀ e ∈ oj.after, Region.binds md e = true → e.on ≠ i) → oi.apart ops oj = true) (hjun : listed.getD j true = false) :
    ∀ k ok, ops[k]? = some ok → k ≠ i → (listed.setIfInBounds j true).getD k true = false → (∀ e ∈ ok.after, Region.binds md e = true → e.on ≠ i) → oi.apart ops ok = true := fun k ok hk hki hun hno => by
  refine hfree k ok hk hki ?_ hno
  by_cases hjk : j = k
  · subst hjk; exact hjun
  · rw [getD_set_ne true hjk] at hun; exact hun

/-- a reading operation may be taken first -/
theorem wpAnyY_firstq {n i : Nat} {oi : Oper} {v : Value} {L : Array Bool → Act → (Nat → Option Value) → Prop} (hi : ops[i]? = some oi) (hsel : ∀ (j : Nat) (o : Oper) cs b, ops[j]? = some o → o.op ≠ .select cs b)
    (hoi : own i = false) (hin : i < n) (hwait : ∀ listed, HeadInv md ops n listed → (∃ i, i < n ∧ listed.getD i true = false) → ∀ t ∈ Region.ready md ops listed, t < n)
    (hdone : ∀ listed a γ, L listed a γ → ∀ j ∈ Region.ready md ops listed, n ≤ j) :
    ∀ (f : Nat) (listed : Array Bool) (a : Act) (γ : Nat → Option Value), HeadInv md ops n listed →
      (∀ j oj, ops[j]? = some oj → j ≠ i → listed.getD j true = false → (∀ e ∈ oj.after, Region.binds md e = true → e.on ≠ i) → oi.apart ops oj = true) →
      i ∈ Region.ready md ops listed → YQ P ops W oi v a →
      wpAnyY P md ops W D Vo own n L f (listed.setIfInBounds i true) (a.put oi.dst v) γ → wpAnyY P md ops W D Vo own n L (f + 1) listed a γ := by
  have mine : ∀ {K : Act → (Nat → Option Value) → Prop} {a γ}, YQ P ops W oi v a → K (a.put oi.dst v) γ → yOp P ops W D Vo own i K a γ := fun hy hk => ⟨oi, hi, by rw [hoi]; exact ⟨v, hy, hk⟩⟩
  intro f
  induction f with
  | zero =>
    intro listed a γ inv _ hr hy H
    have hun := (mem_ready.1 hr).1
    refine ⟨fun h => (by rw [h] at hr; cases hr), fun j hj => ?_⟩
    have hjn := hwait listed inv ⟨i, hin, hun⟩ j hj
    refine ⟨hjn, ?_⟩
    by_cases hji : j = i
    · subst hji; exact mine hy H
    · have := hdone _ _ _ H j (ready_mono hj hji)
      omega
  | succ f ih =>
    intro listed a γ inv hfree hr hy H
    have hun := (mem_ready.1 hr).1
    refine ⟨fun h => (by rw [h] at hr; cases hr), fun j hj => ?_⟩
    have hjn := hwait listed inv ⟨i, hin, hun⟩ j hj
    refine ⟨hjn, ?_⟩
    by_cases hji : j = i
    · subst hji; exact mine hy H
    · obtain ⟨oj, hoj, h1⟩ := (H.2 j (ready_mono hj hji)).2
      obtain ⟨hjun, oj', hoj', hall⟩ := mem_ready.1 hj
      obtain rfl : oj' = oj := Option.some.inj (hoj'.symm.trans hoj)
      have hap := hfree j oj' hoj hji hjun (not_bound (j := j) hr hall)
      obtain ⟨p1, p2, p3⟩ := Oper.apart_spec hap
      have hsi := fun cs b => hsel i oi cs b hi
      have hsj := fun cs b => hsel j oj' cs b hoj
      have hfree' := free_after hfree hjun
      have keep : ∀ u, YQ P ops W oi v (a.put oj'.dst u) := fun u => hy.of_same (execOp_put oi hsi a oj'.dst u p3) (wanted_put oi a oj'.dst u p3)
      refine ⟨oj', hoj, ?_⟩
      have next : ∀ u γ', wpAnyY P md ops W D Vo own n L f ((listed.setIfInBounds i true).setIfInBounds j true) ((a.put oi.dst v).put oj'.dst u) γ' → wpAnyY P md ops W D Vo own n L (f + 1) (listed.setIfInBounds j true) (a.put oj'.dst u) γ' := fun u γ' h => by
        refine ih (listed.setIfInBounds j true) _ γ' (inv.set hj hjn) hfree' (ready_mono hr (Ne.symm hji)) (keep u) ?_
        rw [Array.setIfInBounds_comm _ _ hji, ← Act.put_comm a v u p2]
        exact h
      split
      · rename_i hw
        rw [if_pos hw] at h1
        exact ⟨h1.1.of_same (execOp_put oj' hsj a oi.dst v p1).symm (wanted_put oj' a oi.dst v p1).symm, fun u hu => next u _ (h1.2 u hu)⟩
      · rename_i hw
        rw [if_neg hw] at h1
        obtain ⟨u, h2, h3⟩ := h1
        exact ⟨u, h2.of_same (execOp_put oj' hsj a oi.dst v p1).symm (wanted_put oj' a oi.dst v p1).symm, next u _ h3⟩

/-- an own operation may be taken first, where only own ones are left -/
theorem wpAnyY_firsto {n i : Nat} {oi : Oper} {L : Array Bool → Act → (Nat → Option Value) → Prop} (hi : ops[i]? = some oi) (hsel : ∀ (j : Nat) (o : Oper) cs b, ops[j]? = some o → o.op ≠ .select cs b)
    (hoi : own i = true) (hin : i < n) (hwait : ∀ listed, HeadInv md ops n listed → (∃ i, i < n ∧ listed.getD i true = false) → ∀ t ∈ Region.ready md ops listed, t < n)
    (hdone : ∀ listed a γ, L listed a γ → ∀ j ∈ Region.ready md ops listed, n ≤ j) (hne : ∃ u, Vo i u) :
    ∀ (f : Nat) (listed : Array Bool) (a : Act) (γ : Nat → Option Value), HeadInv md ops n listed →
      (∀ j oj, ops[j]? = some oj → j ≠ i → listed.getD j true = false → (∀ e ∈ oj.after, Region.binds md e = true → e.on ≠ i) → oi.apart ops oj = true) →
      (∀ j, j < n → listed.getD j true = false → own j = true) →
      i ∈ Region.ready md ops listed → YO P ops W D (Vo i) i oi a →
      (∀ u, Vo i u → wpAnyY P md ops W D Vo own n L f (listed.setIfInBounds i true) (a.put oi.dst u) (gset γ i u)) → wpAnyY P md ops W D Vo own n L (f + 1) listed a γ := by
  have mine : ∀ {K : Act → (Nat → Option Value) → Prop} {a γ}, YO P ops W D (Vo i) i oi a → (∀ u, Vo i u → K (a.put oi.dst u) (gset γ i u)) → yOp P ops W D Vo own i K a γ := fun hy hk => ⟨oi, hi, by rw [hoi]; exact ⟨hy, hk⟩⟩
  intro f
  induction f with
  | zero =>
    intro listed a γ inv _ _ hr hy H
    have hun := (mem_ready.1 hr).1
    refine ⟨fun h => (by rw [h] at hr; cases hr), fun j hj => ?_⟩
    have hjn := hwait listed inv ⟨i, hin, hun⟩ j hj
    refine ⟨hjn, ?_⟩
    by_cases hji : j = i
    · subst hji; exact mine hy H
    · obtain ⟨u, hu⟩ := hne
      have := hdone _ _ _ (H u hu) j (ready_mono hj hji)
      omega
  | succ f ih =>
    intro listed a γ inv hfree hown hr hy H
    have hun := (mem_ready.1 hr).1
    refine ⟨fun h => (by rw [h] at hr; cases hr), fun j hj => ?_⟩
    have hjn := hwait listed inv ⟨i, hin, hun⟩ j hj
    refine ⟨hjn, ?_⟩
    by_cases hji : j = i
    · subst hji; exact mine hy H
    · obtain ⟨hjun, oj, hoj, hall⟩ := mem_ready.1 hj
      have hjo := hown j hjn hjun
      have hap := hfree j oj hoj hji hjun (not_bound (j := j) hr hall)
      obtain ⟨p1, p2, p3⟩ := Oper.apart_spec hap
      have hsi := fun cs b => hsel i oi cs b hi
      have hsj := fun cs b => hsel j oj cs b hoj
      have hfree' := free_after hfree hjun
      have hown' : ∀ k, k < n → (listed.setIfInBounds j true).getD k true = false → own k = true := fun k hk hun => by
        refine hown k hk ?_
        by_cases hjk : j = k
        · subst hjk; exact hjun
        · rw [getD_set_ne true hjk] at hun; exact hun
      have keep : ∀ u, YO P ops W D (Vo i) i oi (a.put oj.dst u) := fun u => hy.of_same (execOp_put oi hsi a oj.dst u p3) (wanted_put oi a oj.dst u p3)
      have get : ∀ u, Vo i u → YO P ops W D (Vo j) j oj (a.put oi.dst u) ∧ ∀ v, Vo j v → wpAnyY P md ops W D Vo own n L f ((listed.setIfInBounds i true).setIfInBounds j true) ((a.put oi.dst u).put oj.dst v) (gset (gset γ i u) j v) := fun u hu => by
        obtain ⟨oj', hoj', h1⟩ := ((H u hu).2 j (ready_mono hj hji)).2
        obtain rfl : oj' = oj := Option.some.inj (hoj'.symm.trans hoj)
        rw [if_pos hjo] at h1
        exact h1
      refine ⟨oj, hoj, ?_⟩
      rw [if_pos hjo]
      obtain ⟨u0, hu0⟩ := hne
      refine ⟨(get u0 hu0).1.of_same (execOp_put oj hsj a oi.dst u0 p1).symm (wanted_put oj a oi.dst u0 p1).symm, fun v hv => ?_⟩
      refine ih (listed.setIfInBounds j true) _ _ (inv.set hj hjn) hfree' hown' (ready_mono hr (Ne.symm hji)) (keep v) fun u hu => ?_
      rw [Array.setIfInBounds_comm _ _ hji, ← Act.put_comm a u v p2, ← gset_comm γ u v (Ne.symm hji)]
      exact (get u hu).2 v hv

/-- the order of the walk: first the reading operations, then the own ones -/
def ordB (md : Region.Mode) (ops : Array Oper) (n g : Nat) : List Nat → Array Bool → Bool
  | [], listed => Region.seqB md ops g n listed
  | k :: ks, listed => decide (k < n) && (Region.ready md ops listed).contains k && Region.free md ops listed k && ordB md ops n g ks (listed.setIfInBounds k true)
def marks : List Nat → Array Bool → Array Bool
  | [], listed => listed
  | k :: ks, listed => marks ks (listed.setIfInBounds k true)
def ownB (md : Region.Mode) (l : List Oper) (n : Nat) (ks os : List Nat) : Bool :=
  Region.noSelect l.toArray && (n == l.length || (decide (n < l.length) && Region.sinkB md l.toArray n && Region.chainB md l.toArray n)) &&
  ordB md l.toArray n (l.length - n) (ks ++ os) (Array.replicate l.length false) && ks.all (fun k => !os.contains k) && decide (ks.length + os.length = n) &&
  (List.range n).all fun j => (marks ks (Array.replicate l.length false)).getD j true || os.contains j
def pick (l : List Oper) (ks : List Nat) : List Oper := ks.filterMap (l[·]?)
def wpX (P : Program) (ops : Array Oper) (W : World) (Q : Act → Prop) : List Nat → Act → Prop
  | [], a => Q a
  | k :: ks, a => ∃ o v, ops[k]? = some o ∧ YQ P ops W o v a ∧ wpX P ops W Q ks (a.put o.dst v)
def ownWalk (P : Program) (ops : Array Oper) (W : World) (D : (Nat → Option Value) → World → Prop) (Vo : Nat → Value → Prop) (fin : Act → (Nat → Option Value) → Prop) : List Nat → Act → (Nat → Option Value) → Prop
  | [], a, γ => fin a γ
  | i :: os, a, γ => ∃ o, ops[i]? = some o ∧ YO P ops W D (Vo i) i o a ∧ ∀ u, Vo i u → ownWalk P ops W D Vo fin os (a.put o.dst u) (gset γ i u)

theorem wpAnyY_ordo {n g : Nat} {fin : Act → (Nat → Option Value) → Prop} (hsel : Region.noSelect ops = true) (hwait : ∀ listed, HeadInv md ops n listed → (∃ i, i < n ∧ listed.getD i true = false) → ∀ t ∈ Region.ready md ops listed, t < n) :
    ∀ (os : List Nat) (listed : Array Bool) (a : Act) (γ : Nat → Option Value), (∀ i ∈ os, own i = true ∧ ∃ u, Vo i u) → HeadInv md ops n listed → (∀ j, j < n → listed.getD j true = false → own j = true) → ordB md ops n g os listed = true → ownWalk P ops W D Vo fin os a γ →
    wpAnyY P md ops W D Vo own n (fun listed' a' γ' => Region.seqB md ops g n listed' = true ∧ fin a' γ') os.length listed a γ
  | [], listed, a, γ, _, _, _, hB, h => ⟨by simpa [ordB] using hB, h⟩
  | i :: os, listed, a, γ, hos, inv, hown, hB, ⟨o, ho, hy, hk⟩ => by
    simp only [ordB, Bool.and_eq_true, decide_eq_true_eq] at hB
    obtain ⟨⟨⟨hin, hr⟩, hf⟩, hB'⟩ := hB
    have hr' : i ∈ Region.ready md ops listed := by simpa using hr
    obtain ⟨h1, h2⟩ := hos i (by simp)
    refine wpAnyY_firsto ho (Region.noSelect_spec hsel) h1 hin hwait (fun listed' a' γ' hL => seqB_ready hL.1) h2 os.length listed a γ inv (Region.free_spec ho hf) hown hr' hy fun u hu => ?_
    refine wpAnyY_ordo hsel hwait os _ _ _ (fun j hj => hos j (by simp [hj])) (inv.set hr' hin) (fun j hj hun => hown j hj ?_) hB' (hk u hu)
    by_cases hij : i = j
    · subst hij; exact (mem_ready.1 hr').1
    · rw [getD_set_ne true hij] at hun; exact hun
theorem wpAnyY_ord {n g : Nat} {fin : Act → (Nat → Option Value) → Prop} (hsel : Region.noSelect ops = true) (hwait : ∀ listed, HeadInv md ops n listed → (∃ i, i < n ∧ listed.getD i true = false) → ∀ t ∈ Region.ready md ops listed, t < n) (os : List Nat) (hos : ∀ i ∈ os, own i = true ∧ ∃ u, Vo i u) :
    ∀ (ks : List Nat) (listed : Array Bool) (a : Act) (γ : Nat → Option Value), (∀ i ∈ ks, own i = false) → HeadInv md ops n listed → (∀ j, j < n → (marks ks listed).getD j true = false → own j = true) → ordB md ops n g (ks ++ os) listed = true → wpX P ops W (fun a' => ownWalk P ops W D Vo fin os a' γ) ks a →
    wpAnyY P md ops W D Vo own n (fun listed' a' γ' => Region.seqB md ops g n listed' = true ∧ fin a' γ') (ks.length + os.length) listed a γ
  | [], listed, a, γ, _, inv, hown, hB, h => by
    rw [show ([] : List Nat).length + os.length = os.length by simp]
    exact wpAnyY_ordo hsel hwait os listed a γ hos inv hown (by simpa using hB) h
  | i :: ks, listed, a, γ, hks, inv, hown, hB, ⟨o, v, ho, hy, hk⟩ => by
    simp only [List.cons_append, ordB, Bool.and_eq_true, decide_eq_true_eq] at hB
    obtain ⟨⟨⟨hin, hr⟩, hf⟩, hB'⟩ := hB
    have hr' : i ∈ Region.ready md ops listed := by simpa using hr
    rw [show (i :: ks).length + os.length = (ks.length + os.length) + 1 by simp; omega]
    exact wpAnyY_firstq ho (Region.noSelect_spec hsel) (hks i (by simp)) hin hwait (fun listed' a' γ' hL => seqB_ready hL.1) (ks.length + os.length) listed a γ inv (Region.free_spec ho hf) hr' hy
      (wpAnyY_ord hsel hwait os hos ks _ _ _ (fun j hj => hks j (by simp [hj])) (inv.set hr' hin) hown hB' hk)

/-! from the kit's quiet walk, at each later world, with one frame at the end -/
def slotsB (l : List Oper) (size : Nat) : Bool := l.all (fun o => match o.dst with | some t => decide (t < size) | none => true) && decide ((l.filterMap (·.dst)).Nodup)
theorem put_size (a : Act) (d : Option Tmp) (v : Value) : (a.put d v).tmps.size = a.tmps.size := by cases d <;> simp [Act.put]
theorem put_ne (a : Act) {d : Option Tmp} (v : Value) {t : Tmp} (h : d ≠ some t) : (a.put d v).tmps[t]? = a.tmps[t]? := by
  cases d with
  | none => rfl
  | some e => have : e ≠ t := fun he => h (he ▸ rfl); simp [Act.put, Array.getElem?_setIfInBounds_ne this]
theorem quiet_slot {C : World → Prop} {fin : Act} : ∀ (l : List Oper) (a : Act) (t : Tmp), t ∉ l.filterMap (·.dst) → wpQuiet P ops C (fun a' => a' = fin) l a → fin.tmps[t]? = a.tmps[t]?
  | [], a, t, _, h => by have : a = fin := h; rw [this]
  | o :: l, a, t, ht, h => by
    have h1 : o.dst ≠ some t := fun he => ht (by simp [he])
    have h2 : t ∉ l.filterMap (·.dst) := fun hm => ht (by rw [List.filterMap_cons]; split <;> simp [*])
    unfold wpQuiet at h
    split at h
    · obtain ⟨v, _, h3⟩ := h
      rw [quiet_slot l _ t h2 h3, put_ne a v h1]
    · rw [quiet_slot l _ t h2 h, put_ne a undef h1]
theorem wpX_of_quiet {fin : Act} : ∀ (ks : List Nat) (l : List Oper) (a : Act), ks.length = l.length → (∀ (j : Nat) k, ks[j]? = some k → ops[k]? = l[j]?) → slotsB l a.tmps.size = true →
    (∀ W1, Below W.heap.size W W1 → wpQuiet P ops (fun w' => ∃ u : Since W1, w' = u.w) (fun a' => a' = fin) l a) → wpX P ops W (fun a' => a' = fin) ks a
  | [], [], a, _, _, _, h => h W (Below.refl _ _)
  | [], _ :: _, _, h0, _, _, _ => by simp at h0
  | _ :: _, [], _, h0, _, _, _ => by simp at h0
  | k :: ks, o :: l, a, h0, hk, hs, h => by
    have ho : ops[k]? = some o := by simpa using hk 0 k rfl
    simp only [slotsB, Bool.and_eq_true, List.all_cons, decide_eq_true_eq] at hs
    obtain ⟨⟨hs1, hs2⟩, hs3⟩ := hs
    have hs4 : (l.filterMap (·.dst)).Nodup := by
      rw [List.filterMap_cons] at hs3
      split at hs3
      · exact hs3
      · exact (List.nodup_cons.1 hs3).2
    -- the value
    obtain ⟨v, hv⟩ : ∃ v, ∀ W1 u, wpQuiet P ops (fun w' => ∃ u : Since W1, w' = u.w) (fun a' => a' = fin) l (a.put o.dst u) → (o.dst = none ∨ u = v) := by
      cases hd : o.dst with
      | none => exact ⟨undef, fun _ _ _ => .inl rfl⟩
      | some t =>
        refine ⟨fin.tmps.getD t undef, fun W1 u hq => .inr ?_⟩
        have ht : t ∉ l.filterMap (·.dst) := by
          rw [List.filterMap_cons, hd] at hs3
          exact (List.nodup_cons.1 hs3).1
        have h5 := quiet_slot l _ t ht hq
        rw [hd] at hs1
        have hlt : t < a.tmps.size := by simpa using hs1
        have h6 : (a.put (some t) u).tmps[t]? = some u := by simp [Act.put, hlt]
        rw [h6] at h5
        have : fin.tmps.getD t undef = u := by rw [Array.getD_eq_getD_getElem?, h5]; rfl
        exact this.symm
    refine ⟨o, v, ho, ?_, wpX_of_quiet ks l _ (by simpa using h0) (fun j k' hj => by simpa using hk (j + 1) k' hj) (by rw [put_size]; simp only [slotsB, Bool.and_eq_true, decide_eq_true_eq]; exact ⟨hs2, hs4⟩) fun W1 hW1 => ?_⟩
    · by_cases hw : Region.wanted o (yielded ops a.tmps) = true
      · refine .inl ⟨hw, fun w hw' => ?_⟩
        have h1 := h w hw'
        unfold wpQuiet at h1
        rw [if_pos hw] at h1
        obtain ⟨u, hu, hn⟩ := h1
        have h2 := hu w ⟨⟨w, Below.refl _ _⟩, rfl⟩
        have h3 := hv w u hn
        unfold Oper.quietAt at h2
        generalize (execOp a.eval o).run P w = r at *
        cases r with
        | ok n w' =>
          cases n <;> simp only [Oper.quietUpon] at h2 <;> simp only [qxUpon]
          case value x => exact ⟨h2.1, h2.2.symm ▸ h3⟩
          case skip => exact ⟨h2.1, h2.2 ▸ h3⟩
          case enter f args => exact ⟨h2.1, h2.2.mono fun e w'' ⟨he, u', hu'⟩ => ⟨u, he, h3, hu' ▸ u'.h⟩⟩
        | halt x w' => simp only [Oper.quietUpon] at h2
      · refine .inr ⟨by simpa using hw, ?_⟩
        have h1 := h W (Below.refl _ _)
        unfold wpQuiet at h1
        rw [if_neg hw] at h1
        exact (hv W undef h1).imp id Eq.symm
    · have h1 := h W1 hW1
      unfold wpQuiet at h1
      split at h1
      · obtain ⟨u, _, hn⟩ := h1
        rw [put_same (hv W1 u hn)] at hn
        exact hn
      · rw [put_same (hv W1 undef h1)] at h1
        exact h1
theorem wpX_mono {Q Q' : Act → Prop} (h : ∀ a, Q a → Q' a) : ∀ (ks : List Nat) (a : Act), wpX P ops W Q ks a → wpX P ops W Q' ks a
  | [], a, hh => h a hh
  | k :: ks, a, ⟨o, v, h1, h2, h3⟩ => ⟨o, v, h1, h2, wpX_mono h ks _ h3⟩

/-- A region that draws its order: 'ks' only read, or call what makes memory and hands back one value; 'os' make memory, each hands back a value of its own kind 'Vo i'; what is known of these and of their memory is 'D', which new memory does not disturb; the rest, from 'n' on, stands in one forced order. -/
theorem wp_region_own {id : Nat} {Q : Exit → Act → World → Prop} {a : Act} {w : World} {l : List Oper} (n : Nat) (ks os : List Nat) (Vo : Nat → Value → Prop) (D : (Nat → Option Value) → World → Prop)
    (hm : P.follows .mixedOrders = true) (hB : ownB .any l n ks os = true) (hsl : slotsB (pick l ks) a.tmps.size = true) (hst : ∀ γ w w', Below w.heap.size w w' → D γ w → D γ w') (hD : D (fun _ => none) w.drew) (hne : ∀ i ∈ os, ∃ u, Vo i u)
    (h : ∃ fin, (∀ W1, Below w.heap.size w W1 → wpQuiet P l.toArray (fun w' => ∃ u : Since W1, w' = u.w) (fun a' => a' = fin) (pick l ks) a) ∧
      ownWalk P l.toArray w D Vo (fun a' γ' => ∀ w', Below w.heap.size w w' → D γ' w' → wpList P l.toArray Q (l.drop n) a' w') os fin (fun _ => none)) : (Code.region id l.toArray true).wp P Q a w := by
  obtain ⟨fin, hq, ho⟩ := h
  simp only [ownB, Bool.and_eq_true, decide_eq_true_eq, List.all_eq_true, Bool.or_eq_true, beq_iff_eq] at hB
  obtain ⟨⟨⟨⟨⟨hsel, hnn⟩, hord⟩, hdis⟩, hlen⟩, hmk⟩ := hB
  have inv0 : HeadInv .any l.toArray n (Array.replicate l.length false) :=
    ⟨by simp, fun j oj _ hl => (by rw [getD_replicate_false] at hl; cases hl), fun t _ ht => getD_in (by simpa using ht) (getD_replicate_false _ _)⟩
  have hwait : ∀ listed, HeadInv .any l.toArray n listed → (∃ i, i < n ∧ listed.getD i true = false) → ∀ t ∈ Region.ready .any l.toArray listed, t < n := fun listed inv ⟨i, hin, hun⟩ t ht => by
    rcases hnn with hnn | ⟨⟨h1, h2⟩, h3⟩
    · obtain ⟨_, ot, hot, _⟩ := mem_ready.1 ht
      have := (Array.getElem?_eq_some_iff.1 hot).1
      simp at this; omega
    · rcases Nat.lt_or_ge t n with h4 | h4
      · exact h4
      · exact absurd ht (tail_waits h2 h3 (by simpa using h1) inv _ i rfl hin hun t h4)
  have hnl : n ≤ l.length := by rcases hnn with hnn | ⟨⟨h1, _⟩, _⟩ <;> omega
  have hpick : ∀ (ks : List Nat), (∀ k ∈ ks, k < l.length) → ks.length = (pick l ks).length ∧ ∀ (j : Nat) k, ks[j]? = some k → l.toArray[k]? = (pick l ks)[j]? := by
    intro ks
    induction ks with
    | nil => intro _; exact ⟨rfl, fun j k h => by simp at h⟩
    | cons k ks ih =>
      intro hlt
      obtain ⟨i1, i2⟩ := ih fun k hk => hlt k (by simp [hk])
      have hk := hlt k (by simp)
      have he : pick l (k :: ks) = l[k] :: pick l ks := by simp [pick, List.filterMap_cons, hk]
      rw [he]
      refine ⟨by simp [i1], fun j k' hj => ?_⟩
      cases j with
      | zero => simp at hj; subst hj; simp [hk]
      | succ j => simpa using i2 j k' (by simpa using hj)
  have hlt : ∀ k ∈ ks, k < l.length := by
    have : ∀ (ks : List Nat) listed, ordB .any l.toArray n (l.length - n) (ks ++ os) listed = true → ∀ k ∈ ks, k < l.length := by
      intro ks
      induction ks with
      | nil => intro _ _ k hk; cases hk
      | cons x ks ih =>
        intro listed hB k hk
        simp only [List.cons_append, ordB, Bool.and_eq_true, decide_eq_true_eq] at hB
        rcases List.mem_cons.1 hk with rfl | hk
        · omega
        · exact ih _ hB.2 k hk
    exact this ks _ hord
  obtain ⟨p1, p2⟩ := hpick ks hlt
  have hX := wpX_of_quiet (P := P) (W := w) (fin := fin) ks (pick l ks) a p1 p2 hsl hq
  have H := wpAnyY_ord (P := P) (md := .any) (W := w) (D := D) (Vo := Vo) (own := fun i => os.contains i) (g := l.length - n) (fin := fun a' γ' => ∀ w', Below w.heap.size w w' → D γ' w' → wpList P l.toArray Q (l.drop n) a' w') hsel hwait os (fun i hi => ⟨by simpa using hi, hne i hi⟩) ks _ a (fun _ => none) (fun i hi => by simpa using hdis i hi) inv0
    (fun j hj hun => by
      have := hmk j (List.mem_range.2 hj)
      rcases this with h1 | h1
      · rw [h1] at hun; cases hun
      · exact h1) hord (wpX_mono (fun a' ha => by subst ha; exact ho) ks a hX)
  refine wp_region_any hm ?_
  have hdl : (l.drop n).length = l.length - n := by simp
  have := wpAny_of_headY (Q' := Q) hst (fun listed a' γ' w' hw' hD' hL => by
    have := wpAny_of_seq (md := .any) (Q' := Q) (l.drop n) n listed a' w' (fun j => by simp [List.getElem?_drop]) (by rw [hdl]; exact hL.1) (hL.2 w' hw' hD')
    rwa [hdl] at this) _ _ _ _ w.drew ((Below.refl _ _).drew) hD (fun k hk => absurd rfl hk) H
  rw [hlen, show n + (l.length - n) = l.toArray.size by simp; omega] at this
  simpa using this
end

/-! blocks that the region makes -/
structure Boxes (B : Nat) (ls : List (Nat × TypeId × Array Value)) (γ : Nat → Option Value) (w : World) : Prop where
  at_ : ∀ x ∈ ls, ∀ u, γ x.1 = some u → ∃ g, u = .pointer (some ⟨g, 0, none⟩) ∧ B ≤ g ∧ Blk w g x.2.1 x.2.2
  ne_ : ∀ x ∈ ls, ∀ y ∈ ls, x.1 ≠ y.1 → ∀ u, γ x.1 = some u → γ y.1 ≠ some u
theorem Boxes.none_ {B : Nat} {ls : List (Nat × TypeId × Array Value)} {w : World} : Boxes B ls (fun _ => none) w := ⟨fun _ _ _ h => (by cases h), fun _ _ _ _ _ _ h => (by cases h)⟩
theorem Boxes.stable {B : Nat} {ls : List (Nat × TypeId × Array Value)} (γ : Nat → Option Value) (w w' : World) (hb : Below w.heap.size w w') (h : Boxes B ls γ w) : Boxes B ls γ w' :=
  ⟨fun x hx u hu => by obtain ⟨g, h1, h3, h2⟩ := h.at_ x hx u hu; exact ⟨g, h1, h3, h2.below hb h2.lt⟩, h.ne_⟩
def IsPtr (u : Value) : Prop := ∃ g : Nat, u = .pointer (some ⟨g, 0, none⟩)
theorem Boxes.make {B : Nat} {ls : List (Nat × TypeId × Array Value)} {γ : Nat → Option Value} {w : World} {i : Nat} {t : TypeId} {cs : Array Value} (hB : B ≤ w.heap.size) (h : Boxes B ls γ w) (hi : ∀ x ∈ ls, x.1 = i → x = (i, t, cs)) :
    IsPtr (.pointer (some ⟨w.heap.size, 0, none⟩)) ∧ Below w.heap.size w (w.alloc (.cells cs t)) ∧ Boxes B ls (gset γ i (.pointer (some ⟨w.heap.size, 0, none⟩))) (w.alloc (.cells cs t)) := by
  have hb : Below w.heap.size w (w.alloc (.cells cs t)) := (Below.refl _ _).alloc (Nat.le_refl _) _
  refine ⟨⟨_, rfl⟩, hb, fun x hx u hu => ?_, fun x hx y hy hne u hu => ?_⟩
  · by_cases hxi : x.1 = i
    · rw [hi x hx hxi] at hu ⊢
      simp [gset] at hu; subst hu
      exact ⟨_, rfl, hB, Blk.new w t cs⟩
    · simp [gset, hxi] at hu
      obtain ⟨g, h1, h3, h2⟩ := h.at_ x hx u hu
      exact ⟨g, h1, h3, h2.below hb h2.lt⟩
  · by_cases hxi : x.1 = i
    · have hyi : y.1 ≠ i := fun he => hne (hxi.trans he.symm)
      simp [gset, hxi] at hu; subst hu
      simp only [gset, hyi, if_false]
      intro hu
      obtain ⟨g, h1, _, h2⟩ := h.at_ y hy _ hu
      injection h1 with h1
      injection h1 with h1
      injection h1 with h1
      subst h1
      exact absurd h2.lt (by omega)
    · simp [gset, hxi] at hu
      by_cases hyi : y.1 = i
      · simp only [gset, hyi, if_true]
        intro he
        injection he with he
        subst he
        obtain ⟨g, h1, _, h2⟩ := h.at_ x hx _ hu
        injection h1 with h1
        injection h1 with h1
        injection h1 with h1
        subst h1
        exact absurd h2.lt (by omega)
      · simp only [gset, hyi, if_false]
        exact h.ne_ x hx y hy hne u hu
theorem Since.later {W w' : World} (hb : Below W.heap.size W w') {p : Addr} {v : Value} (h : W.cell? p = some v) : w'.cell? p = some v := Since.cell h ⟨w', hb⟩
theorem YO.alloc {P : Program} {ops : Array Oper} {W : World} {ls : List (Nat × TypeId × Array Value)} {i : Nat} {o : Oper} {a : Act} {t : TypeId} {cs : Array Value} (hw : Region.wanted o (yielded ops a.tmps) = true)
    (hrun : ∀ w, (execOp a.eval o).run P w = .ok (.value (.pointer (some ⟨w.heap.size, 0, none⟩))) (w.alloc (.cells cs t))) (hi : ∀ x ∈ ls, x.1 = i → x = (i, t, cs)) : YO P ops W (Boxes W.heap.size ls) IsPtr i o a :=
  ⟨hw, fun w γ hb hD _ => by rw [hrun w]; exact hD.make hb.size hi⟩
theorem Boxes.get {B : Nat} {ls : List (Nat × TypeId × Array Value)} {γ : Nat → Option Value} {w : World} (h : Boxes B ls γ w) {i g : Nat} {t : TypeId} {cs : Array Value} (hm : (i, t, cs) ∈ ls) (hg : γ i = some (.pointer (some ⟨g, 0, none⟩))) : B ≤ g ∧ Blk w g t cs := by
  obtain ⟨g', h1, h3, h2⟩ := h.at_ _ hm _ hg
  injection h1 with h1
  injection h1 with h1
  injection h1 with h1
  subst h1
  exact ⟨h3, h2⟩
theorem Boxes.apart {B : Nat} {ls : List (Nat × TypeId × Array Value)} {γ : Nat → Option Value} {w : World} (h : Boxes B ls γ w) {i j g g' : Nat} {t t' : TypeId} {cs cs' : Array Value} (hi : (i, t, cs) ∈ ls) (hj : (j, t', cs') ∈ ls) (hne : i ≠ j)
    (hg : γ i = some (.pointer (some ⟨g, 0, none⟩))) (hg' : γ j = some (.pointer (some ⟨g', 0, none⟩))) : g ≠ g' := by
  rintro rfl
  exact h.ne_ _ hi _ hj hne _ hg hg'
theorem Blk.other {w w' : World} {g g' : Nat} {t : TypeId} {cs : Array Value} (h : Blk w g' t cs) (ho : ∀ k, k ≠ g → w'.heap[k]? = w.heap[k]?) (hne : g' ≠ g) : Blk w' g' t cs := (ho _ hne).trans h
/-- a store of a whole block of one's own -/
theorem wpList_store_blk {P : Program} {ops : Array Oper} {rest : List Oper} {o : Oper} {a : Act} {w : World} {Q : Exit → Act → World → Prop} (hgd : o.guard = none) (ty : TypeId) (x y : Operand) (ho : o.op = .store ty x y)
    {g : Nat} {t : TypeId} {old : Array Value} (cells : Array Value) (hb : Blk w g t old) (hx : a.eval x = .pointer (some ⟨g, 0, none⟩)) (hy : a.eval y = .agg cells) (hi : (P.info? ty).map (·.size) = some cells.size)
    (hold : old.size = cells.size) (h1 : cells.all (·.oneCell') = true) {B : Nat} (hge : B ≤ g)
    (h : ∀ w', Blk w' g t cells → Below B w w' → (∀ k, k ≠ g → w'.heap[k]? = w.heap[k]?) → wpList P ops Q rest (a.put o.dst undef) w') : wpList P ops Q (o :: rest) a w :=
  wpList_store_row hgd ty x y ho g cells hx hy t old hb hi hold h1 (h _ (setRow_heap w g old cells t _ hb) ⟨rfl, rfl, rfl, by simp, fun k hk => setRow_other w g k cells (by omega)⟩ fun k hk => setRow_other w g k cells hk)
theorem ownWalk_alloc {P : Program} {ops : Array Oper} {W : World} {ls : List (Nat × TypeId × Array Value)} {Vo : Nat → Value → Prop} {fin : Act → (Nat → Option Value) → Prop} {os : List Nat} {i d : Nat} {o : Oper} {a : Act} {γ : Nat → Option Value} {t : TypeId} {cs : Array Value}
    (ho : ops[i]? = some o) (hd : o.dst = some d) (hV : Vo i = IsPtr) (hw : Region.wanted o (yielded ops a.tmps) = true)
    (hrun : ∀ w, (execOp a.eval o).run P w = .ok (.value (.pointer (some ⟨w.heap.size, 0, none⟩))) (w.alloc (.cells cs t))) (hi : ∀ x ∈ ls, x.1 = i → x = (i, t, cs))
    (hk : ∀ g : Nat, ownWalk P ops W (Boxes W.heap.size ls) Vo fin os { tmps := a.tmps.setIfInBounds d (.pointer (some ⟨g, 0, none⟩)), defers := a.defers } (gset γ i (.pointer (some ⟨g, 0, none⟩)))) : ownWalk P ops W (Boxes W.heap.size ls) Vo fin (i :: os) a γ := by
  refine ⟨o, ho, by rw [hV]; exact YO.alloc hw hrun hi, fun u hu => ?_⟩
  rw [hV] at hu
  obtain ⟨g, rfl⟩ := hu
  rw [hd]
  exact hk g
theorem ownWalk_nil {P : Program} {ops : Array Oper} {W : World} {D : (Nat → Option Value) → World → Prop} {Vo : Nat → Value → Prop} {fin : Act → (Nat → Option Value) → Prop} {a : Act} {γ : Nat → Option Value} (h : fin a γ) : ownWalk P ops W D Vo fin [] a γ := h
end Go.Proofs.Ytcpnfcnobnjhdaa
