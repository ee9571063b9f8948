/- A region that draws: a slice of n elements is built and assigned; calls and reads before it. -/
import Derived.Test.YtnejacogflkmmaaOwns
namespace Go.Proofs.Ytnejacogflkmmaa
open Go Go.RowKit
theorem gset_at (γ : Nat → Option Value) (i : Nat) (u : Value) : gset γ i u i = some u := by unfold gset; rw [if_pos rfl]
theorem gset_ne (γ : Nat → Option Value) (i k : Nat) (u : Value) (h : k ≠ i) : gset γ i u k = γ k := by unfold gset; rw [if_neg h]
theorem wp_region_buildn {P : Program} {id : Nat} {Q : Exit → Act → World → Prop} {a : Act} {W : World} {l : List Oper} {e : TypeId} {cs : Array Value} {m : Nat} (n i j : Nat) (ks : List Nat) {oi oj : Oper} {di dj : Nat} (x : Operand)
    (hm : P.follows .mixedOrders = true) (hB : ownB .any l n ks [i, j] = true) (hpB : preB .any l (fun k => if k == j then [i] else []) [i, j] = true) (hsl : slotsB (pick l ks) a.tmps.size = true) (hij : i ≠ j)
    (hoi : l[i]? = some oi) (hoj : l[j]? = some oj) (edi : oi.dst = some di) (edj : oj.dst = some dj)
    (h : ∃ fin : Act, (∀ W1, Below W.heap.size W W1 → wpQuiet P l.toArray (fun w' => ∃ u : Since W1, w' = u.w) (fun a' => a' = fin) (pick l ks) a) ∧
      Region.wanted oi (yielded l.toArray fin.tmps) = true ∧ (∀ w1, (execOp fin.eval oi).run P w1 = .ok (.value (.slice (some ⟨w1.heap.size, 0, none⟩) m m)) (w1.alloc (.cells cs e))) ∧
      (∀ u0, Region.wanted oj (yielded l.toArray (fin.put (some di) u0).tmps) = true ∧ ∀ w1, (execOp (fin.put (some di) u0).eval oj).run P w1 = .ok (.value u0) w1) ∧
      ∀ g w', Below W.heap.size W w' → Blk w' g e cs → wpList P l.toArray Q (l.drop n) ((fin.put (some di) (.slice (some ⟨g, 0, none⟩) m m)).put (some dj) (.slice (some ⟨g, 0, none⟩) m m)) w') :
    (Code.region id l.toArray true).wp P Q a W := by
  obtain ⟨fin, hq, hwi, hri, hj, hk⟩ := h
  refine wp_region_own noS n ks [i, j] (fun k => if k == j then [i] else []) (fun _ _ => True)
    (fun γ w => (∀ u, γ i = some u → ∃ g, u = .slice (some ⟨g, 0, none⟩) m m ∧ Blk w g e cs) ∧ (∀ u0 u1, γ i = some u0 → γ j = some u1 → u1 = u0) ∧ (γ i = none → γ j = none))
    hm hB hpB (fun k hk => ?_) hsl (fun γ w w' hb hD => ?_) ⟨fun _ h => (by cases h), fun _ _ h => (by cases h), fun _ => rfl⟩ (fun _ _ => ⟨undef, trivial⟩) ⟨fin, fun W1 hc => hq W1 hc.noS_, ?_⟩
  · have : k ≠ j := fun e => hk (by simp [e])
    simp [this]
  · refine ⟨fun u hu => ?_, hD.2.1, hD.2.2⟩
    obtain ⟨g, h1, h2⟩ := hD.1 u hu
    exact ⟨g, h1, h2.below hb h2.lt⟩
  · refine ⟨oi, by simpa using hoi, ⟨hwi, fun w γ hc hD hn _ => ?_⟩, fun u0 _ => ?_⟩
    · rw [hri w]
      refine ⟨trivial, hc.alloc _, fun u hu => ?_, fun u0 u1 _ hu => ?_, fun hu => ?_⟩
      · rw [gset_at] at hu
        injection hu with hu
        exact ⟨_, hu.symm, Blk.new w e cs⟩
      · rw [gset_ne _ _ _ _ (Ne.symm hij), hD.2.2 hn] at hu; cases hu
      · rw [gset_at] at hu; cases hu
    · rw [edi]
      obtain ⟨hwj, hrj⟩ := hj u0
      refine ⟨oj, by simpa using hoj, ⟨hwj, fun w γ hc hD hn hp => ?_⟩, fun u1 _ => ?_⟩
      · have hp0 := hp i (by simp)
        rw [gset_at] at hp0
        rw [hrj w]
        refine ⟨trivial, hc, fun u hu => ?_, fun v v1 hv hv1 => ?_, fun hv => ?_⟩
        · rw [gset_ne _ _ _ _ hij] at hu; exact hD.1 u hu
        · rw [gset_ne _ _ _ _ hij, hp0] at hv
          rw [gset_at] at hv1
          injection hv with hv; injection hv1 with hv1; rw [← hv, ← hv1]
        · rw [gset_ne _ _ _ _ hij, hp0] at hv; cases hv
      · rw [edj]
        intro w' hc hD
        have g0 : gset (gset (fun _ => none) i u0) j u1 i = some u0 := by rw [gset_ne _ _ _ _ hij, gset_at]
        have g1 : gset (gset (fun _ => none) i u0) j u1 j = some u1 := gset_at _ _ _
        obtain ⟨g, rfl, hb⟩ := hD.1 _ g0
        obtain rfl := hD.2.1 _ _ g0 g1
        exact hk g w' hc.noS_ hb
end Go.Proofs.Ytnejacogflkmmaa
