/- A region that draws: an element laid into a new block is appended to a list that was there; other operations stand free behind the append. -/
import Derived.Test.YtecaaimaeaocbaaDoorOwns
import Derived.Test.YtecaaimaeaocbaaDoorGrid
namespace Go.Proofs.YtecaaimaeaocbaaDoor
open Go Go.RowKit
theorem wp_region_app {α : Type} {P : Program} {id : Nat} {Q : Exit → Act → World → Prop} {a : Act} {W : World} {l : List Oper} {base : Nat} {e t : TypeId} {sz : Nat} {f : α → List Value} {v : Value} {xs : List α} {y : α} {cs : Array Value} (n i j : Nat) (ks : List Nat) {oi oj : Oper} (s x : Operand)
    (hm : P.follows .mixedOrders = true) (hB : ownB .any l n ks [i, j] = true) (hpB : preB .any l (fun k => if k == j then [i] else []) [i, j] = true) (hsl : slotsB (pick l ks) a.tmps.size = true)
    (he : ElemT P t e sz) (hO : Own W base e sz f v xs) (hf : ∀ x, (f x).length = sz) (h1c : ∀ x, ∀ u ∈ f x, u.oneCell' = true) (hlen : xs.length + 1 ≤ 1000000000) (hbase : base ≤ W.heap.size) (hcs : cs.toList = f y) (hij : i ≠ j)
    (hoi : l[i]? = some oi) (hoj : l[j]? = some oj)
    (ho : oj.op = .call { callee := .builtin .append, args := #[s, x], argTypes := #[t, t] })
    (h : ∃ fin : Act, (∀ W1, Chg (fun k => v.ownBlock = some k) W W1 → wpQuiet P l.toArray (fun w' => ∃ u : Since W1, w' = u.w) (fun a' => a' = fin) (pick l ks) a) ∧
      Region.wanted oi (yielded l.toArray fin.tmps) = true ∧ (∀ w1, (execOp fin.eval oi).run P w1 = .ok (.value (.slice (some ⟨w1.heap.size, 0, none⟩) 1 1)) (w1.alloc (.cells cs e))) ∧
      ∀ g : Nat, Region.wanted oj (yielded l.toArray (fin.put oi.dst (.slice (some ⟨g, 0, none⟩) 1 1)).tmps) = true ∧ (fin.put oi.dst (.slice (some ⟨g, 0, none⟩) 1 1)).eval s = v ∧ (fin.put oi.dst (.slice (some ⟨g, 0, none⟩) 1 1)).eval x = .slice (some ⟨g, 0, none⟩) 1 1 ∧
        ∀ gj c w', Chg (fun k => v.ownBlock = some k) W w' → Own w' base e sz f (.slice (some ⟨gj, 0, none⟩) (xs.length + 1) c) (xs ++ [y]) → wpList P l.toArray Q (l.drop n) ((fin.put oi.dst (.slice (some ⟨g, 0, none⟩) 1 1)).put oj.dst (.slice (some ⟨gj, 0, none⟩) (xs.length + 1) c)) w') :
    (Code.region id l.toArray true).wp P Q a W := by
  obtain ⟨fin, hq, hwi, hri, hk⟩ := h
  have hgi : ∀ γ : Nat → Option Value, ∀ u, gset γ i u i = some u := fun γ u => by unfold gset; rw [if_pos rfl]
  have hgj : ∀ γ : Nat → Option Value, ∀ u, gset γ j u j = some u := fun γ u => by unfold gset; rw [if_pos rfl]
  have hgij : ∀ γ : Nat → Option Value, ∀ u, gset γ i u j = γ j := fun γ u => by unfold gset; rw [if_neg (Ne.symm hij)]
  have hgji : ∀ γ : Nat → Option Value, ∀ u, gset γ j u i = γ i := fun γ u => by unfold gset; rw [if_neg hij]
  refine wp_region_own (fun k => v.ownBlock = some k) n ks [i, j] (fun k => if k == j then [i] else [])
    (fun k u => if k = i then ∃ g : Nat, u = .slice (some ⟨g, 0, none⟩) 1 1 else ∃ g c : Nat, u = .slice (some ⟨g, 0, none⟩) (xs.length + 1) c)
    (fun γ w => (∀ u, γ i = some u → ∃ g, u = .slice (some ⟨g, 0, none⟩) 1 1 ∧ v.ownBlock ≠ some g ∧ Blk w g e cs) ∧ (γ j = none → Own w base e sz f v xs) ∧ (∀ u, γ j = some u → Own w base e sz f u (xs ++ [y])))
    hm hB hpB (fun k hk => ?_) hsl (fun γ w w' hb hD => ?_) ⟨fun u hu => (by cases hu), fun _ => hO.drew, fun u hu => (by cases hu)⟩ (fun k hk => ?_) ⟨fin, hq, ?_⟩
  · have : k ≠ j := fun e => hk (by simp [e])
    simp [this]
  · refine ⟨fun u hu => ?_, fun h => (hD.2.1 h).below hb, fun u hu => (hD.2.2 u hu).below hb⟩
    obtain ⟨g, h1, h2, h3⟩ := hD.1 u hu
    exact ⟨g, h1, h2, h3.below hb h3.lt⟩
  · by_cases hki : k = i
    · exact ⟨.slice (some ⟨0, 0, none⟩) 1 1, by (try dsimp only); rw [if_pos hki]; exact ⟨0, rfl⟩⟩
    · exact ⟨.slice (some ⟨0, 0, none⟩) (xs.length + 1) 0, by (try dsimp only); rw [if_neg hki]; exact ⟨0, 0, rfl⟩⟩
  · refine ⟨oi, by simpa using hoi, ⟨hwi, fun w γ hc hD hn _ => ?_⟩, fun u hu => ?_⟩
    · rw [hri w]
      refine ⟨?_, hc.alloc _, ?_⟩
      · (try dsimp only); rw [if_pos rfl]; exact ⟨_, rfl⟩
      · refine ⟨fun u hu => ?_, fun h => (hD.2.1 (by rwa [hgij] at h)).alloc _, fun u hu => (hD.2.2 u (by rwa [hgij] at hu)).alloc _⟩
        rw [hgi] at hu
        injection hu with hu
        refine ⟨w.heap.size, hu.symm, fun he => ?_, Blk.new w e cs⟩
        have h1 := (World.ownsRow.lt hO _ he).2
        have h2 := hc.size
        omega
    · try dsimp only at hu
      rw [if_pos rfl] at hu
      obtain ⟨g, rfl⟩ := hu
      obtain ⟨hwj, hs, hx, hk⟩ := hk g
      refine ⟨oj, by simpa using hoj, ⟨hwj, fun w γ hc hD hn hp => ?_⟩, fun u hu => ?_⟩
      · have hp2 := hp i (by simp)
        rw [hgi] at hp2
        obtain ⟨g', h1, h2, h3⟩ := hD.1 _ hp2
        injection h1 with h1
        injection h1 with h1
        injection h1 with h1
        subst h1
        have hown := hD.2.1 hn
        obtain ⟨v', w', hr, hO', hg, hv⟩ := run_app_own (P := P) (ty := oj.type) he hown (h3.slc1 hcs) rfl hf h1c hlen (Nat.le_trans hbase hc.size) (c2 := 1)
        rw [exec_app ho hs hx hr]
        obtain ⟨g2, c2, hv2, _, _⟩ := hO'.at_ (by simp)
        rw [List.length_append] at hv2
        refine ⟨?_, ?_, ?_⟩
        · (try dsimp only); rw [if_neg (Ne.symm hij)]; exact ⟨g2, c2, hv2⟩
        · exact hc.trans ⟨hg.os, hg.tape, hg.output, hg.size, fun k hk hn => hg.block k hk fun he => hn he.symm⟩
        · refine ⟨fun u hu => ?_, fun h => (by rw [hgj] at h; cases h), fun u hu => ?_⟩
          · rw [hgji, hp2] at hu
            injection hu with hu
            exact ⟨g, hu.symm, h2, h3.grownv hg fun k hk he => h2 (by rw [he]; exact hk)⟩
          · rw [hgj] at hu
            injection hu with hu
            subst hu
            exact hO'
      · try dsimp only at hu
        rw [if_neg (Ne.symm hij)] at hu
        obtain ⟨gj, c, rfl⟩ := hu
        intro w' hc hD
        exact hk gj c w' hc (hD.2.2 _ (hgj _ _))
end Go.Proofs.YtecaaimaeaocbaaDoor
