/- A region that draws and holds one call of two results: the call, the move of its tuple, and the two extracts are own operations; the rest reads. A region that draws: a slice of one element is built and assigned; other operations stand free beside the assign. Places of the document: worse, and what lay returns. The document's lay: the walk. -/
import Derived.Test.YtecaaimaeaocbaaDoorCalls
import Derived.Test.YtecaaimaeaocbaaDoorKPlaces
import Derived.Test.YtecaaimaeaocbaaDoorKRParse
import Derived.Test.YtecaaimaeaocbaaDoorOwns
namespace Go.Proofs.YtecaaimaeaocbaaDoor
open Go Go.RowKit
structure DX (i : Nat) (R : Value → Value → World → Prop) (γ : Nat → Option Value) (w : World) : Prop where
  c : ∀ u0, γ i = some u0 → ∃ u z, u0 = .tuple #[u, z] ∧ R u z w
  m : ∀ u0 u1, γ i = some u0 → γ (i + 1) = some u1 → u1 = u0
  x : ∀ u1 u2, γ (i + 1) = some u1 → γ (i + 2) = some u2 → ∃ z, u1 = .tuple #[u2, z]
  y : ∀ u1 u3, γ (i + 1) = some u1 → γ (i + 3) = some u3 → ∃ u, u1 = .tuple #[u, u3]
  q : ∀ u2 u4, γ (i + 2) = some u2 → γ (i + 4) = some u4 → u4 = u2
  n0 : γ i = none → γ (i + 1) = none
  n1 : γ (i + 1) = none → γ (i + 2) = none ∧ γ (i + 3) = none
  n2 : γ (i + 2) = none → γ (i + 4) = none
theorem gset_at (γ : Nat → Option Value) (i : Nat) (u : Value) : gset γ i u i = some u := by unfold gset; rw [if_pos rfl]
theorem gset_ne (γ : Nat → Option Value) (i k : Nat) (u : Value) (h : k ≠ i) : gset γ i u k = γ k := by unfold gset; rw [if_neg h]
theorem wp_region_callx {P : Program} {id : Nat} {Q : Exit → Act → World → Prop} {a : Act} {W : World} {l : List Oper} (i : Nat) (ks : List Nat) (R : Value → Value → World → Prop) {o0 o1 o2 o3 o4 : Oper} {d0 d1 d2 d3 d4 : Nat} {f : FuncId} {xs : Array Operand} {ts : Array TypeId} {args : Array Value} (x1 x2 x3 x4 : Operand)
    (hm : P.follows .mixedOrders = true) (hB : ownB .any l (i + 5) ks [i, i + 1, i + 2, i + 3, i + 4] = true) (hpB : preB .any l (fun k => if k == i + 1 then [i] else if k == i + 2 then [i + 1] else if k == i + 3 then [i + 1] else if k == i + 4 then [i + 2] else []) [i, i + 1, i + 2, i + 3, i + 4] = true) (hsl : slotsB (pick l ks) a.tmps.size = true)
    (hst : ∀ u z w w', Below w.heap.size w w' → R u z w → R u z w')
    (h0 : l[i]? = some o0) (h1 : l[i + 1]? = some o1) (h2 : l[i + 2]? = some o2) (h3 : l[i + 3]? = some o3) (h4 : l[i + 4]? = some o4)
    (e0 : o0.dst = some d0) (e1 : o1.dst = some d1) (e2 : o2.dst = some d2) (e3 : o3.dst = some d3) (e4 : o4.dst = some d4)
    (p0 : o0.op = .call { callee := .value (.func f), args := xs, argTypes := ts }) (p1 : o1.op = .move x1) (p2 : o2.op = .extract x2 0) (p3 : o3.op = .extract x3 1) (p4 : o4.op = .assign x4) (hf : ∀ args w, (callFunc f args).run P w = .ok (.enter f args) w)
    (h : ∃ fin : Act, (∀ W1, Below W.heap.size W W1 → wpQuiet P l.toArray (fun w' => ∃ u : Since W1, w' = u.w) (fun a' => a' = fin) (pick l ks) a) ∧
      xs.map fin.eval = args ∧ Region.wanted o0 (yielded l.toArray fin.tmps) = true ∧
      (∀ w, Below W.heap.size W w → Calls P f args w fun e w'' => ∃ u z, e = .returned (.tuple #[u, z]) ∧ R u z w'' ∧ Below w.heap.size w w'') ∧
      (∀ u0, (fin.put (some d0) u0).eval x1 = u0 ∧ Region.wanted o1 (yielded l.toArray (fin.put (some d0) u0).tmps) = true ∧ ∀ u1, ((fin.put (some d0) u0).put (some d1) u1).eval x2 = u1 ∧ Region.wanted o2 (yielded l.toArray ((fin.put (some d0) u0).put (some d1) u1).tmps) = true ∧
        ∀ u2, (((fin.put (some d0) u0).put (some d1) u1).put (some d2) u2).eval x3 = u1 ∧ Region.wanted o3 (yielded l.toArray (((fin.put (some d0) u0).put (some d1) u1).put (some d2) u2).tmps) = true ∧
          ∀ u3, ((((fin.put (some d0) u0).put (some d1) u1).put (some d2) u2).put (some d3) u3).eval x4 = u2 ∧ Region.wanted o4 (yielded l.toArray ((((fin.put (some d0) u0).put (some d1) u1).put (some d2) u2).put (some d3) u3).tmps) = true) ∧
      ∀ u z w', Below W.heap.size W w' → R u z w' → wpList P l.toArray Q (l.drop (i + 5)) (((((fin.put (some d0) (.tuple #[u, z])).put (some d1) (.tuple #[u, z])).put (some d2) u).put (some d3) z).put (some d4) u) w') :
    (Code.region id l.toArray true).wp P Q a W := by
  obtain ⟨fin, hq, hargs, hw0, hcall, hev, hk⟩ := h
  refine wp_region_own noS (i + 5) ks [i, i + 1, i + 2, i + 3, i + 4] (fun k => if k == i + 1 then [i] else if k == i + 2 then [i + 1] else if k == i + 3 then [i + 1] else if k == i + 4 then [i + 2] else [])
    (fun k u => k = i + 1 → ∃ x y, u = .tuple #[x, y]) (DX i R) hm hB hpB (fun k hk => ?_) hsl (fun γ w w' hb hD => ?_) ?_ (fun k hk => ⟨.tuple #[undef, undef], fun _ => ⟨_, _, rfl⟩⟩) ⟨fin, fun W1 hc => hq W1 hc.noS_, ?_⟩
  · simp only [List.mem_cons, List.not_mem_nil, or_false, not_or] at hk
    simp [hk.2.1, hk.2.2.1, hk.2.2.2.1, hk.2.2.2.2]
  · exact ⟨fun u0 hu => by obtain ⟨u, z, g1, g2⟩ := hD.c u0 hu; exact ⟨u, z, g1, hst u z w w' hb g2⟩, hD.m, hD.x, hD.y, hD.q, hD.n0, hD.n1, hD.n2⟩
  · exact ⟨fun _ h => (by cases h), fun _ _ h => (by cases h), fun _ _ h => (by cases h), fun _ _ h => (by cases h), fun _ _ h => (by cases h), fun _ => rfl, fun _ => ⟨rfl, rfl⟩, fun _ => rfl⟩
  · refine ⟨o0, by simpa using h0, ⟨hw0, fun w γ hc hD hn _ => ?_⟩, fun u0 _ => ?_⟩
    · rw [run_call_fn p0 hf w, hargs]
      refine ⟨rfl, (hcall w hc.noS_).mono ?_⟩
      rintro e w'' ⟨u, z, he, hR, hb⟩
      have g1 := hD.n0 hn
      obtain ⟨g2, g3⟩ := hD.n1 g1
      have g4 := hD.n2 g2
      refine ⟨_, he, fun h => absurd h (by omega), hc.trans (.of_below hb), ?_⟩
      refine ⟨fun u0 hu => ?_, fun u0 u1 _ hu => ?_, fun u1 u2 hu _ => ?_, fun u1 u2 hu _ => ?_, fun u2 u4 hu _ => ?_, fun hu => ?_, fun _ => ?_, fun _ => ?_⟩
      · rw [gset_at] at hu; injection hu with hu; exact ⟨u, z, hu.symm, hR⟩
      · rw [gset_ne _ _ _ _ (by omega), g1] at hu; cases hu
      · rw [gset_ne _ _ _ _ (by omega), g1] at hu; cases hu
      · rw [gset_ne _ _ _ _ (by omega), g1] at hu; cases hu
      · rw [gset_ne _ _ _ _ (by omega), g2] at hu; cases hu
      · rw [gset_at] at hu; cases hu
      · rw [gset_ne _ _ _ _ (by omega), gset_ne _ _ _ _ (by omega)]; exact ⟨g2, g3⟩
      · rw [gset_ne _ _ _ _ (by omega)]; exact g4
    · rw [e0]
      obtain ⟨hv1, hw1, hev⟩ := hev u0
      refine ⟨o1, by simpa using h1, ⟨hw1, fun w γ hc hD hn hp => ?_⟩, fun u1 hV1 => ?_⟩
      · have hp0 := hp i (by simp)
        rw [gset_at] at hp0
        have hr : (execOp (fin.put (some d0) u0).eval o1).run P w = .ok (.value u0) w := by unfold execOp; simp only [p1, hv1]; rfl
        rw [hr]
        obtain ⟨g2, g3⟩ := hD.n1 hn
        obtain ⟨u, z, g4, g5⟩ := hD.c u0 hp0
        refine ⟨fun _ => ⟨u, z, g4⟩, hc, ?_⟩
        refine ⟨fun v hv => ?_, fun v v1 hv hv1 => ?_, fun v1 v2 _ hv2 => ?_, fun v1 v2 _ hv2 => ?_, fun v2 v4 hv2 _ => ?_, fun hv => ?_, fun hv => ?_, fun _ => ?_⟩
        · rw [gset_ne _ _ _ _ (by omega)] at hv; exact hD.c v hv
        · rw [gset_ne _ _ _ _ (by omega), hp0] at hv
          rw [gset_at] at hv1
          injection hv with hv; injection hv1 with hv1; rw [← hv, ← hv1]
        · rw [gset_ne _ _ _ _ (by omega), g2] at hv2; cases hv2
        · rw [gset_ne _ _ _ _ (by omega), g3] at hv2; cases hv2
        · rw [gset_ne _ _ _ _ (by omega), g2] at hv2; cases hv2
        · rw [gset_ne _ _ _ _ (by omega), hp0] at hv; cases hv
        · rw [gset_at] at hv; cases hv
        · rw [gset_ne _ _ _ _ (by omega)]; exact hD.n2 g2
      · rw [e1]
        obtain ⟨x, y, rfl⟩ := hV1 rfl
        obtain ⟨hv2, hw2, hev⟩ := hev (.tuple #[x, y])
        refine ⟨o2, by simpa using h2, ⟨hw2, fun w γ hc hD hn hp => ?_⟩, fun u2 _ => ?_⟩
        · have hp1 := hp (i + 1) (by simp)
          rw [gset_at] at hp1
          have hr : (execOp ((fin.put (some d0) u0).put (some d1) (.tuple #[x, y])).eval o2).run P w = .ok (.value x) w := by unfold execOp; simp only [p2, hv2]; rfl
          rw [hr]
          have g6 := hD.n2 hn
          refine ⟨fun h => absurd h (by omega), hc, ?_⟩
          refine ⟨fun v hv => ?_, fun v v1 hv hv1 => ?_, fun v1 v2 hv1 hv2 => ?_, fun v1 v2 hv1 hv2 => ?_, fun v2 v4 _ hv4 => ?_, fun hv => ?_, fun hv => ?_, fun hv => ?_⟩
          · rw [gset_ne _ _ _ _ (by omega)] at hv; exact hD.c v hv
          · rw [gset_ne _ _ _ _ (by omega)] at hv hv1; exact hD.m v v1 hv hv1
          · rw [gset_ne _ _ _ _ (by omega), hp1] at hv1
            rw [gset_at] at hv2
            injection hv1 with hv1; injection hv2 with hv2; exact ⟨y, by rw [← hv1, ← hv2]⟩
          · rw [gset_ne _ _ _ _ (by omega)] at hv1 hv2; exact hD.y v1 v2 hv1 hv2
          · rw [gset_ne _ _ _ _ (by omega), g6] at hv4; cases hv4
          · rw [gset_ne _ _ _ _ (by omega)] at hv ⊢; exact hD.n0 hv
          · rw [gset_ne _ _ _ _ (by omega), hp1] at hv; cases hv
          · rw [gset_at] at hv; cases hv
        · rw [e2]
          obtain ⟨hv3, hw3, hev⟩ := hev u2
          refine ⟨o3, by simpa using h3, ⟨hw3, fun w γ hc hD hn hp => ?_⟩, fun u3 _ => ?_⟩
          · have hp1 := hp (i + 1) (by simp)
            rw [gset_ne _ _ _ _ (by omega), gset_at] at hp1
            have hr : (execOp (((fin.put (some d0) u0).put (some d1) (.tuple #[x, y])).put (some d2) u2).eval o3).run P w = .ok (.value y) w := by unfold execOp; simp only [p3, hv3]; rfl
            rw [hr]
            refine ⟨fun h => absurd h (by omega), hc, ?_⟩
            refine ⟨fun v hv => ?_, fun v v1 hv hv1 => ?_, fun v1 v2 hv1 hv2 => ?_, fun v1 v2 hv1 hv2 => ?_, fun v2 v4 hv2 hv4 => ?_, fun hv => ?_, fun hv => ?_, fun hv => ?_⟩
            · rw [gset_ne _ _ _ _ (by omega)] at hv; exact hD.c v hv
            · rw [gset_ne _ _ _ _ (by omega)] at hv hv1; exact hD.m v v1 hv hv1
            · rw [gset_ne _ _ _ _ (by omega)] at hv1 hv2; exact hD.x v1 v2 hv1 hv2
            · rw [gset_ne _ _ _ _ (by omega), hp1] at hv1
              rw [gset_at] at hv2
              injection hv1 with hv1; injection hv2 with hv2; exact ⟨x, by rw [← hv1, ← hv2]⟩
            · rw [gset_ne _ _ _ _ (by omega)] at hv2 hv4; exact hD.q v2 v4 hv2 hv4
            · rw [gset_ne _ _ _ _ (by omega)] at hv ⊢; exact hD.n0 hv
            · rw [gset_ne _ _ _ _ (by omega), hp1] at hv; cases hv
            · rw [gset_ne _ _ _ _ (by omega)] at hv ⊢; exact hD.n2 hv
          · rw [e3]
            obtain ⟨hv4, hw4⟩ := hev u3
            refine ⟨o4, by simpa using h4, ⟨hw4, fun w γ hc hD hn hp => ?_⟩, fun u4 _ => ?_⟩
            · have hp2 := hp (i + 2) (by simp)
              rw [gset_ne _ _ _ _ (by omega), gset_at] at hp2
              have hr : (execOp ((((fin.put (some d0) u0).put (some d1) (.tuple #[x, y])).put (some d2) u2).put (some d3) u3).eval o4).run P w = .ok (.value u2) w := by unfold execOp; simp only [p4, hv4]; rfl
              rw [hr]
              refine ⟨fun h => absurd h (by omega), hc, ?_⟩
              refine ⟨fun v hv => ?_, fun v v1 hv hv1 => ?_, fun v1 v2 hv1 hv2 => ?_, fun v1 v2 hv1 hv2 => ?_, fun v2 v4 hv2 hv4 => ?_, fun hv => ?_, fun hv => ?_, fun hv => ?_⟩
              · rw [gset_ne _ _ _ _ (by omega)] at hv; exact hD.c v hv
              · rw [gset_ne _ _ _ _ (by omega)] at hv hv1; exact hD.m v v1 hv hv1
              · rw [gset_ne _ _ _ _ (by omega)] at hv1 hv2; exact hD.x v1 v2 hv1 hv2
              · rw [gset_ne _ _ _ _ (by omega)] at hv1 hv2; exact hD.y v1 v2 hv1 hv2
              · rw [gset_ne _ _ _ _ (by omega), hp2] at hv2
                rw [gset_at] at hv4
                injection hv2 with hv2; injection hv4 with hv4; rw [← hv2, ← hv4]
              · rw [gset_ne _ _ _ _ (by omega)] at hv ⊢; exact hD.n0 hv
              · rw [gset_ne _ _ _ _ (by omega)] at hv ⊢; rw [gset_ne _ _ _ _ (by omega)]; exact hD.n1 hv
              · rw [gset_ne _ _ _ _ (by omega), hp2] at hv; cases hv
            · rw [e4]
              intro w' hc hD
              have g0 : gset (gset (gset (gset (gset (fun _ => none) i u0) (i + 1) (.tuple #[x, y])) (i + 2) u2) (i + 3) u3) (i + 4) u4 i = some u0 := by
                rw [gset_ne _ _ _ _ (by omega), gset_ne _ _ _ _ (by omega), gset_ne _ _ _ _ (by omega), gset_ne _ _ _ _ (by omega), gset_at]
              have g1 : gset (gset (gset (gset (gset (fun _ => none) i u0) (i + 1) (.tuple #[x, y])) (i + 2) u2) (i + 3) u3) (i + 4) u4 (i + 1) = some (.tuple #[x, y]) := by
                rw [gset_ne _ _ _ _ (by omega), gset_ne _ _ _ _ (by omega), gset_ne _ _ _ _ (by omega), gset_at]
              have g2 : gset (gset (gset (gset (gset (fun _ => none) i u0) (i + 1) (.tuple #[x, y])) (i + 2) u2) (i + 3) u3) (i + 4) u4 (i + 2) = some u2 := by
                rw [gset_ne _ _ _ _ (by omega), gset_ne _ _ _ _ (by omega), gset_at]
              have g3 : gset (gset (gset (gset (gset (fun _ => none) i u0) (i + 1) (.tuple #[x, y])) (i + 2) u2) (i + 3) u3) (i + 4) u4 (i + 3) = some u3 := by
                rw [gset_ne _ _ _ _ (by omega), gset_at]
              have g4 : gset (gset (gset (gset (gset (fun _ => none) i u0) (i + 1) (.tuple #[x, y])) (i + 2) u2) (i + 3) u3) (i + 4) u4 (i + 4) = some u4 := gset_at _ _ _
              obtain ⟨u, z, ht, hR⟩ := hD.c _ g0
              have hm := hD.m _ _ g0 g1
              obtain ⟨z', hx⟩ := hD.x _ _ g1 g2
              obtain ⟨u', hy⟩ := hD.y _ _ g1 g3
              obtain rfl := hD.q _ _ g2 g4
              subst ht
              rw [hm] at hx hy
              injection hx with hx
              injection hy with hy
              have hx1 : u = u4 ∧ z = z' := by simpa using hx
              have hy1 : u = u' ∧ z = u3 := by simpa using hy
              have hxy : x = u ∧ y = z := by injection hm with hm; simpa using hm
              obtain ⟨rfl, rfl⟩ := hxy
              obtain ⟨rfl, -⟩ := hx1
              obtain ⟨-, rfl⟩ := hy1
              exact hk _ _ w' hc.noS_ hR
end Go.Proofs.YtecaaimaeaocbaaDoor
namespace Go.Proofs.YtecaaimaeaocbaaDoor
open Go Go.RowKit
theorem wp_region_builda {P : Program} {id : Nat} {Q : Exit → Act → World → Prop} {a : Act} {W : World} {l : List Oper} {e : TypeId} {cs : Array Value} (n i j : Nat) (ks : List Nat) {oi oj : Oper} {di dj : Nat} (x : Operand)
    (hm : P.follows .mixedOrders = true) (hB : ownB .any l n ks [i, j] = true) (hpB : preB .any l (fun k => if k == j then [i] else []) [i, j] = true) (hsl : slotsB (pick l ks) a.tmps.size = true) (hij : i ≠ j)
    (hoi : l[i]? = some oi) (hoj : l[j]? = some oj) (edi : oi.dst = some di) (edj : oj.dst = some dj)
    (h : ∃ fin : Act, (∀ W1, Below W.heap.size W W1 → wpQuiet P l.toArray (fun w' => ∃ u : Since W1, w' = u.w) (fun a' => a' = fin) (pick l ks) a) ∧
      Region.wanted oi (yielded l.toArray fin.tmps) = true ∧ (∀ w1, (execOp fin.eval oi).run P w1 = .ok (.value (.slice (some ⟨w1.heap.size, 0, none⟩) 1 1)) (w1.alloc (.cells cs e))) ∧
      (∀ u0, Region.wanted oj (yielded l.toArray (fin.put (some di) u0).tmps) = true ∧ ∀ w1, (execOp (fin.put (some di) u0).eval oj).run P w1 = .ok (.value u0) w1) ∧
      ∀ g w', Below W.heap.size W w' → Blk w' g e cs → wpList P l.toArray Q (l.drop n) ((fin.put (some di) (.slice (some ⟨g, 0, none⟩) 1 1)).put (some dj) (.slice (some ⟨g, 0, none⟩) 1 1)) w') :
    (Code.region id l.toArray true).wp P Q a W := by
  obtain ⟨fin, hq, hwi, hri, hj, hk⟩ := h
  refine wp_region_own noS n ks [i, j] (fun k => if k == j then [i] else []) (fun _ _ => True)
    (fun γ w => (∀ u, γ i = some u → ∃ g, u = .slice (some ⟨g, 0, none⟩) 1 1 ∧ Blk w g e cs) ∧ (∀ u0 u1, γ i = some u0 → γ j = some u1 → u1 = u0) ∧ (γ i = none → γ j = none))
    hm hB hpB (fun k hk => ?_) hsl (fun γ w w' hb hD => ?_) ⟨fun _ h => (by cases h), fun _ _ h => (by cases h), fun _ => rfl⟩ (fun _ _ => ⟨undef, trivial⟩) ⟨fin, fun W1 hc => hq W1 hc.noS_, ?_⟩
  · have : k ≠ j := fun e => hk (by simp [e])
    simp [this]
  · refine ⟨fun u hu => ?_, hD.2.1, hD.2.2⟩
    obtain ⟨g, h1, h2⟩ := hD.1 u hu
    exact ⟨g, h1, h2.below hb h2.lt⟩
  · refine ⟨oi, by simpa using hoi, ⟨hwi, fun w γ hc hD hn _ => ?_⟩, fun u0 _ => ?_⟩
    · rw [hri w]
      refine ⟨trivial, hc.alloc _, fun u hu => ?_, fun u0 u1 _ hu => ?_, fun hu => ?_⟩
      · rw [gset_at] at hu
        injection hu with hu
        exact ⟨_, hu.symm, Blk.new w e cs⟩
      · rw [gset_ne _ _ _ _ (Ne.symm hij), hD.2.2 hn] at hu; cases hu
      · rw [gset_at] at hu; cases hu
    · rw [edi]
      obtain ⟨hwj, hrj⟩ := hj u0
      refine ⟨oj, by simpa using hoj, ⟨hwj, fun w γ hc hD hn hp => ?_⟩, fun u1 _ => ?_⟩
      · have hp0 := hp i (by simp)
        rw [gset_at] at hp0
        rw [hrj w]
        refine ⟨trivial, hc, fun u hu => ?_, fun v v1 hv hv1 => ?_, fun hv => ?_⟩
        · rw [gset_ne _ _ _ _ hij] at hu; exact hD.1 u hu
        · rw [gset_ne _ _ _ _ hij, hp0] at hv
          rw [gset_at] at hv1
          injection hv with hv; injection hv1 with hv1; rw [← hv, ← hv1]
        · rw [gset_ne _ _ _ _ hij, hp0] at hv; cases hv
      · rw [edj]
        intro w' hc hD
        have g0 : gset (gset (fun _ => none) i u0) j u1 i = some u0 := by rw [gset_ne _ _ _ _ hij, gset_at]
        have g1 : gset (gset (fun _ => none) i u0) j u1 j = some u1 := gset_at _ _ _
        obtain ⟨g, rfl, hb⟩ := hD.1 _ g0
        obtain rfl := hD.2.1 _ _ g0 g1
        exact hk g w' hc.noS_ hb
end Go.Proofs.YtecaaimaeaocbaaDoor
namespace Go.Proofs.YtecaaimaeaocbaaDoor
open Go Go.RowKit
def worseF (a b : Int) : Int := if a = 44 ∨ b = 0 then a else if b = 44 ∨ a = 0 then b else a
set_option maxRecDepth 100000 in
set_option maxHeartbeats 1000000 in
theorem worse_any (a b : Int) (w : World) : Calls Tryd.prog 94 #[.int .i64 a, .int .i64 b] w fun e w' => e = .returned (.int .i64 (worseF a b)) ∧ w = w' := by
  go_enter Tryd.func94, Tryd.ntmps94
  by_cases a1 : a = 44
  · have f1 : (a == 44) = true := by simp [a1]
    have HV : Hid (worseF a b = a) := by show _ = _; unfold worseF; rw [if_pos (.inl a1)]
    clear a1
    go_wp2_with fail
    go_ret
    exact ⟨by rw [HV.out]; rfl, rfl⟩
  have f1 : (a == 44) = false := by rw [beq_eq_false_iff_ne]; exact a1
  by_cases b0 : b = 0
  · have f2 : (b == 0) = true := by simp [b0]
    have HV : Hid (worseF a b = a) := by show _ = _; unfold worseF; rw [if_pos (.inr b0)]
    clear a1 b0
    go_wp2_with fail
    go_ret
    exact ⟨by rw [HV.out]; rfl, rfl⟩
  have f2 : (b == 0) = false := by rw [beq_eq_false_iff_ne]; exact b0
  by_cases b1 : b = 44
  · have f3 : (b == 44) = true := by simp [b1]
    have HV : Hid (worseF a b = b) := by show _ = _; unfold worseF; rw [if_neg (by omega), if_pos (.inl b1)]
    clear a1 b0 b1
    go_wp2_with fail
    go_ret
    exact ⟨by rw [HV.out]; rfl, rfl⟩
  have f3 : (b == 44) = false := by rw [beq_eq_false_iff_ne]; exact b1
  by_cases a0 : a = 0
  · have f4 : (a == 0) = true := by simp [a0]
    have HV : Hid (worseF a b = b) := by show _ = _; unfold worseF; rw [if_neg (by omega), if_pos (.inr a0)]
    clear a1 b0 b1 a0
    go_wp2_with fail
    go_ret
    exact ⟨by rw [HV.out]; rfl, rfl⟩
  have f4 : (a == 0) = false := by rw [beq_eq_false_iff_ne]; exact a0
  have HV : Hid (worseF a b = a) := by show _ = _; unfold worseF; rw [if_neg (by omega), if_neg (by omega)]
  clear a1 b0 b1 a0
  go_wp2_with fail
  go_ret
  exact ⟨by rw [HV.out]; rfl, rfl⟩
/-- the error of a layout -/
def layE (g s : Bool) : Int := if g then 44 else if s then 45 else 0
theorem worse_lay (g1 s1 g2 s2 : Bool) : worseF (layE g1 s1) (layE g2 s2) = layE (g1 || g2) (s1 || s2) := by
  cases g1 <;> cases s1 <;> cases g2 <;> cases s2 <;> decide
theorem worse_room (nr g s : Bool) : worseF (layE nr false) (layE g s) = layE (nr || g) s := by
  cases nr <;> cases g <;> cases s <;> decide
/-- what the document's layout returns -/
def rlE (K : Int) (kl : List Pt) (t : Tree) (rw' rh : Int) : Int := layE (goneT K (kdL kl) t rw' rh) (smallT K (kdL kl) t rw' rh)
def rlL (K : Int) (kl : List Pt) (t : Tree) (x y rw' rh : Int) : List Pl := if rlE K kl t rw' rh = 0 then placesT K (kdL kl) t x y rw' rh else []
def RLayPost (K : Int) (kl : List Pt) (t : Tree) (x y rw' rh : Int) (w : World) (e : Ending) (w' : World) : Prop :=
  ∃ (A : Option Addr) (c : Nat), e = .returned (.tuple #[.slice A (rlL K kl t x y rw' rh).length c, .int .i64 (rlE K kl t rw' rh)]) ∧ Slc Pl.enc 5 w' w'.heap.size A (rlL K kl t x y rw' rh) ∧ Below w.heap.size w w'
def RLayAt (f : Nat) : Prop := ∀ (t : Tree) (op n pc : Int) (A' : Option Addr) (k c' : Nat) (K : Int) (A : Option Addr) (kl : List Pt) (c : Nat) (x y rw' rh : Int) (w : World),
  Right t → kindsB kl = true → TreeAt w 0 w.heap.size f t ⟨op, n, pc, A', k, c'⟩ → Slc Pt.enc 2 w w.heap.size A kl → 0 ≤ K ∧ K ≤ 20 → Rb f x ∧ Rb f y ∧ Rb f rw' ∧ Rb f rh →
  Calls Tryd.prog 73 #[.agg #[.int .i64 op, .int .i64 n, .int .u8 pc, .slice A' k c'], .int .i64 x, .int .i64 y, .int .i64 rw', .int .i64 rh, .int .i64 K, .slice A kl.length c] w fun e w' => RLayPost K kl t x y rw' rh w e w'
theorem layE_zero {g s : Bool} (h : layE g s = 0) : g = false ∧ s = false := by
  cases g <;> cases s <;> first | exact ⟨rfl, rfl⟩ | exact absurd h (by decide)
theorem rl_none {K : Int} {kl : List Pt} {t : Tree} {x y rw' rh E : Int} (h : rlE K kl t rw' rh = E) (hE : E ≠ 0) : rlE K kl t rw' rh = E ∧ rlL K kl t x y rw' rh = [] := ⟨h, by unfold rlL; rw [h, if_neg hE]⟩
theorem rl_zero {K : Int} {kl : List Pt} {t : Tree} {x y rw' rh : Int} (h : rlE K kl t rw' rh = 0) : rlE K kl t rw' rh = 0 ∧ rlL K kl t x y rw' rh = placesT K (kdL kl) t x y rw' rh := ⟨h, by unfold rlL; rw [h, if_pos rfl]⟩
/-- the error and the list of a cut, out of those of its parts -/
theorem rl_cut {K : Int} {kl : List Pt} {t ta tb : Tree} {x y rw' rh xa ya wa ha xb yb wb hb : Int} {nr : Bool} (hg : goneT K (kdL kl) t rw' rh = (nr || (goneT K (kdL kl) ta wa ha || goneT K (kdL kl) tb wb hb))) (hs : smallT K (kdL kl) t rw' rh = (smallT K (kdL kl) ta wa ha || smallT K (kdL kl) tb wb hb))
    (hp : placesT K (kdL kl) t x y rw' rh = placesT K (kdL kl) ta xa ya wa ha ++ placesT K (kdL kl) tb xb yb wb hb) :
    rlE K kl t rw' rh = worseF (layE nr false) (worseF (rlE K kl ta wa ha) (rlE K kl tb wb hb)) ∧ (rlE K kl t rw' rh = 0 → rlL K kl t x y rw' rh = rlL K kl ta xa ya wa ha ++ rlL K kl tb xb yb wb hb) := by
  have h1 : rlE K kl t rw' rh = worseF (layE nr false) (worseF (rlE K kl ta wa ha) (rlE K kl tb wb hb)) := by
    unfold rlE; rw [hg, hs, worse_lay, worse_room]
  refine ⟨h1, fun h0 => ?_⟩
  obtain ⟨a1, a2⟩ := layE_zero (show layE _ _ = 0 from h0)
  rw [hg, Bool.or_eq_false_iff, Bool.or_eq_false_iff] at a1
  rw [hs, Bool.or_eq_false_iff] at a2
  have e1 : rlE K kl ta wa ha = 0 := by unfold rlE; rw [a1.2.1, a2.1]; rfl
  have e2 : rlE K kl tb wb hb = 0 := by unfold rlE; rw [a1.2.2, a2.2]; rfl
  rw [(rl_zero (x := x) (y := y) h0).2, (rl_zero (x := xa) (y := ya) e1).2, (rl_zero (x := xb) (y := yb) e2).2, hp]
end Go.Proofs.YtecaaimaeaocbaaDoor
namespace Go.Proofs.YtecaaimaeaocbaaDoor
open Go Go.RowKit
theorem places_few {K : Int} {ks : Kds} {t : Tree} (hr : Right t) : ∀ {x y w h : Int}, (placesT K ks t x y w h).length ≤ (pcsT t).length := by
  induction hr with
  | waste => intro x y w h; simp [placesT]
  | piece pc h1 h2 =>
    intro x y w h
    simp only [placesT, pcsT, if_true]
    cases ks[((pc : Int) - 97).toNat]? <;> simp
  | cut op n a b hop h1 h2 ra rb iha ihb =>
    intro x y w h
    simp only [placesT, pcsT, List.length_append]
    split
    · rw [List.length_append]; exact Nat.add_le_add iha ihb
    · rw [List.length_append]; exact Nat.add_le_add iha ihb
theorem pcs_ht {t : Tree} (hr : Right t) : (pcsT t).length ≤ 2 ^ htT t := by
  induction hr with
  | waste => simp [pcsT]
  | piece pc h1 h2 => simp [pcsT, htT]
  | cut op n a b hop h1 h2 ra rb iha ihb =>
    simp only [pcsT, htT, List.length_append, Nat.pow_succ]
    have e1 : 2 ^ htT a ≤ 2 ^ max (htT a) (htT b) := Nat.pow_le_pow_right (by omega) (Nat.le_max_left _ _)
    have e2 : 2 ^ htT b ≤ 2 ^ max (htT a) (htT b) := Nat.pow_le_pow_right (by omega) (Nat.le_max_right _ _)
    omega
theorem rl_len {K : Int} {kl : List Pt} {t : Tree} (hr : Right t) {w : World} {L B f : Nat} {v : TV} (hT : TreeAt w L B f t v) (hf : f ≤ 20) {x y rw' rh : Int} : (rlL K kl t x y rw' rh).length ≤ 2000000 := by
  have h1 : (pcsT t).length ≤ 2 ^ 20 := Nat.le_trans (pcs_ht hr) (Nat.pow_le_pow_right (by omega) (Nat.le_trans ((sh_ht hr).1 hT.sh) hf))
  have h2 : (2 : Nat) ^ 20 = 1048576 := by decide
  unfold rlL
  split
  · have := places_few (K := K) (ks := kdL kl) hr (x := x) (y := y) (w := rw') (h := rh); omega
  · simp
set_option maxRecDepth 100000 in
set_option maxHeartbeats 8000000 in
theorem rlay_step (f : Nat) (hf : f ≤ 20) (H : RLayAt f) : RLayAt (f + 1) := by
  intro t op n pc A' k c' K A kl c x y rw' rh w hr0 hko hT hS hK hbd
  have HH := hide H
  have HFF := hide hf
  have HR := hide hr0
  have HKO := hide hko
  have HBD := hide hbd
  have h26 := kinds_few hko
  have hm := Blk.new w 60 #[.int .i64 op, .int .i64 n, .int .u8 pc, .slice A' k c']
  have hB := (Below.refl w.heap.size w).alloc (Nat.le_refl _) (.cells #[.int .i64 op, .int .i64 n, .int .u8 pc, .slice A' k c'] 60)
  replace hT := hT.on hB
  replace hS := hS.on hB
  clear H hr0 hko hbd
  go_enter Tryd.func73, Tryd.ntmps73
  go_upto_region 1 with fail
  generalize w.alloc (.cells #[.int .i64 op, .int .i64 n, .int .u8 pc, .slice A' k c'] 60) = W at *
  by_cases c1 : rw' < 1
  · have HNR : Hid (noRoom rw' rh = true) := by show _ = _; unfold noRoom; rw [decide_eq_true c1]; rfl
    go_upto_region 4 with fail
    clear c1
    have q0 := hm.cell_ 0 rfl
    have q1 := hm.cell_ 1 rfl
    have q2 := hm.cell_ 2 rfl
    have q3 := hm.cell_ 3 rfl
    have hr2 := HR.out
    cases hr2 with
    | waste =>
      obtain ⟨h1, -, -, -, -⟩ := hT.head
      have h1' : op = 0 := h1
      subst h1'
      have HE : Hid (rlE K kl (.node 0 0 0 []) rw' rh = 44 ∧ rlL K kl (.node 0 0 0 []) x y rw' rh = []) := by
        refine ⟨?_, by unfold rlL; split <;> simp [placesT]⟩
        unfold rlE; simp [goneT, smallT, HNR.out, layE]
      clear h1
      go_wp2_with fail
      go_ret2
      try rw [HE9.out]
      try rw [HE9b.out]
      exact ⟨none, 0, by rw [HE.out.1, HE.out.2]; rfl, by rw [HE.out.2]; exact Slc.nil_, hB⟩
    | piece pc' p1 p2 =>
      obtain ⟨h1, -, h3, -, -⟩ := hT.head
      have h1' : op = 1 := h1
      subst h1'
      obtain ⟨m, rfl⟩ : ∃ m, pc' = 97 + m := ⟨pc' - 97, by omega⟩
      have hpc : pc = 97 + (m : Int) := by have : pc = ((97 + m : Nat) : Int) := h3; omega
      have HPC := hide hpc
      have e9 : ((97 + m : Nat) : Int) = pc := by rw [hpc]; push_cast; rfl
      have HE9 := hide e9
      have HE9b : Hid (97 + (m : Int) = pc) := hpc.symm
      have f2 : IntKind.u8.wrap (pc - 97) = (m : Int) := by
        have : pc - 97 = (m : Int) := by omega
        rw [this]; exact IntWalk.u8_in _ (by omega)
      have f3 : IntKind.i64.wrap (m : Int) = (m : Int) := IntWalk.i64_in _ (by omega)
      have HG0 : Hid (goneT K (kdL kl) (.node 1 0 pc []) rw' rh = (true || decide (kl.length ≤ m))) := by
        show _ = _
        simp only [goneT, kdL_len, HNR.out, decide_true, Bool.true_and]
        rw [show decide ((kl.length : Int) ≤ pc - 97) = decide (kl.length ≤ m) from decide_eq_decide.2 (by omega)]
      clear h1 h3 hpc e9 p1 p2
      by_cases hml : kl.length ≤ m
      · have f4 : (kl.length : Int) ≤ (m : Int) := by omega
        have HE : Hid (rlE K kl (.node 1 0 pc []) rw' rh = 44 ∧ rlL K kl (.node 1 0 pc []) x y rw' rh = []) := rl_none (by unfold rlE; rw [HG0.out, decide_eq_true hml, Bool.or_true]; rfl) (by decide)
        go_wp2_with fail
        go_ret2
        try rw [HE9.out]
        try rw [HE9b.out]
        exact ⟨none, 0, by rw [HE.out.1, HE.out.2]; rfl, by rw [HE.out.2]; exact Slc.nil_, hB⟩
      · have f4 : ¬ (kl.length : Int) ≤ (m : Int) := by omega
        have f5 : (m : Int) < (kl.length : Int) := by omega
        obtain ⟨q, b, off, hq0, hA, _, d0, d1⟩ := pt_at hS (k := m) (by omega)
        have hqk : kdOk q = true := by
          have h9 := HKO.out
          unfold kindsB at h9
          rw [Bool.and_eq_true] at h9
          exact List.all_eq_true.1 h9.1 q (List.mem_of_getElem? hq0)
        have HQK : Hid (1 ≤ q.a ∧ 1 ≤ q.b) := by
          unfold kdOk at hqk
          rw [Bool.and_eq_true, inB_iff, inB_iff] at hqk
          exact ⟨hqk.1.1, hqk.2.1⟩
        have HSM : Hid (smallT K (kdL kl) (.node 1 0 pc []) rw' rh = (decide (rw' < q.a) || decide (rh < q.b)) ∧ placesT K (kdL kl) (.node 1 0 pc []) x y rw' rh = [⟨pc, x, y, q.a, q.b⟩]) := by
          have e8 : (pc - 97).toNat = m := by have := HPC.out; omega
          constructor
          · simp only [smallT, decide_true, Bool.true_and]
            rw [e8, kdL_get, hq0]; rfl
          · simp only [placesT, if_true]
            rw [e8, kdL_get, hq0]; rfl
        rw [decide_eq_false hml, Bool.or_false] at HG0
        subst hA
        clear hqk hq0
        have HEW : Hid (rlE K kl (.node 1 0 pc []) rw' rh = layE true (decide (rw' < q.a) || decide (rh < q.b))) := by show _ = _; unfold rlE; rw [HG0.out, HSM.out.1]
        by_cases s1 : rw' < q.a
        · have HE : Hid (rlE K kl (.node 1 0 pc []) rw' rh = worseF 44 45 ∧ rlL K kl (.node 1 0 pc []) x y rw' rh = []) := rl_none (by rw [HEW.out, decide_eq_true s1]; rfl) (by decide)
          go_wp2_with fail
          refine (worse_any 44 45 _).mono ?_
          rintro e W' ⟨rfl, rfl⟩
          go_wp2_with fail
          go_ret2
          try rw [HE9.out]
          try rw [HE9b.out]
          exact ⟨none, 0, by rw [HE.out.1, HE.out.2]; rfl, by rw [HE.out.2]; exact Slc.nil_, hB⟩
        by_cases s2 : rh < q.b
        · have HE : Hid (rlE K kl (.node 1 0 pc []) rw' rh = worseF 44 45 ∧ rlL K kl (.node 1 0 pc []) x y rw' rh = []) := rl_none (by rw [HEW.out, decide_eq_true s2, Bool.or_true]; rfl) (by decide)
          go_wp2_with fail
          refine (worse_any 44 45 _).mono ?_
          rintro e W' ⟨rfl, rfl⟩
          go_wp2_with fail
          go_ret2
          try rw [HE9.out]
          try rw [HE9b.out]
          exact ⟨none, 0, by rw [HE.out.1, HE.out.2]; rfl, by rw [HE.out.2]; exact Slc.nil_, hB⟩
        exact absurd ((noRoom_false.2 ⟨by have := HQK.out; omega, by have := HQK.out; omega⟩).symm.trans HNR.out) (by decide)
    | cut op' n' ta tb hop hn1 hn2 hra hrb =>
      obtain ⟨h1, h2, h3, h4, -⟩ := hT.head
      have h1' : op = op' := h1
      have h2' : n = (n' : Int) := h2
      have h4' : k = 2 := h4
      have hn : 1 ≤ (n' : Int) ∧ (n' : Int) ≤ 1000 := by omega
      generalize hnn : (n' : Int) = nn at *
      have HNN := hide hnn
      clear hnn
      subst h1' h2' h4'
      have HRA := hide hra
      have HRB := hide hrb
      have HN := hide hn
      clear hn hn1 hn2 hra hrb h1 h2 h3 h4
      rcases hop with rfl | rfl
      · have HG : Hid (goneT K (kdL kl) (.node 2 n 0 [ta, tb]) rw' rh = (true || (goneT K (kdL kl) ta rw' n || goneT K (kdL kl) tb rw' (rh - n - K)))) := by show _ = _; rw [goneT, HNR.out, if_pos rfl]
        have HPL : Hid (placesT K (kdL kl) (.node 2 n 0 [ta, tb]) x y rw' rh = placesT K (kdL kl) ta x y rw' n ++ placesT K (kdL kl) tb x (y + n + K) rw' (rh - n - K)) := by show _ = _; rw [placesT, if_pos rfl]
        have HSM : Hid (smallT K (kdL kl) (.node 2 n 0 [ta, tb]) rw' rh = (smallT K (kdL kl) ta rw' n || smallT K (kdL kl) tb rw' (rh - n - K))) := by show _ = _; rw [smallT, if_pos rfl]
        have h2 := HN.out
        have h3 := hK
        have h4 := HBD.out
        unfold Rb at h4
        have e1 : IntKind.i64.wrap (y + n) = y + n := IntWalk.i64_in _ (by omega)
        have e2 : IntKind.i64.wrap (y + n + K) = y + n + K := IntWalk.i64_in _ (by omega)
        have e3 : IntKind.i64.wrap (rh - n) = rh - n := IntWalk.i64_in _ (by omega)
        have e4 : IntKind.i64.wrap (rh - n - K) = rh - n - K := IntWalk.i64_in _ (by omega)
        clear h2 h3 h4
        go_upto_region 17 with fail
        obtain ⟨t', o1, n1, p1, A1, k1, d1, pb0, off0, ht, hA, _, hT1, d0, d1', d2, d3⟩ := part_at hT (i := 0) (by simp [Tree.ts])
        dsimp only at hA
        obtain rfl : ta = t' := by simpa [Tree.ts] using ht
        subst hA; simp only [Nat.zero_mul, Nat.add_zero] at d0 d1' d2 d3
        try clear ht
        try clear hA
        obtain ⟨f0, hf0⟩ : ∃ F, rlE K kl ta rw' n = F := ⟨_, rfl⟩
        obtain ⟨l0, hl0⟩ : ∃ l, rlL K kl ta x y rw' n = l := ⟨_, rfl⟩
        have HF0 := hide hf0
        have HL0 := hide hl0
        have HN0 : Hid (l0.length ≤ 2000000) := by have := rl_len (K := K) (kl := kl) HRA.out hT1 HFF.out (x := x) (y := y) (rw' := rw') (rh := n); rw [hl0] at this; exact this
        clear hf0 hl0
        have z1 := hm.cell_ 1 (v := .int .i64 n) rfl
        have z3 := hm.cell_ 3 (v := .slice (some ⟨pb0, off0, none⟩) 2 c') rfl
        have HT1 := hide hT1
        have HT := hide hT
        have HS := hide hS
        have HMM := hide hm
        have HB := hide hB
        clear hm hT hS hT1 hB
        try clear q0
        try clear q1 q2 q3
        refine wp_region_callx (args := #[.agg #[.int .i64 o1, .int .i64 n1, .int .u8 p1, .slice A1 k1 d1], .int .i64 (x), .int .i64 (y), .int .i64 (rw'), .int .i64 (n), .int .i64 K, .slice A kl.length c]) 11 [0, 1, 2, 3, 4, 5, 6, 7, 8, 9, 10] (fun u z w => ∃ A c, u = .slice A l0.length c ∧ z = .int .i64 f0 ∧ Slc Pl.enc 5 w w.heap.size A l0) (.tmp 93) (.tmp 81) (.tmp 81) (.tmp 94) (by kernel_rfl) (by kernel_rfl) (by kernel_rfl) (by kernel_rfl) (fun u z w w' hb ⟨A, c, h1, h2, h3⟩ => ⟨A, c, h1, h2, h3.on hb⟩) rfl rfl rfl rfl rfl rfl rfl rfl rfl rfl rfl rfl rfl rfl rfl (fun _ _ => rfl) ?_
        apply Exists.intro
        refine ⟨fun W1 hc => ?_, ?_⟩
        · have y1 := Since.cell (Since.later hc z1)
          have y3 := Since.cell (Since.later hc z3)
          have y4 := Since.cell (Since.later hc d0)
          have y5 := Since.cell (Since.later hc d1')
          have y6 := Since.cell (Since.later hc d2)
          have y7 := Since.cell (Since.later hc d3)
          dsimp only [pick, List.filterMap, List.getElem?_cons_succ, List.getElem?_cons_zero]
          repeat (go_big_quiet_step (fail))
          exact wpQuiet_nil rfl
        refine ⟨by simp [Act.eval], rfl, fun w1 hb1 => ?_, fun u0 => ⟨rfl, rfl, fun u1 => ⟨rfl, rfl, fun u2 => ⟨rfl, rfl, fun u3 => ⟨rfl, rfl⟩⟩⟩⟩, fun u z w2 hb2 hR => ?_⟩
        · refine (HH.out ta o1 n1 p1 A1 k1 d1 K A kl c x y rw' n w1 HRA.out HKO.out (HT1.out.on hb1) (HS.out.on hb1) hK (by have h9 := HBD.out; have h8 := HN.out; unfold Rb at h9 ⊢; push_cast at h9; omega)).mono ?_
          rintro e w2 ⟨A2, c2, he, hS2, hb2⟩
          rw [HL0.out, HF0.out] at he
          rw [HL0.out] at hS2
          exact ⟨_, _, he, ⟨A2, c2, rfl, rfl, hS2⟩, hb2⟩
        obtain ⟨A0, c0, rfl, rfl, hS0⟩ := hR
        have hm := HMM.out.below hb2 HMM.out.lt
        have hT := HT.out.on hb2
        have hS := HS.out.on hb2
        have hB := HB.out.trans (hb2.mono HB.out.size)
        clear z1 z3 d0 d1' d2 d3 HT1 HT HS HMM HB
        dsimp only [Act.put]
        simp only [List.setIfInBounds_toArray, List.set_cons_succ, List.set_cons_zero, List.drop_succ_cons, List.drop_zero]
        obtain ⟨W, rfl⟩ : ∃ X : World, X = w2 := ⟨_, rfl⟩
        have q3 := hm.cell_ 3 (v := .slice (some ⟨pb0, off0, none⟩) 2 c') rfl
        go_upto_region 18 with fail
        clear hb2
        obtain ⟨t', o1, n1, p1, A1, k1, d1, pb1, off1, ht, hA, _, hT1, d0, d1', d2, d3⟩ := part_at hT (i := 1) (by simp [Tree.ts])
        dsimp only at hA
        obtain rfl : tb = t' := by simpa [Tree.ts] using ht
        injection hA with hA; injection hA with hA1 hA2; subst hA1 hA2; simp only [Nat.one_mul] at d0 d1' d2 d3
        try clear ht
        try clear hA
        obtain ⟨f1, hf1⟩ : ∃ F, rlE K kl tb rw' (rh - n - K) = F := ⟨_, rfl⟩
        obtain ⟨l1, hl1⟩ : ∃ l, rlL K kl tb x (y + n + K) rw' (rh - n - K) = l := ⟨_, rfl⟩
        have HF1 := hide hf1
        have HL1 := hide hl1
        have HN1 : Hid (l1.length ≤ 2000000) := by have := rl_len (K := K) (kl := kl) HRB.out hT1 HFF.out (x := x) (y := y + n + K) (rw' := rw') (rh := rh - n - K); rw [hl1] at this; exact this
        clear hf1 hl1
        have z1 := hm.cell_ 1 (v := .int .i64 n) rfl
        have z3 := hm.cell_ 3 (v := .slice (some ⟨pb0, off0, none⟩) 2 c') rfl
        have HT1 := hide hT1
        have HT := hide hT
        have HS := hide hS
        have HMM := hide hm
        have HB := hide hB
        clear hm hT hS hT1 hB
        try clear q0
        try clear q1 q2 q3
        refine wp_region_callx (args := #[.agg #[.int .i64 o1, .int .i64 n1, .int .u8 p1, .slice A1 k1 d1], .int .i64 (x), .int .i64 (y + n + K), .int .i64 (rw'), .int .i64 (rh - n - K), .int .i64 K, .slice A kl.length c]) 20 [0, 1, 2, 3, 4, 5, 6, 7, 8, 9, 10, 11, 12, 13, 14, 15, 16, 17, 18, 19] (fun u z w => ∃ A c, u = .slice A l1.length c ∧ z = .int .i64 f1 ∧ Slc Pl.enc 5 w w.heap.size A l1) (.tmp 117) (.tmp 96) (.tmp 96) (.tmp 118) (by kernel_rfl) (by kernel_rfl) (by kernel_rfl) (by kernel_rfl) (fun u z w w' hb ⟨A, c, h1, h2, h3⟩ => ⟨A, c, h1, h2, h3.on hb⟩) rfl rfl rfl rfl rfl rfl rfl rfl rfl rfl rfl rfl rfl rfl rfl (fun _ _ => rfl) ?_
        apply Exists.intro
        refine ⟨fun W1 hc => ?_, ?_⟩
        · have y1 := Since.cell (Since.later hc z1)
          have y3 := Since.cell (Since.later hc z3)
          have y4 := Since.cell (Since.later hc d0)
          have y5 := Since.cell (Since.later hc d1')
          have y6 := Since.cell (Since.later hc d2)
          have y7 := Since.cell (Since.later hc d3)
          dsimp only [pick, List.filterMap, List.getElem?_cons_succ, List.getElem?_cons_zero]
          repeat (go_big_quiet_step (fail))
          exact wpQuiet_nil rfl
        refine ⟨by simp [Act.eval], rfl, fun w1 hb1 => ?_, fun u0 => ⟨rfl, rfl, fun u1 => ⟨rfl, rfl, fun u2 => ⟨rfl, rfl, fun u3 => ⟨rfl, rfl⟩⟩⟩⟩, fun u z w2 hb2 hR => ?_⟩
        · refine (HH.out tb o1 n1 p1 A1 k1 d1 K A kl c x (y + n + K) rw' (rh - n - K) w1 HRB.out HKO.out (HT1.out.on hb1) (HS.out.on hb1) hK (by have h9 := HBD.out; have h8 := HN.out; unfold Rb at h9 ⊢; push_cast at h9; omega)).mono ?_
          rintro e w2 ⟨A2, c2, he, hS2, hb2⟩
          rw [HL1.out, HF1.out] at he
          rw [HL1.out] at hS2
          exact ⟨_, _, he, ⟨A2, c2, rfl, rfl, hS2⟩, hb2⟩
        obtain ⟨A1, c1, rfl, rfl, hS1⟩ := hR
        have hm := HMM.out.below hb2 HMM.out.lt
        have hT := HT.out.on hb2
        have hS := HS.out.on hb2
        have hB := HB.out.trans (hb2.mono HB.out.size)
        clear z1 z3 d0 d1' d2 d3 HT1 HT HS HMM HB
        dsimp only [Act.put]
        simp only [List.setIfInBounds_toArray, List.set_cons_succ, List.set_cons_zero, List.drop_succ_cons, List.drop_zero]
        replace hS0 := hS0.on hb2
        clear hb2 e1 e2 e3 e4
        go_wp2_with fail
        refine (worse_any f0 f1 _).mono ?_
        rintro e W' ⟨rfl, rfl⟩
        go_wp2_with fail
        refine (worse_any 44 (worseF f0 f1) _).mono ?_
        rintro e W' ⟨rfl, rfl⟩
        obtain ⟨E, hE⟩ : ∃ E, worseF 44 (worseF f0 f1) = E := ⟨_, rfl⟩
        rw [hE]
        have HRL := rl_cut (x := x) (y := y) HG.out HSM.out HPL.out
        rw [HF0.out, HF1.out, HL0.out, HL1.out] at HRL
        replace HRL := hide (And.intro (HRL.1.trans hE) HRL.2)
        clear hE
        by_cases hE0 : E = 0
        · subst hE0
          have HE : Hid (_ = l0 ++ l1) := HRL.out.2 HRL.out.1
          clear hT hm
          go_wp2_with (at_builtin; first | (refine wpList_app_own (base := w2.heap.size) (xs := ([] : List Pl)) (ys := l0) _ _ rfl rfl et_place (Own.empty_ (Blk.new w2 38 #[]) (Nat.le_refl _)) rfl rfl (hS0.on ((Below.refl _ w2).alloc (Nat.le_refl _) _)) rfl (fun _ => rfl) pl_one (by have := HN0.out; simp <;> omega) (by simp) ?_; intro v7 W7 o7 hb7 hg7; rw [List.nil_append] at o7; have hbT := ((Below.refl w2.heap.size w2).alloc (Nat.le_refl _) (.cells #[] 38)).trans hb7; have hS1b := hS1.on hbT; have hB7 := hB.trans (hbT.mono hB.size)) | (refine wpList_app_own (base := w2.heap.size) (ys := l1) _ _ rfl rfl et_place o7 rfl rfl hS1b rfl (fun _ => rfl) pl_one (by have := HN0.out; have := HN1.out; omega) hbT.size ?_; intro v8 W8 o8 hb8 hg8; obtain ⟨A8, c8, rfl, S8⟩ := o8.form (fun _ => rfl); have hB8 := hB7.trans (hb8.mono hB.size)))
          go_ret2
          exact ⟨A8, c8, by rw [HNN.out, HRL.out.1, HE.out, List.length_append]; rfl, by rw [HNN.out, HE.out]; exact S8, hB8⟩
        · have g1 : (E == 0) = false := by rw [beq_eq_false_iff_ne]; exact hE0
          have HE := rl_none (x := x) (y := y) HRL.out.1 hE0
          replace HE := hide HE
          clear hE0 hT hm
          go_wp2_with fail
          go_ret2
          exact ⟨none, 0, by rw [HNN.out, HE.out.1, HE.out.2]; rfl, by rw [HNN.out, HE.out.2]; exact Slc.nil_, hB⟩
      · have HG : Hid (goneT K (kdL kl) (.node 3 n 0 [ta, tb]) rw' rh = (true || (goneT K (kdL kl) ta n rh || goneT K (kdL kl) tb (rw' - n - K) rh))) := by show _ = _; rw [goneT, HNR.out, if_neg (by decide)]
        have HPL : Hid (placesT K (kdL kl) (.node 3 n 0 [ta, tb]) x y rw' rh = placesT K (kdL kl) ta x y n rh ++ placesT K (kdL kl) tb (x + n + K) y (rw' - n - K) rh) := by show _ = _; rw [placesT, if_neg (by decide)]
        have HSM : Hid (smallT K (kdL kl) (.node 3 n 0 [ta, tb]) rw' rh = (smallT K (kdL kl) ta n rh || smallT K (kdL kl) tb (rw' - n - K) rh)) := by show _ = _; rw [smallT, if_neg (by decide)]
        have h2 := HN.out
        have h3 := hK
        have h4 := HBD.out
        unfold Rb at h4
        have e1 : IntKind.i64.wrap (x + n) = x + n := IntWalk.i64_in _ (by omega)
        have e2 : IntKind.i64.wrap (x + n + K) = x + n + K := IntWalk.i64_in _ (by omega)
        have e3 : IntKind.i64.wrap (rw' - n) = rw' - n := IntWalk.i64_in _ (by omega)
        have e4 : IntKind.i64.wrap (rw' - n - K) = rw' - n - K := IntWalk.i64_in _ (by omega)
        clear h2 h3 h4
        go_upto_region 19 with fail
        obtain ⟨t', o1, n1, p1, A1, k1, d1, pb0, off0, ht, hA, _, hT1, d0, d1', d2, d3⟩ := part_at hT (i := 0) (by simp [Tree.ts])
        dsimp only at hA
        obtain rfl : ta = t' := by simpa [Tree.ts] using ht
        subst hA; simp only [Nat.zero_mul, Nat.add_zero] at d0 d1' d2 d3
        try clear ht
        try clear hA
        obtain ⟨f0, hf0⟩ : ∃ F, rlE K kl ta n rh = F := ⟨_, rfl⟩
        obtain ⟨l0, hl0⟩ : ∃ l, rlL K kl ta x y n rh = l := ⟨_, rfl⟩
        have HF0 := hide hf0
        have HL0 := hide hl0
        have HN0 : Hid (l0.length ≤ 2000000) := by have := rl_len (K := K) (kl := kl) HRA.out hT1 HFF.out (x := x) (y := y) (rw' := n) (rh := rh); rw [hl0] at this; exact this
        clear hf0 hl0
        have z1 := hm.cell_ 1 (v := .int .i64 n) rfl
        have z3 := hm.cell_ 3 (v := .slice (some ⟨pb0, off0, none⟩) 2 c') rfl
        have HT1 := hide hT1
        have HT := hide hT
        have HS := hide hS
        have HMM := hide hm
        have HB := hide hB
        clear hm hT hS hT1 hB
        try clear q0
        try clear q1 q2 q3
        refine wp_region_callx (args := #[.agg #[.int .i64 o1, .int .i64 n1, .int .u8 p1, .slice A1 k1 d1], .int .i64 (x), .int .i64 (y), .int .i64 (n), .int .i64 (rh), .int .i64 K, .slice A kl.length c]) 11 [0, 1, 2, 3, 4, 5, 6, 7, 8, 9, 10] (fun u z w => ∃ A c, u = .slice A l0.length c ∧ z = .int .i64 f0 ∧ Slc Pl.enc 5 w w.heap.size A l0) (.tmp 132) (.tmp 120) (.tmp 120) (.tmp 133) (by kernel_rfl) (by kernel_rfl) (by kernel_rfl) (by kernel_rfl) (fun u z w w' hb ⟨A, c, h1, h2, h3⟩ => ⟨A, c, h1, h2, h3.on hb⟩) rfl rfl rfl rfl rfl rfl rfl rfl rfl rfl rfl rfl rfl rfl rfl (fun _ _ => rfl) ?_
        apply Exists.intro
        refine ⟨fun W1 hc => ?_, ?_⟩
        · have y1 := Since.cell (Since.later hc z1)
          have y3 := Since.cell (Since.later hc z3)
          have y4 := Since.cell (Since.later hc d0)
          have y5 := Since.cell (Since.later hc d1')
          have y6 := Since.cell (Since.later hc d2)
          have y7 := Since.cell (Since.later hc d3)
          dsimp only [pick, List.filterMap, List.getElem?_cons_succ, List.getElem?_cons_zero]
          repeat (go_big_quiet_step (fail))
          exact wpQuiet_nil rfl
        refine ⟨by simp [Act.eval], rfl, fun w1 hb1 => ?_, fun u0 => ⟨rfl, rfl, fun u1 => ⟨rfl, rfl, fun u2 => ⟨rfl, rfl, fun u3 => ⟨rfl, rfl⟩⟩⟩⟩, fun u z w2 hb2 hR => ?_⟩
        · refine (HH.out ta o1 n1 p1 A1 k1 d1 K A kl c x y n rh w1 HRA.out HKO.out (HT1.out.on hb1) (HS.out.on hb1) hK (by have h9 := HBD.out; have h8 := HN.out; unfold Rb at h9 ⊢; push_cast at h9; omega)).mono ?_
          rintro e w2 ⟨A2, c2, he, hS2, hb2⟩
          rw [HL0.out, HF0.out] at he
          rw [HL0.out] at hS2
          exact ⟨_, _, he, ⟨A2, c2, rfl, rfl, hS2⟩, hb2⟩
        obtain ⟨A0, c0, rfl, rfl, hS0⟩ := hR
        have hm := HMM.out.below hb2 HMM.out.lt
        have hT := HT.out.on hb2
        have hS := HS.out.on hb2
        have hB := HB.out.trans (hb2.mono HB.out.size)
        clear z1 z3 d0 d1' d2 d3 HT1 HT HS HMM HB
        dsimp only [Act.put]
        simp only [List.setIfInBounds_toArray, List.set_cons_succ, List.set_cons_zero, List.drop_succ_cons, List.drop_zero]
        obtain ⟨W, rfl⟩ : ∃ X : World, X = w2 := ⟨_, rfl⟩
        have q3 := hm.cell_ 3 (v := .slice (some ⟨pb0, off0, none⟩) 2 c') rfl
        go_upto_region 20 with fail
        clear hb2
        obtain ⟨t', o1, n1, p1, A1, k1, d1, pb1, off1, ht, hA, _, hT1, d0, d1', d2, d3⟩ := part_at hT (i := 1) (by simp [Tree.ts])
        dsimp only at hA
        obtain rfl : tb = t' := by simpa [Tree.ts] using ht
        injection hA with hA; injection hA with hA1 hA2; subst hA1 hA2; simp only [Nat.one_mul] at d0 d1' d2 d3
        try clear ht
        try clear hA
        obtain ⟨f1, hf1⟩ : ∃ F, rlE K kl tb (rw' - n - K) rh = F := ⟨_, rfl⟩
        obtain ⟨l1, hl1⟩ : ∃ l, rlL K kl tb (x + n + K) y (rw' - n - K) rh = l := ⟨_, rfl⟩
        have HF1 := hide hf1
        have HL1 := hide hl1
        have HN1 : Hid (l1.length ≤ 2000000) := by have := rl_len (K := K) (kl := kl) HRB.out hT1 HFF.out (x := x + n + K) (y := y) (rw' := rw' - n - K) (rh := rh); rw [hl1] at this; exact this
        clear hf1 hl1
        have z1 := hm.cell_ 1 (v := .int .i64 n) rfl
        have z3 := hm.cell_ 3 (v := .slice (some ⟨pb0, off0, none⟩) 2 c') rfl
        have HT1 := hide hT1
        have HT := hide hT
        have HS := hide hS
        have HMM := hide hm
        have HB := hide hB
        clear hm hT hS hT1 hB
        try clear q0
        try clear q1 q2 q3
        refine wp_region_callx (args := #[.agg #[.int .i64 o1, .int .i64 n1, .int .u8 p1, .slice A1 k1 d1], .int .i64 (x + n + K), .int .i64 (y), .int .i64 (rw' - n - K), .int .i64 (rh), .int .i64 K, .slice A kl.length c]) 20 [0, 1, 2, 3, 4, 5, 6, 7, 8, 9, 10, 11, 12, 13, 14, 15, 16, 17, 18, 19] (fun u z w => ∃ A c, u = .slice A l1.length c ∧ z = .int .i64 f1 ∧ Slc Pl.enc 5 w w.heap.size A l1) (.tmp 156) (.tmp 135) (.tmp 135) (.tmp 157) (by kernel_rfl) (by kernel_rfl) (by kernel_rfl) (by kernel_rfl) (fun u z w w' hb ⟨A, c, h1, h2, h3⟩ => ⟨A, c, h1, h2, h3.on hb⟩) rfl rfl rfl rfl rfl rfl rfl rfl rfl rfl rfl rfl rfl rfl rfl (fun _ _ => rfl) ?_
        apply Exists.intro
        refine ⟨fun W1 hc => ?_, ?_⟩
        · have y1 := Since.cell (Since.later hc z1)
          have y3 := Since.cell (Since.later hc z3)
          have y4 := Since.cell (Since.later hc d0)
          have y5 := Since.cell (Since.later hc d1')
          have y6 := Since.cell (Since.later hc d2)
          have y7 := Since.cell (Since.later hc d3)
          dsimp only [pick, List.filterMap, List.getElem?_cons_succ, List.getElem?_cons_zero]
          repeat (go_big_quiet_step (fail))
          exact wpQuiet_nil rfl
        refine ⟨by simp [Act.eval], rfl, fun w1 hb1 => ?_, fun u0 => ⟨rfl, rfl, fun u1 => ⟨rfl, rfl, fun u2 => ⟨rfl, rfl, fun u3 => ⟨rfl, rfl⟩⟩⟩⟩, fun u z w2 hb2 hR => ?_⟩
        · refine (HH.out tb o1 n1 p1 A1 k1 d1 K A kl c (x + n + K) y (rw' - n - K) rh w1 HRB.out HKO.out (HT1.out.on hb1) (HS.out.on hb1) hK (by have h9 := HBD.out; have h8 := HN.out; unfold Rb at h9 ⊢; push_cast at h9; omega)).mono ?_
          rintro e w2 ⟨A2, c2, he, hS2, hb2⟩
          rw [HL1.out, HF1.out] at he
          rw [HL1.out] at hS2
          exact ⟨_, _, he, ⟨A2, c2, rfl, rfl, hS2⟩, hb2⟩
        obtain ⟨A1, c1, rfl, rfl, hS1⟩ := hR
        have hm := HMM.out.below hb2 HMM.out.lt
        have hT := HT.out.on hb2
        have hS := HS.out.on hb2
        have hB := HB.out.trans (hb2.mono HB.out.size)
        clear z1 z3 d0 d1' d2 d3 HT1 HT HS HMM HB
        dsimp only [Act.put]
        simp only [List.setIfInBounds_toArray, List.set_cons_succ, List.set_cons_zero, List.drop_succ_cons, List.drop_zero]
        replace hS0 := hS0.on hb2
        clear hb2 e1 e2 e3 e4
        go_wp2_with fail
        refine (worse_any f0 f1 _).mono ?_
        rintro e W' ⟨rfl, rfl⟩
        go_wp2_with fail
        refine (worse_any 44 (worseF f0 f1) _).mono ?_
        rintro e W' ⟨rfl, rfl⟩
        obtain ⟨E, hE⟩ : ∃ E, worseF 44 (worseF f0 f1) = E := ⟨_, rfl⟩
        rw [hE]
        have HRL := rl_cut (x := x) (y := y) HG.out HSM.out HPL.out
        rw [HF0.out, HF1.out, HL0.out, HL1.out] at HRL
        replace HRL := hide (And.intro (HRL.1.trans hE) HRL.2)
        clear hE
        by_cases hE0 : E = 0
        · subst hE0
          have HE : Hid (_ = l0 ++ l1) := HRL.out.2 HRL.out.1
          clear hT hm
          go_wp2_with (at_builtin; first | (refine wpList_app_own (base := w2.heap.size) (xs := ([] : List Pl)) (ys := l0) _ _ rfl rfl et_place (Own.empty_ (Blk.new w2 38 #[]) (Nat.le_refl _)) rfl rfl (hS0.on ((Below.refl _ w2).alloc (Nat.le_refl _) _)) rfl (fun _ => rfl) pl_one (by have := HN0.out; simp <;> omega) (by simp) ?_; intro v7 W7 o7 hb7 hg7; rw [List.nil_append] at o7; have hbT := ((Below.refl w2.heap.size w2).alloc (Nat.le_refl _) (.cells #[] 38)).trans hb7; have hS1b := hS1.on hbT; have hB7 := hB.trans (hbT.mono hB.size)) | (refine wpList_app_own (base := w2.heap.size) (ys := l1) _ _ rfl rfl et_place o7 rfl rfl hS1b rfl (fun _ => rfl) pl_one (by have := HN0.out; have := HN1.out; omega) hbT.size ?_; intro v8 W8 o8 hb8 hg8; obtain ⟨A8, c8, rfl, S8⟩ := o8.form (fun _ => rfl); have hB8 := hB7.trans (hb8.mono hB.size)))
          go_ret2
          exact ⟨A8, c8, by rw [HNN.out, HRL.out.1, HE.out, List.length_append]; rfl, by rw [HNN.out, HE.out]; exact S8, hB8⟩
        · have g1 : (E == 0) = false := by rw [beq_eq_false_iff_ne]; exact hE0
          have HE := rl_none (x := x) (y := y) HRL.out.1 hE0
          replace HE := hide HE
          clear hE0 hT hm
          go_wp2_with fail
          go_ret2
          exact ⟨none, 0, by rw [HNN.out, HE.out.1, HE.out.2]; rfl, by rw [HNN.out, HE.out.2]; exact Slc.nil_, hB⟩
  by_cases c2 : rh < 1
  · have HNR : Hid (noRoom rw' rh = true) := by show _ = _; unfold noRoom; rw [decide_eq_true c2]; simp
    go_upto_region 4 with fail
    clear c1 c2
    have q0 := hm.cell_ 0 rfl
    have q1 := hm.cell_ 1 rfl
    have q2 := hm.cell_ 2 rfl
    have q3 := hm.cell_ 3 rfl
    have hr2 := HR.out
    cases hr2 with
    | waste =>
      obtain ⟨h1, -, -, -, -⟩ := hT.head
      have h1' : op = 0 := h1
      subst h1'
      have HE : Hid (rlE K kl (.node 0 0 0 []) rw' rh = 44 ∧ rlL K kl (.node 0 0 0 []) x y rw' rh = []) := by
        refine ⟨?_, by unfold rlL; split <;> simp [placesT]⟩
        unfold rlE; simp [goneT, smallT, HNR.out, layE]
      clear h1
      go_wp2_with fail
      go_ret2
      try rw [HE9.out]
      try rw [HE9b.out]
      exact ⟨none, 0, by rw [HE.out.1, HE.out.2]; rfl, by rw [HE.out.2]; exact Slc.nil_, hB⟩
    | piece pc' p1 p2 =>
      obtain ⟨h1, -, h3, -, -⟩ := hT.head
      have h1' : op = 1 := h1
      subst h1'
      obtain ⟨m, rfl⟩ : ∃ m, pc' = 97 + m := ⟨pc' - 97, by omega⟩
      have hpc : pc = 97 + (m : Int) := by have : pc = ((97 + m : Nat) : Int) := h3; omega
      have HPC := hide hpc
      have e9 : ((97 + m : Nat) : Int) = pc := by rw [hpc]; push_cast; rfl
      have HE9 := hide e9
      have HE9b : Hid (97 + (m : Int) = pc) := hpc.symm
      have f2 : IntKind.u8.wrap (pc - 97) = (m : Int) := by
        have : pc - 97 = (m : Int) := by omega
        rw [this]; exact IntWalk.u8_in _ (by omega)
      have f3 : IntKind.i64.wrap (m : Int) = (m : Int) := IntWalk.i64_in _ (by omega)
      have HG0 : Hid (goneT K (kdL kl) (.node 1 0 pc []) rw' rh = (true || decide (kl.length ≤ m))) := by
        show _ = _
        simp only [goneT, kdL_len, HNR.out, decide_true, Bool.true_and]
        rw [show decide ((kl.length : Int) ≤ pc - 97) = decide (kl.length ≤ m) from decide_eq_decide.2 (by omega)]
      clear h1 h3 hpc e9 p1 p2
      by_cases hml : kl.length ≤ m
      · have f4 : (kl.length : Int) ≤ (m : Int) := by omega
        have HE : Hid (rlE K kl (.node 1 0 pc []) rw' rh = 44 ∧ rlL K kl (.node 1 0 pc []) x y rw' rh = []) := rl_none (by unfold rlE; rw [HG0.out, decide_eq_true hml, Bool.or_true]; rfl) (by decide)
        go_wp2_with fail
        go_ret2
        try rw [HE9.out]
        try rw [HE9b.out]
        exact ⟨none, 0, by rw [HE.out.1, HE.out.2]; rfl, by rw [HE.out.2]; exact Slc.nil_, hB⟩
      · have f4 : ¬ (kl.length : Int) ≤ (m : Int) := by omega
        have f5 : (m : Int) < (kl.length : Int) := by omega
        obtain ⟨q, b, off, hq0, hA, _, d0, d1⟩ := pt_at hS (k := m) (by omega)
        have hqk : kdOk q = true := by
          have h9 := HKO.out
          unfold kindsB at h9
          rw [Bool.and_eq_true] at h9
          exact List.all_eq_true.1 h9.1 q (List.mem_of_getElem? hq0)
        have HQK : Hid (1 ≤ q.a ∧ 1 ≤ q.b) := by
          unfold kdOk at hqk
          rw [Bool.and_eq_true, inB_iff, inB_iff] at hqk
          exact ⟨hqk.1.1, hqk.2.1⟩
        have HSM : Hid (smallT K (kdL kl) (.node 1 0 pc []) rw' rh = (decide (rw' < q.a) || decide (rh < q.b)) ∧ placesT K (kdL kl) (.node 1 0 pc []) x y rw' rh = [⟨pc, x, y, q.a, q.b⟩]) := by
          have e8 : (pc - 97).toNat = m := by have := HPC.out; omega
          constructor
          · simp only [smallT, decide_true, Bool.true_and]
            rw [e8, kdL_get, hq0]; rfl
          · simp only [placesT, if_true]
            rw [e8, kdL_get, hq0]; rfl
        rw [decide_eq_false hml, Bool.or_false] at HG0
        subst hA
        clear hqk hq0
        have HEW : Hid (rlE K kl (.node 1 0 pc []) rw' rh = layE true (decide (rw' < q.a) || decide (rh < q.b))) := by show _ = _; unfold rlE; rw [HG0.out, HSM.out.1]
        by_cases s1 : rw' < q.a
        · have HE : Hid (rlE K kl (.node 1 0 pc []) rw' rh = worseF 44 45 ∧ rlL K kl (.node 1 0 pc []) x y rw' rh = []) := rl_none (by rw [HEW.out, decide_eq_true s1]; rfl) (by decide)
          go_wp2_with fail
          refine (worse_any 44 45 _).mono ?_
          rintro e W' ⟨rfl, rfl⟩
          go_wp2_with fail
          go_ret2
          try rw [HE9.out]
          try rw [HE9b.out]
          exact ⟨none, 0, by rw [HE.out.1, HE.out.2]; rfl, by rw [HE.out.2]; exact Slc.nil_, hB⟩
        by_cases s2 : rh < q.b
        · have HE : Hid (rlE K kl (.node 1 0 pc []) rw' rh = worseF 44 45 ∧ rlL K kl (.node 1 0 pc []) x y rw' rh = []) := rl_none (by rw [HEW.out, decide_eq_true s2, Bool.or_true]; rfl) (by decide)
          go_wp2_with fail
          refine (worse_any 44 45 _).mono ?_
          rintro e W' ⟨rfl, rfl⟩
          go_wp2_with fail
          go_ret2
          try rw [HE9.out]
          try rw [HE9b.out]
          exact ⟨none, 0, by rw [HE.out.1, HE.out.2]; rfl, by rw [HE.out.2]; exact Slc.nil_, hB⟩
        exact absurd ((noRoom_false.2 ⟨by have := HQK.out; omega, by have := HQK.out; omega⟩).symm.trans HNR.out) (by decide)
    | cut op' n' ta tb hop hn1 hn2 hra hrb =>
      obtain ⟨h1, h2, h3, h4, -⟩ := hT.head
      have h1' : op = op' := h1
      have h2' : n = (n' : Int) := h2
      have h4' : k = 2 := h4
      have hn : 1 ≤ (n' : Int) ∧ (n' : Int) ≤ 1000 := by omega
      generalize hnn : (n' : Int) = nn at *
      have HNN := hide hnn
      clear hnn
      subst h1' h2' h4'
      have HRA := hide hra
      have HRB := hide hrb
      have HN := hide hn
      clear hn hn1 hn2 hra hrb h1 h2 h3 h4
      rcases hop with rfl | rfl
      · have HG : Hid (goneT K (kdL kl) (.node 2 n 0 [ta, tb]) rw' rh = (true || (goneT K (kdL kl) ta rw' n || goneT K (kdL kl) tb rw' (rh - n - K)))) := by show _ = _; rw [goneT, HNR.out, if_pos rfl]
        have HPL : Hid (placesT K (kdL kl) (.node 2 n 0 [ta, tb]) x y rw' rh = placesT K (kdL kl) ta x y rw' n ++ placesT K (kdL kl) tb x (y + n + K) rw' (rh - n - K)) := by show _ = _; rw [placesT, if_pos rfl]
        have HSM : Hid (smallT K (kdL kl) (.node 2 n 0 [ta, tb]) rw' rh = (smallT K (kdL kl) ta rw' n || smallT K (kdL kl) tb rw' (rh - n - K))) := by show _ = _; rw [smallT, if_pos rfl]
        have h2 := HN.out
        have h3 := hK
        have h4 := HBD.out
        unfold Rb at h4
        have e1 : IntKind.i64.wrap (y + n) = y + n := IntWalk.i64_in _ (by omega)
        have e2 : IntKind.i64.wrap (y + n + K) = y + n + K := IntWalk.i64_in _ (by omega)
        have e3 : IntKind.i64.wrap (rh - n) = rh - n := IntWalk.i64_in _ (by omega)
        have e4 : IntKind.i64.wrap (rh - n - K) = rh - n - K := IntWalk.i64_in _ (by omega)
        clear h2 h3 h4
        go_upto_region 17 with fail
        obtain ⟨t', o1, n1, p1, A1, k1, d1, pb0, off0, ht, hA, _, hT1, d0, d1', d2, d3⟩ := part_at hT (i := 0) (by simp [Tree.ts])
        dsimp only at hA
        obtain rfl : ta = t' := by simpa [Tree.ts] using ht
        subst hA; simp only [Nat.zero_mul, Nat.add_zero] at d0 d1' d2 d3
        try clear ht
        try clear hA
        obtain ⟨f0, hf0⟩ : ∃ F, rlE K kl ta rw' n = F := ⟨_, rfl⟩
        obtain ⟨l0, hl0⟩ : ∃ l, rlL K kl ta x y rw' n = l := ⟨_, rfl⟩
        have HF0 := hide hf0
        have HL0 := hide hl0
        have HN0 : Hid (l0.length ≤ 2000000) := by have := rl_len (K := K) (kl := kl) HRA.out hT1 HFF.out (x := x) (y := y) (rw' := rw') (rh := n); rw [hl0] at this; exact this
        clear hf0 hl0
        have z1 := hm.cell_ 1 (v := .int .i64 n) rfl
        have z3 := hm.cell_ 3 (v := .slice (some ⟨pb0, off0, none⟩) 2 c') rfl
        have HT1 := hide hT1
        have HT := hide hT
        have HS := hide hS
        have HMM := hide hm
        have HB := hide hB
        clear hm hT hS hT1 hB
        try clear q0
        try clear q1 q2 q3
        refine wp_region_callx (args := #[.agg #[.int .i64 o1, .int .i64 n1, .int .u8 p1, .slice A1 k1 d1], .int .i64 (x), .int .i64 (y), .int .i64 (rw'), .int .i64 (n), .int .i64 K, .slice A kl.length c]) 11 [0, 1, 2, 3, 4, 5, 6, 7, 8, 9, 10] (fun u z w => ∃ A c, u = .slice A l0.length c ∧ z = .int .i64 f0 ∧ Slc Pl.enc 5 w w.heap.size A l0) (.tmp 93) (.tmp 81) (.tmp 81) (.tmp 94) (by kernel_rfl) (by kernel_rfl) (by kernel_rfl) (by kernel_rfl) (fun u z w w' hb ⟨A, c, h1, h2, h3⟩ => ⟨A, c, h1, h2, h3.on hb⟩) rfl rfl rfl rfl rfl rfl rfl rfl rfl rfl rfl rfl rfl rfl rfl (fun _ _ => rfl) ?_
        apply Exists.intro
        refine ⟨fun W1 hc => ?_, ?_⟩
        · have y1 := Since.cell (Since.later hc z1)
          have y3 := Since.cell (Since.later hc z3)
          have y4 := Since.cell (Since.later hc d0)
          have y5 := Since.cell (Since.later hc d1')
          have y6 := Since.cell (Since.later hc d2)
          have y7 := Since.cell (Since.later hc d3)
          dsimp only [pick, List.filterMap, List.getElem?_cons_succ, List.getElem?_cons_zero]
          repeat (go_big_quiet_step (fail))
          exact wpQuiet_nil rfl
        refine ⟨by simp [Act.eval], rfl, fun w1 hb1 => ?_, fun u0 => ⟨rfl, rfl, fun u1 => ⟨rfl, rfl, fun u2 => ⟨rfl, rfl, fun u3 => ⟨rfl, rfl⟩⟩⟩⟩, fun u z w2 hb2 hR => ?_⟩
        · refine (HH.out ta o1 n1 p1 A1 k1 d1 K A kl c x y rw' n w1 HRA.out HKO.out (HT1.out.on hb1) (HS.out.on hb1) hK (by have h9 := HBD.out; have h8 := HN.out; unfold Rb at h9 ⊢; push_cast at h9; omega)).mono ?_
          rintro e w2 ⟨A2, c2, he, hS2, hb2⟩
          rw [HL0.out, HF0.out] at he
          rw [HL0.out] at hS2
          exact ⟨_, _, he, ⟨A2, c2, rfl, rfl, hS2⟩, hb2⟩
        obtain ⟨A0, c0, rfl, rfl, hS0⟩ := hR
        have hm := HMM.out.below hb2 HMM.out.lt
        have hT := HT.out.on hb2
        have hS := HS.out.on hb2
        have hB := HB.out.trans (hb2.mono HB.out.size)
        clear z1 z3 d0 d1' d2 d3 HT1 HT HS HMM HB
        dsimp only [Act.put]
        simp only [List.setIfInBounds_toArray, List.set_cons_succ, List.set_cons_zero, List.drop_succ_cons, List.drop_zero]
        obtain ⟨W, rfl⟩ : ∃ X : World, X = w2 := ⟨_, rfl⟩
        have q3 := hm.cell_ 3 (v := .slice (some ⟨pb0, off0, none⟩) 2 c') rfl
        go_upto_region 18 with fail
        clear hb2
        obtain ⟨t', o1, n1, p1, A1, k1, d1, pb1, off1, ht, hA, _, hT1, d0, d1', d2, d3⟩ := part_at hT (i := 1) (by simp [Tree.ts])
        dsimp only at hA
        obtain rfl : tb = t' := by simpa [Tree.ts] using ht
        injection hA with hA; injection hA with hA1 hA2; subst hA1 hA2; simp only [Nat.one_mul] at d0 d1' d2 d3
        try clear ht
        try clear hA
        obtain ⟨f1, hf1⟩ : ∃ F, rlE K kl tb rw' (rh - n - K) = F := ⟨_, rfl⟩
        obtain ⟨l1, hl1⟩ : ∃ l, rlL K kl tb x (y + n + K) rw' (rh - n - K) = l := ⟨_, rfl⟩
        have HF1 := hide hf1
        have HL1 := hide hl1
        have HN1 : Hid (l1.length ≤ 2000000) := by have := rl_len (K := K) (kl := kl) HRB.out hT1 HFF.out (x := x) (y := y + n + K) (rw' := rw') (rh := rh - n - K); rw [hl1] at this; exact this
        clear hf1 hl1
        have z1 := hm.cell_ 1 (v := .int .i64 n) rfl
        have z3 := hm.cell_ 3 (v := .slice (some ⟨pb0, off0, none⟩) 2 c') rfl
        have HT1 := hide hT1
        have HT := hide hT
        have HS := hide hS
        have HMM := hide hm
        have HB := hide hB
        clear hm hT hS hT1 hB
        try clear q0
        try clear q1 q2 q3
        refine wp_region_callx (args := #[.agg #[.int .i64 o1, .int .i64 n1, .int .u8 p1, .slice A1 k1 d1], .int .i64 (x), .int .i64 (y + n + K), .int .i64 (rw'), .int .i64 (rh - n - K), .int .i64 K, .slice A kl.length c]) 20 [0, 1, 2, 3, 4, 5, 6, 7, 8, 9, 10, 11, 12, 13, 14, 15, 16, 17, 18, 19] (fun u z w => ∃ A c, u = .slice A l1.length c ∧ z = .int .i64 f1 ∧ Slc Pl.enc 5 w w.heap.size A l1) (.tmp 117) (.tmp 96) (.tmp 96) (.tmp 118) (by kernel_rfl) (by kernel_rfl) (by kernel_rfl) (by kernel_rfl) (fun u z w w' hb ⟨A, c, h1, h2, h3⟩ => ⟨A, c, h1, h2, h3.on hb⟩) rfl rfl rfl rfl rfl rfl rfl rfl rfl rfl rfl rfl rfl rfl rfl (fun _ _ => rfl) ?_
        apply Exists.intro
        refine ⟨fun W1 hc => ?_, ?_⟩
        · have y1 := Since.cell (Since.later hc z1)
          have y3 := Since.cell (Since.later hc z3)
          have y4 := Since.cell (Since.later hc d0)
          have y5 := Since.cell (Since.later hc d1')
          have y6 := Since.cell (Since.later hc d2)
          have y7 := Since.cell (Since.later hc d3)
          dsimp only [pick, List.filterMap, List.getElem?_cons_succ, List.getElem?_cons_zero]
          repeat (go_big_quiet_step (fail))
          exact wpQuiet_nil rfl
        refine ⟨by simp [Act.eval], rfl, fun w1 hb1 => ?_, fun u0 => ⟨rfl, rfl, fun u1 => ⟨rfl, rfl, fun u2 => ⟨rfl, rfl, fun u3 => ⟨rfl, rfl⟩⟩⟩⟩, fun u z w2 hb2 hR => ?_⟩
        · refine (HH.out tb o1 n1 p1 A1 k1 d1 K A kl c x (y + n + K) rw' (rh - n - K) w1 HRB.out HKO.out (HT1.out.on hb1) (HS.out.on hb1) hK (by have h9 := HBD.out; have h8 := HN.out; unfold Rb at h9 ⊢; push_cast at h9; omega)).mono ?_
          rintro e w2 ⟨A2, c2, he, hS2, hb2⟩
          rw [HL1.out, HF1.out] at he
          rw [HL1.out] at hS2
          exact ⟨_, _, he, ⟨A2, c2, rfl, rfl, hS2⟩, hb2⟩
        obtain ⟨A1, c1, rfl, rfl, hS1⟩ := hR
        have hm := HMM.out.below hb2 HMM.out.lt
        have hT := HT.out.on hb2
        have hS := HS.out.on hb2
        have hB := HB.out.trans (hb2.mono HB.out.size)
        clear z1 z3 d0 d1' d2 d3 HT1 HT HS HMM HB
        dsimp only [Act.put]
        simp only [List.setIfInBounds_toArray, List.set_cons_succ, List.set_cons_zero, List.drop_succ_cons, List.drop_zero]
        replace hS0 := hS0.on hb2
        clear hb2 e1 e2 e3 e4
        go_wp2_with fail
        refine (worse_any f0 f1 _).mono ?_
        rintro e W' ⟨rfl, rfl⟩
        go_wp2_with fail
        refine (worse_any 44 (worseF f0 f1) _).mono ?_
        rintro e W' ⟨rfl, rfl⟩
        obtain ⟨E, hE⟩ : ∃ E, worseF 44 (worseF f0 f1) = E := ⟨_, rfl⟩
        rw [hE]
        have HRL := rl_cut (x := x) (y := y) HG.out HSM.out HPL.out
        rw [HF0.out, HF1.out, HL0.out, HL1.out] at HRL
        replace HRL := hide (And.intro (HRL.1.trans hE) HRL.2)
        clear hE
        by_cases hE0 : E = 0
        · subst hE0
          have HE : Hid (_ = l0 ++ l1) := HRL.out.2 HRL.out.1
          clear hT hm
          go_wp2_with (at_builtin; first | (refine wpList_app_own (base := w2.heap.size) (xs := ([] : List Pl)) (ys := l0) _ _ rfl rfl et_place (Own.empty_ (Blk.new w2 38 #[]) (Nat.le_refl _)) rfl rfl (hS0.on ((Below.refl _ w2).alloc (Nat.le_refl _) _)) rfl (fun _ => rfl) pl_one (by have := HN0.out; simp <;> omega) (by simp) ?_; intro v7 W7 o7 hb7 hg7; rw [List.nil_append] at o7; have hbT := ((Below.refl w2.heap.size w2).alloc (Nat.le_refl _) (.cells #[] 38)).trans hb7; have hS1b := hS1.on hbT; have hB7 := hB.trans (hbT.mono hB.size)) | (refine wpList_app_own (base := w2.heap.size) (ys := l1) _ _ rfl rfl et_place o7 rfl rfl hS1b rfl (fun _ => rfl) pl_one (by have := HN0.out; have := HN1.out; omega) hbT.size ?_; intro v8 W8 o8 hb8 hg8; obtain ⟨A8, c8, rfl, S8⟩ := o8.form (fun _ => rfl); have hB8 := hB7.trans (hb8.mono hB.size)))
          go_ret2
          exact ⟨A8, c8, by rw [HNN.out, HRL.out.1, HE.out, List.length_append]; rfl, by rw [HNN.out, HE.out]; exact S8, hB8⟩
        · have g1 : (E == 0) = false := by rw [beq_eq_false_iff_ne]; exact hE0
          have HE := rl_none (x := x) (y := y) HRL.out.1 hE0
          replace HE := hide HE
          clear hE0 hT hm
          go_wp2_with fail
          go_ret2
          exact ⟨none, 0, by rw [HNN.out, HE.out.1, HE.out.2]; rfl, by rw [HNN.out, HE.out.2]; exact Slc.nil_, hB⟩
      · have HG : Hid (goneT K (kdL kl) (.node 3 n 0 [ta, tb]) rw' rh = (true || (goneT K (kdL kl) ta n rh || goneT K (kdL kl) tb (rw' - n - K) rh))) := by show _ = _; rw [goneT, HNR.out, if_neg (by decide)]
        have HPL : Hid (placesT K (kdL kl) (.node 3 n 0 [ta, tb]) x y rw' rh = placesT K (kdL kl) ta x y n rh ++ placesT K (kdL kl) tb (x + n + K) y (rw' - n - K) rh) := by show _ = _; rw [placesT, if_neg (by decide)]
        have HSM : Hid (smallT K (kdL kl) (.node 3 n 0 [ta, tb]) rw' rh = (smallT K (kdL kl) ta n rh || smallT K (kdL kl) tb (rw' - n - K) rh)) := by show _ = _; rw [smallT, if_neg (by decide)]
        have h2 := HN.out
        have h3 := hK
        have h4 := HBD.out
        unfold Rb at h4
        have e1 : IntKind.i64.wrap (x + n) = x + n := IntWalk.i64_in _ (by omega)
        have e2 : IntKind.i64.wrap (x + n + K) = x + n + K := IntWalk.i64_in _ (by omega)
        have e3 : IntKind.i64.wrap (rw' - n) = rw' - n := IntWalk.i64_in _ (by omega)
        have e4 : IntKind.i64.wrap (rw' - n - K) = rw' - n - K := IntWalk.i64_in _ (by omega)
        clear h2 h3 h4
        go_upto_region 19 with fail
        obtain ⟨t', o1, n1, p1, A1, k1, d1, pb0, off0, ht, hA, _, hT1, d0, d1', d2, d3⟩ := part_at hT (i := 0) (by simp [Tree.ts])
        dsimp only at hA
        obtain rfl : ta = t' := by simpa [Tree.ts] using ht
        subst hA; simp only [Nat.zero_mul, Nat.add_zero] at d0 d1' d2 d3
        try clear ht
        try clear hA
        obtain ⟨f0, hf0⟩ : ∃ F, rlE K kl ta n rh = F := ⟨_, rfl⟩
        obtain ⟨l0, hl0⟩ : ∃ l, rlL K kl ta x y n rh = l := ⟨_, rfl⟩
        have HF0 := hide hf0
        have HL0 := hide hl0
        have HN0 : Hid (l0.length ≤ 2000000) := by have := rl_len (K := K) (kl := kl) HRA.out hT1 HFF.out (x := x) (y := y) (rw' := n) (rh := rh); rw [hl0] at this; exact this
        clear hf0 hl0
        have z1 := hm.cell_ 1 (v := .int .i64 n) rfl
        have z3 := hm.cell_ 3 (v := .slice (some ⟨pb0, off0, none⟩) 2 c') rfl
        have HT1 := hide hT1
        have HT := hide hT
        have HS := hide hS
        have HMM := hide hm
        have HB := hide hB
        clear hm hT hS hT1 hB
        try clear q0
        try clear q1 q2 q3
        refine wp_region_callx (args := #[.agg #[.int .i64 o1, .int .i64 n1, .int .u8 p1, .slice A1 k1 d1], .int .i64 (x), .int .i64 (y), .int .i64 (n), .int .i64 (rh), .int .i64 K, .slice A kl.length c]) 11 [0, 1, 2, 3, 4, 5, 6, 7, 8, 9, 10] (fun u z w => ∃ A c, u = .slice A l0.length c ∧ z = .int .i64 f0 ∧ Slc Pl.enc 5 w w.heap.size A l0) (.tmp 132) (.tmp 120) (.tmp 120) (.tmp 133) (by kernel_rfl) (by kernel_rfl) (by kernel_rfl) (by kernel_rfl) (fun u z w w' hb ⟨A, c, h1, h2, h3⟩ => ⟨A, c, h1, h2, h3.on hb⟩) rfl rfl rfl rfl rfl rfl rfl rfl rfl rfl rfl rfl rfl rfl rfl (fun _ _ => rfl) ?_
        apply Exists.intro
        refine ⟨fun W1 hc => ?_, ?_⟩
        · have y1 := Since.cell (Since.later hc z1)
          have y3 := Since.cell (Since.later hc z3)
          have y4 := Since.cell (Since.later hc d0)
          have y5 := Since.cell (Since.later hc d1')
          have y6 := Since.cell (Since.later hc d2)
          have y7 := Since.cell (Since.later hc d3)
          dsimp only [pick, List.filterMap, List.getElem?_cons_succ, List.getElem?_cons_zero]
          repeat (go_big_quiet_step (fail))
          exact wpQuiet_nil rfl
        refine ⟨by simp [Act.eval], rfl, fun w1 hb1 => ?_, fun u0 => ⟨rfl, rfl, fun u1 => ⟨rfl, rfl, fun u2 => ⟨rfl, rfl, fun u3 => ⟨rfl, rfl⟩⟩⟩⟩, fun u z w2 hb2 hR => ?_⟩
        · refine (HH.out ta o1 n1 p1 A1 k1 d1 K A kl c x y n rh w1 HRA.out HKO.out (HT1.out.on hb1) (HS.out.on hb1) hK (by have h9 := HBD.out; have h8 := HN.out; unfold Rb at h9 ⊢; push_cast at h9; omega)).mono ?_
          rintro e w2 ⟨A2, c2, he, hS2, hb2⟩
          rw [HL0.out, HF0.out] at he
          rw [HL0.out] at hS2
          exact ⟨_, _, he, ⟨A2, c2, rfl, rfl, hS2⟩, hb2⟩
        obtain ⟨A0, c0, rfl, rfl, hS0⟩ := hR
        have hm := HMM.out.below hb2 HMM.out.lt
        have hT := HT.out.on hb2
        have hS := HS.out.on hb2
        have hB := HB.out.trans (hb2.mono HB.out.size)
        clear z1 z3 d0 d1' d2 d3 HT1 HT HS HMM HB
        dsimp only [Act.put]
        simp only [List.setIfInBounds_toArray, List.set_cons_succ, List.set_cons_zero, List.drop_succ_cons, List.drop_zero]
        obtain ⟨W, rfl⟩ : ∃ X : World, X = w2 := ⟨_, rfl⟩
        have q3 := hm.cell_ 3 (v := .slice (some ⟨pb0, off0, none⟩) 2 c') rfl
        go_upto_region 20 with fail
        clear hb2
        obtain ⟨t', o1, n1, p1, A1, k1, d1, pb1, off1, ht, hA, _, hT1, d0, d1', d2, d3⟩ := part_at hT (i := 1) (by simp [Tree.ts])
        dsimp only at hA
        obtain rfl : tb = t' := by simpa [Tree.ts] using ht
        injection hA with hA; injection hA with hA1 hA2; subst hA1 hA2; simp only [Nat.one_mul] at d0 d1' d2 d3
        try clear ht
        try clear hA
        obtain ⟨f1, hf1⟩ : ∃ F, rlE K kl tb (rw' - n - K) rh = F := ⟨_, rfl⟩
        obtain ⟨l1, hl1⟩ : ∃ l, rlL K kl tb (x + n + K) y (rw' - n - K) rh = l := ⟨_, rfl⟩
        have HF1 := hide hf1
        have HL1 := hide hl1
        have HN1 : Hid (l1.length ≤ 2000000) := by have := rl_len (K := K) (kl := kl) HRB.out hT1 HFF.out (x := x + n + K) (y := y) (rw' := rw' - n - K) (rh := rh); rw [hl1] at this; exact this
        clear hf1 hl1
        have z1 := hm.cell_ 1 (v := .int .i64 n) rfl
        have z3 := hm.cell_ 3 (v := .slice (some ⟨pb0, off0, none⟩) 2 c') rfl
        have HT1 := hide hT1
        have HT := hide hT
        have HS := hide hS
        have HMM := hide hm
        have HB := hide hB
        clear hm hT hS hT1 hB
        try clear q0
        try clear q1 q2 q3
        refine wp_region_callx (args := #[.agg #[.int .i64 o1, .int .i64 n1, .int .u8 p1, .slice A1 k1 d1], .int .i64 (x + n + K), .int .i64 (y), .int .i64 (rw' - n - K), .int .i64 (rh), .int .i64 K, .slice A kl.length c]) 20 [0, 1, 2, 3, 4, 5, 6, 7, 8, 9, 10, 11, 12, 13, 14, 15, 16, 17, 18, 19] (fun u z w => ∃ A c, u = .slice A l1.length c ∧ z = .int .i64 f1 ∧ Slc Pl.enc 5 w w.heap.size A l1) (.tmp 156) (.tmp 135) (.tmp 135) (.tmp 157) (by kernel_rfl) (by kernel_rfl) (by kernel_rfl) (by kernel_rfl) (fun u z w w' hb ⟨A, c, h1, h2, h3⟩ => ⟨A, c, h1, h2, h3.on hb⟩) rfl rfl rfl rfl rfl rfl rfl rfl rfl rfl rfl rfl rfl rfl rfl (fun _ _ => rfl) ?_
        apply Exists.intro
        refine ⟨fun W1 hc => ?_, ?_⟩
        · have y1 := Since.cell (Since.later hc z1)
          have y3 := Since.cell (Since.later hc z3)
          have y4 := Since.cell (Since.later hc d0)
          have y5 := Since.cell (Since.later hc d1')
          have y6 := Since.cell (Since.later hc d2)
          have y7 := Since.cell (Since.later hc d3)
          dsimp only [pick, List.filterMap, List.getElem?_cons_succ, List.getElem?_cons_zero]
          repeat (go_big_quiet_step (fail))
          exact wpQuiet_nil rfl
        refine ⟨by simp [Act.eval], rfl, fun w1 hb1 => ?_, fun u0 => ⟨rfl, rfl, fun u1 => ⟨rfl, rfl, fun u2 => ⟨rfl, rfl, fun u3 => ⟨rfl, rfl⟩⟩⟩⟩, fun u z w2 hb2 hR => ?_⟩
        · refine (HH.out tb o1 n1 p1 A1 k1 d1 K A kl c (x + n + K) y (rw' - n - K) rh w1 HRB.out HKO.out (HT1.out.on hb1) (HS.out.on hb1) hK (by have h9 := HBD.out; have h8 := HN.out; unfold Rb at h9 ⊢; push_cast at h9; omega)).mono ?_
          rintro e w2 ⟨A2, c2, he, hS2, hb2⟩
          rw [HL1.out, HF1.out] at he
          rw [HL1.out] at hS2
          exact ⟨_, _, he, ⟨A2, c2, rfl, rfl, hS2⟩, hb2⟩
        obtain ⟨A1, c1, rfl, rfl, hS1⟩ := hR
        have hm := HMM.out.below hb2 HMM.out.lt
        have hT := HT.out.on hb2
        have hS := HS.out.on hb2
        have hB := HB.out.trans (hb2.mono HB.out.size)
        clear z1 z3 d0 d1' d2 d3 HT1 HT HS HMM HB
        dsimp only [Act.put]
        simp only [List.setIfInBounds_toArray, List.set_cons_succ, List.set_cons_zero, List.drop_succ_cons, List.drop_zero]
        replace hS0 := hS0.on hb2
        clear hb2 e1 e2 e3 e4
        go_wp2_with fail
        refine (worse_any f0 f1 _).mono ?_
        rintro e W' ⟨rfl, rfl⟩
        go_wp2_with fail
        refine (worse_any 44 (worseF f0 f1) _).mono ?_
        rintro e W' ⟨rfl, rfl⟩
        obtain ⟨E, hE⟩ : ∃ E, worseF 44 (worseF f0 f1) = E := ⟨_, rfl⟩
        rw [hE]
        have HRL := rl_cut (x := x) (y := y) HG.out HSM.out HPL.out
        rw [HF0.out, HF1.out, HL0.out, HL1.out] at HRL
        replace HRL := hide (And.intro (HRL.1.trans hE) HRL.2)
        clear hE
        by_cases hE0 : E = 0
        · subst hE0
          have HE : Hid (_ = l0 ++ l1) := HRL.out.2 HRL.out.1
          clear hT hm
          go_wp2_with (at_builtin; first | (refine wpList_app_own (base := w2.heap.size) (xs := ([] : List Pl)) (ys := l0) _ _ rfl rfl et_place (Own.empty_ (Blk.new w2 38 #[]) (Nat.le_refl _)) rfl rfl (hS0.on ((Below.refl _ w2).alloc (Nat.le_refl _) _)) rfl (fun _ => rfl) pl_one (by have := HN0.out; simp <;> omega) (by simp) ?_; intro v7 W7 o7 hb7 hg7; rw [List.nil_append] at o7; have hbT := ((Below.refl w2.heap.size w2).alloc (Nat.le_refl _) (.cells #[] 38)).trans hb7; have hS1b := hS1.on hbT; have hB7 := hB.trans (hbT.mono hB.size)) | (refine wpList_app_own (base := w2.heap.size) (ys := l1) _ _ rfl rfl et_place o7 rfl rfl hS1b rfl (fun _ => rfl) pl_one (by have := HN0.out; have := HN1.out; omega) hbT.size ?_; intro v8 W8 o8 hb8 hg8; obtain ⟨A8, c8, rfl, S8⟩ := o8.form (fun _ => rfl); have hB8 := hB7.trans (hb8.mono hB.size)))
          go_ret2
          exact ⟨A8, c8, by rw [HNN.out, HRL.out.1, HE.out, List.length_append]; rfl, by rw [HNN.out, HE.out]; exact S8, hB8⟩
        · have g1 : (E == 0) = false := by rw [beq_eq_false_iff_ne]; exact hE0
          have HE := rl_none (x := x) (y := y) HRL.out.1 hE0
          replace HE := hide HE
          clear hE0 hT hm
          go_wp2_with fail
          go_ret2
          exact ⟨none, 0, by rw [HNN.out, HE.out.1, HE.out.2]; rfl, by rw [HNN.out, HE.out.2]; exact Slc.nil_, hB⟩
  · have HNR : Hid (noRoom rw' rh = false) := noRoom_false.2 ⟨by omega, by omega⟩
    go_upto_region 4 with fail
    have q0 := hm.cell_ 0 rfl
    have q1 := hm.cell_ 1 rfl
    have q2 := hm.cell_ 2 rfl
    have q3 := hm.cell_ 3 rfl
    have hr2 := HR.out
    cases hr2 with
    | waste =>
      obtain ⟨h1, -, -, -, -⟩ := hT.head
      have h1' : op = 0 := h1
      subst h1'
      have HE : Hid (rlE K kl (.node 0 0 0 []) rw' rh = 0 ∧ rlL K kl (.node 0 0 0 []) x y rw' rh = []) := by
        refine ⟨?_, by unfold rlL; split <;> simp [placesT]⟩
        unfold rlE; simp [goneT, smallT, HNR.out, layE]
      clear h1
      go_wp2_with fail
      go_ret2
      try rw [HE9.out]
      try rw [HE9b.out]
      exact ⟨none, 0, by rw [HE.out.1, HE.out.2]; rfl, by rw [HE.out.2]; exact Slc.nil_, hB⟩
    | piece pc' p1 p2 =>
      obtain ⟨h1, -, h3, -, -⟩ := hT.head
      have h1' : op = 1 := h1
      subst h1'
      obtain ⟨m, rfl⟩ : ∃ m, pc' = 97 + m := ⟨pc' - 97, by omega⟩
      have hpc : pc = 97 + (m : Int) := by have : pc = ((97 + m : Nat) : Int) := h3; omega
      have HPC := hide hpc
      have e9 : ((97 + m : Nat) : Int) = pc := by rw [hpc]; push_cast; rfl
      have HE9 := hide e9
      have HE9b : Hid (97 + (m : Int) = pc) := hpc.symm
      have f2 : IntKind.u8.wrap (pc - 97) = (m : Int) := by
        have : pc - 97 = (m : Int) := by omega
        rw [this]; exact IntWalk.u8_in _ (by omega)
      have f3 : IntKind.i64.wrap (m : Int) = (m : Int) := IntWalk.i64_in _ (by omega)
      have HG0 : Hid (goneT K (kdL kl) (.node 1 0 pc []) rw' rh = (false || decide (kl.length ≤ m))) := by
        show _ = _
        simp only [goneT, kdL_len, HNR.out, decide_true, Bool.true_and]
        rw [show decide ((kl.length : Int) ≤ pc - 97) = decide (kl.length ≤ m) from decide_eq_decide.2 (by omega)]
      clear h1 h3 hpc e9 p1 p2
      by_cases hml : kl.length ≤ m
      · have f4 : (kl.length : Int) ≤ (m : Int) := by omega
        have HE : Hid (rlE K kl (.node 1 0 pc []) rw' rh = 44 ∧ rlL K kl (.node 1 0 pc []) x y rw' rh = []) := rl_none (by unfold rlE; rw [HG0.out, decide_eq_true hml, Bool.or_true]; rfl) (by decide)
        go_wp2_with fail
        go_ret2
        try rw [HE9.out]
        try rw [HE9b.out]
        exact ⟨none, 0, by rw [HE.out.1, HE.out.2]; rfl, by rw [HE.out.2]; exact Slc.nil_, hB⟩
      · have f4 : ¬ (kl.length : Int) ≤ (m : Int) := by omega
        have f5 : (m : Int) < (kl.length : Int) := by omega
        obtain ⟨q, b, off, hq0, hA, _, d0, d1⟩ := pt_at hS (k := m) (by omega)
        have hqk : kdOk q = true := by
          have h9 := HKO.out
          unfold kindsB at h9
          rw [Bool.and_eq_true] at h9
          exact List.all_eq_true.1 h9.1 q (List.mem_of_getElem? hq0)
        have HQK : Hid (1 ≤ q.a ∧ 1 ≤ q.b) := by
          unfold kdOk at hqk
          rw [Bool.and_eq_true, inB_iff, inB_iff] at hqk
          exact ⟨hqk.1.1, hqk.2.1⟩
        have HSM : Hid (smallT K (kdL kl) (.node 1 0 pc []) rw' rh = (decide (rw' < q.a) || decide (rh < q.b)) ∧ placesT K (kdL kl) (.node 1 0 pc []) x y rw' rh = [⟨pc, x, y, q.a, q.b⟩]) := by
          have e8 : (pc - 97).toNat = m := by have := HPC.out; omega
          constructor
          · simp only [smallT, decide_true, Bool.true_and]
            rw [e8, kdL_get, hq0]; rfl
          · simp only [placesT, if_true]
            rw [e8, kdL_get, hq0]; rfl
        rw [decide_eq_false hml, Bool.or_false] at HG0
        subst hA
        clear hqk hq0
        have HEW : Hid (rlE K kl (.node 1 0 pc []) rw' rh = layE false (decide (rw' < q.a) || decide (rh < q.b))) := by show _ = _; unfold rlE; rw [HG0.out, HSM.out.1]
        by_cases s1 : rw' < q.a
        · have HE : Hid (rlE K kl (.node 1 0 pc []) rw' rh = worseF 0 45 ∧ rlL K kl (.node 1 0 pc []) x y rw' rh = []) := rl_none (by rw [HEW.out, decide_eq_true s1]; rfl) (by decide)
          go_wp2_with fail
          refine (worse_any 0 45 _).mono ?_
          rintro e W' ⟨rfl, rfl⟩
          go_wp2_with fail
          go_ret2
          try rw [HE9.out]
          try rw [HE9b.out]
          exact ⟨none, 0, by rw [HE.out.1, HE.out.2]; rfl, by rw [HE.out.2]; exact Slc.nil_, hB⟩
        by_cases s2 : rh < q.b
        · have HE : Hid (rlE K kl (.node 1 0 pc []) rw' rh = worseF 0 45 ∧ rlL K kl (.node 1 0 pc []) x y rw' rh = []) := rl_none (by rw [HEW.out, decide_eq_true s2, Bool.or_true]; rfl) (by decide)
          go_wp2_with fail
          refine (worse_any 0 45 _).mono ?_
          rintro e W' ⟨rfl, rfl⟩
          go_wp2_with fail
          go_ret2
          try rw [HE9.out]
          try rw [HE9b.out]
          exact ⟨none, 0, by rw [HE.out.1, HE.out.2]; rfl, by rw [HE.out.2]; exact Slc.nil_, hB⟩
        have HE : Hid (rlE K kl (.node 1 0 pc []) rw' rh = 0 ∧ rlL K kl (.node 1 0 pc []) x y rw' rh = [⟨pc, x, y, q.a, q.b⟩]) := by
          have h0 : rlE K kl (.node 1 0 pc []) rw' rh = 0 := by
            rw [HEW.out, decide_eq_false s1, decide_eq_false s2]; rfl
          exact ⟨h0, by rw [(rl_zero h0).2, HSM.out.2]⟩
        go_upto_region 13 with fail
        have q0 := hm.cell_ 0 rfl
        have q1 := hm.cell_ 1 rfl
        have q2 := hm.cell_ 2 rfl
        have q3 := hm.cell_ 3 rfl
        have HB := hide hB
        have z2 := q2
        clear hm hT hS q0 q1 q2 q3
        go_wp2_with fail
        refine wp_region_builda (e := 38) (cs := #[.int .u8 pc, .int .i64 x, .int .i64 y, .int .i64 q.a, .int .i64 q.b]) 18 15 17 [0, 1, 2, 3, 4, 5, 6, 7, 8, 9, 10, 11, 12, 13, 14, 16] (.tmp 76) (by kernel_rfl) (by kernel_rfl) (by kernel_rfl) (by kernel_rfl) (by decide) rfl rfl rfl rfl ?_
        apply Exists.intro
        refine ⟨fun W1 hc => ?_, ?_⟩
        · have y_q2 := Since.cell (Since.later hc z2)
          have y_d0 := Since.cell (Since.later hc d0)
          have y_d1 := Since.cell (Since.later hc d1)
          dsimp only [pick, List.filterMap, List.getElem?_cons_succ, List.getElem?_cons_zero]
          repeat (go_big_quiet_step (fail))
          exact wpQuiet_nil rfl
        · refine ⟨rfl, fun w1 => exec_build rfl (by simp [Act.eval] <;> rfl) (run_build1 et_place (.agg #[.int .u8 pc, .int .i64 x, .int .i64 y, .int .i64 q.a, .int .i64 q.b]) rfl (by omega) w1), fun u0 => ⟨rfl, fun w1 => rfl⟩, fun gz w' hb hz => ?_⟩
          replace hB := hB.trans (hb.mono hB.size)
          dsimp only [Act.put]
          simp only [List.setIfInBounds_toArray, List.set_cons_succ, List.set_cons_zero, List.drop_succ_cons, List.drop_zero]
          go_wp2_with fail
          go_ret2
          try rw [HE9.out]
          try rw [HE9b.out]
          exact ⟨some ⟨gz, 0, none⟩, 1, by rw [HE.out.1, HE.out.2]; rfl, by rw [HE.out.2]; exact hz.slc1 rfl, hB⟩
    | cut op' n' ta tb hop hn1 hn2 hra hrb =>
      obtain ⟨h1, h2, h3, h4, -⟩ := hT.head
      have h1' : op = op' := h1
      have h2' : n = (n' : Int) := h2
      have h4' : k = 2 := h4
      have hn : 1 ≤ (n' : Int) ∧ (n' : Int) ≤ 1000 := by omega
      generalize hnn : (n' : Int) = nn at *
      have HNN := hide hnn
      clear hnn
      subst h1' h2' h4'
      have HRA := hide hra
      have HRB := hide hrb
      have HN := hide hn
      clear hn hn1 hn2 hra hrb h1 h2 h3 h4
      rcases hop with rfl | rfl
      · have HG : Hid (goneT K (kdL kl) (.node 2 n 0 [ta, tb]) rw' rh = (false || (goneT K (kdL kl) ta rw' n || goneT K (kdL kl) tb rw' (rh - n - K)))) := by show _ = _; rw [goneT, HNR.out, if_pos rfl]
        have HPL : Hid (placesT K (kdL kl) (.node 2 n 0 [ta, tb]) x y rw' rh = placesT K (kdL kl) ta x y rw' n ++ placesT K (kdL kl) tb x (y + n + K) rw' (rh - n - K)) := by show _ = _; rw [placesT, if_pos rfl]
        have HSM : Hid (smallT K (kdL kl) (.node 2 n 0 [ta, tb]) rw' rh = (smallT K (kdL kl) ta rw' n || smallT K (kdL kl) tb rw' (rh - n - K))) := by show _ = _; rw [smallT, if_pos rfl]
        have h2 := HN.out
        have h3 := hK
        have h4 := HBD.out
        unfold Rb at h4
        have e1 : IntKind.i64.wrap (y + n) = y + n := IntWalk.i64_in _ (by omega)
        have e2 : IntKind.i64.wrap (y + n + K) = y + n + K := IntWalk.i64_in _ (by omega)
        have e3 : IntKind.i64.wrap (rh - n) = rh - n := IntWalk.i64_in _ (by omega)
        have e4 : IntKind.i64.wrap (rh - n - K) = rh - n - K := IntWalk.i64_in _ (by omega)
        clear h2 h3 h4
        go_upto_region 17 with fail
        obtain ⟨t', o1, n1, p1, A1, k1, d1, pb0, off0, ht, hA, _, hT1, d0, d1', d2, d3⟩ := part_at hT (i := 0) (by simp [Tree.ts])
        dsimp only at hA
        obtain rfl : ta = t' := by simpa [Tree.ts] using ht
        subst hA; simp only [Nat.zero_mul, Nat.add_zero] at d0 d1' d2 d3
        try clear ht
        try clear hA
        obtain ⟨f0, hf0⟩ : ∃ F, rlE K kl ta rw' n = F := ⟨_, rfl⟩
        obtain ⟨l0, hl0⟩ : ∃ l, rlL K kl ta x y rw' n = l := ⟨_, rfl⟩
        have HF0 := hide hf0
        have HL0 := hide hl0
        have HN0 : Hid (l0.length ≤ 2000000) := by have := rl_len (K := K) (kl := kl) HRA.out hT1 HFF.out (x := x) (y := y) (rw' := rw') (rh := n); rw [hl0] at this; exact this
        clear hf0 hl0
        have z1 := hm.cell_ 1 (v := .int .i64 n) rfl
        have z3 := hm.cell_ 3 (v := .slice (some ⟨pb0, off0, none⟩) 2 c') rfl
        have HT1 := hide hT1
        have HT := hide hT
        have HS := hide hS
        have HMM := hide hm
        have HB := hide hB
        clear hm hT hS hT1 hB
        try clear q0
        try clear q1 q2 q3
        refine wp_region_callx (args := #[.agg #[.int .i64 o1, .int .i64 n1, .int .u8 p1, .slice A1 k1 d1], .int .i64 (x), .int .i64 (y), .int .i64 (rw'), .int .i64 (n), .int .i64 K, .slice A kl.length c]) 11 [0, 1, 2, 3, 4, 5, 6, 7, 8, 9, 10] (fun u z w => ∃ A c, u = .slice A l0.length c ∧ z = .int .i64 f0 ∧ Slc Pl.enc 5 w w.heap.size A l0) (.tmp 93) (.tmp 81) (.tmp 81) (.tmp 94) (by kernel_rfl) (by kernel_rfl) (by kernel_rfl) (by kernel_rfl) (fun u z w w' hb ⟨A, c, h1, h2, h3⟩ => ⟨A, c, h1, h2, h3.on hb⟩) rfl rfl rfl rfl rfl rfl rfl rfl rfl rfl rfl rfl rfl rfl rfl (fun _ _ => rfl) ?_
        apply Exists.intro
        refine ⟨fun W1 hc => ?_, ?_⟩
        · have y1 := Since.cell (Since.later hc z1)
          have y3 := Since.cell (Since.later hc z3)
          have y4 := Since.cell (Since.later hc d0)
          have y5 := Since.cell (Since.later hc d1')
          have y6 := Since.cell (Since.later hc d2)
          have y7 := Since.cell (Since.later hc d3)
          dsimp only [pick, List.filterMap, List.getElem?_cons_succ, List.getElem?_cons_zero]
          repeat (go_big_quiet_step (fail))
          exact wpQuiet_nil rfl
        refine ⟨by simp [Act.eval], rfl, fun w1 hb1 => ?_, fun u0 => ⟨rfl, rfl, fun u1 => ⟨rfl, rfl, fun u2 => ⟨rfl, rfl, fun u3 => ⟨rfl, rfl⟩⟩⟩⟩, fun u z w2 hb2 hR => ?_⟩
        · refine (HH.out ta o1 n1 p1 A1 k1 d1 K A kl c x y rw' n w1 HRA.out HKO.out (HT1.out.on hb1) (HS.out.on hb1) hK (by have h9 := HBD.out; have h8 := HN.out; unfold Rb at h9 ⊢; push_cast at h9; omega)).mono ?_
          rintro e w2 ⟨A2, c2, he, hS2, hb2⟩
          rw [HL0.out, HF0.out] at he
          rw [HL0.out] at hS2
          exact ⟨_, _, he, ⟨A2, c2, rfl, rfl, hS2⟩, hb2⟩
        obtain ⟨A0, c0, rfl, rfl, hS0⟩ := hR
        have hm := HMM.out.below hb2 HMM.out.lt
        have hT := HT.out.on hb2
        have hS := HS.out.on hb2
        have hB := HB.out.trans (hb2.mono HB.out.size)
        clear z1 z3 d0 d1' d2 d3 HT1 HT HS HMM HB
        dsimp only [Act.put]
        simp only [List.setIfInBounds_toArray, List.set_cons_succ, List.set_cons_zero, List.drop_succ_cons, List.drop_zero]
        obtain ⟨W, rfl⟩ : ∃ X : World, X = w2 := ⟨_, rfl⟩
        have q3 := hm.cell_ 3 (v := .slice (some ⟨pb0, off0, none⟩) 2 c') rfl
        go_upto_region 18 with fail
        clear hb2
        obtain ⟨t', o1, n1, p1, A1, k1, d1, pb1, off1, ht, hA, _, hT1, d0, d1', d2, d3⟩ := part_at hT (i := 1) (by simp [Tree.ts])
        dsimp only at hA
        obtain rfl : tb = t' := by simpa [Tree.ts] using ht
        injection hA with hA; injection hA with hA1 hA2; subst hA1 hA2; simp only [Nat.one_mul] at d0 d1' d2 d3
        try clear ht
        try clear hA
        obtain ⟨f1, hf1⟩ : ∃ F, rlE K kl tb rw' (rh - n - K) = F := ⟨_, rfl⟩
        obtain ⟨l1, hl1⟩ : ∃ l, rlL K kl tb x (y + n + K) rw' (rh - n - K) = l := ⟨_, rfl⟩
        have HF1 := hide hf1
        have HL1 := hide hl1
        have HN1 : Hid (l1.length ≤ 2000000) := by have := rl_len (K := K) (kl := kl) HRB.out hT1 HFF.out (x := x) (y := y + n + K) (rw' := rw') (rh := rh - n - K); rw [hl1] at this; exact this
        clear hf1 hl1
        have z1 := hm.cell_ 1 (v := .int .i64 n) rfl
        have z3 := hm.cell_ 3 (v := .slice (some ⟨pb0, off0, none⟩) 2 c') rfl
        have HT1 := hide hT1
        have HT := hide hT
        have HS := hide hS
        have HMM := hide hm
        have HB := hide hB
        clear hm hT hS hT1 hB
        try clear q0
        try clear q1 q2 q3
        refine wp_region_callx (args := #[.agg #[.int .i64 o1, .int .i64 n1, .int .u8 p1, .slice A1 k1 d1], .int .i64 (x), .int .i64 (y + n + K), .int .i64 (rw'), .int .i64 (rh - n - K), .int .i64 K, .slice A kl.length c]) 20 [0, 1, 2, 3, 4, 5, 6, 7, 8, 9, 10, 11, 12, 13, 14, 15, 16, 17, 18, 19] (fun u z w => ∃ A c, u = .slice A l1.length c ∧ z = .int .i64 f1 ∧ Slc Pl.enc 5 w w.heap.size A l1) (.tmp 117) (.tmp 96) (.tmp 96) (.tmp 118) (by kernel_rfl) (by kernel_rfl) (by kernel_rfl) (by kernel_rfl) (fun u z w w' hb ⟨A, c, h1, h2, h3⟩ => ⟨A, c, h1, h2, h3.on hb⟩) rfl rfl rfl rfl rfl rfl rfl rfl rfl rfl rfl rfl rfl rfl rfl (fun _ _ => rfl) ?_
        apply Exists.intro
        refine ⟨fun W1 hc => ?_, ?_⟩
        · have y1 := Since.cell (Since.later hc z1)
          have y3 := Since.cell (Since.later hc z3)
          have y4 := Since.cell (Since.later hc d0)
          have y5 := Since.cell (Since.later hc d1')
          have y6 := Since.cell (Since.later hc d2)
          have y7 := Since.cell (Since.later hc d3)
          dsimp only [pick, List.filterMap, List.getElem?_cons_succ, List.getElem?_cons_zero]
          repeat (go_big_quiet_step (fail))
          exact wpQuiet_nil rfl
        refine ⟨by simp [Act.eval], rfl, fun w1 hb1 => ?_, fun u0 => ⟨rfl, rfl, fun u1 => ⟨rfl, rfl, fun u2 => ⟨rfl, rfl, fun u3 => ⟨rfl, rfl⟩⟩⟩⟩, fun u z w2 hb2 hR => ?_⟩
        · refine (HH.out tb o1 n1 p1 A1 k1 d1 K A kl c x (y + n + K) rw' (rh - n - K) w1 HRB.out HKO.out (HT1.out.on hb1) (HS.out.on hb1) hK (by have h9 := HBD.out; have h8 := HN.out; unfold Rb at h9 ⊢; push_cast at h9; omega)).mono ?_
          rintro e w2 ⟨A2, c2, he, hS2, hb2⟩
          rw [HL1.out, HF1.out] at he
          rw [HL1.out] at hS2
          exact ⟨_, _, he, ⟨A2, c2, rfl, rfl, hS2⟩, hb2⟩
        obtain ⟨A1, c1, rfl, rfl, hS1⟩ := hR
        have hm := HMM.out.below hb2 HMM.out.lt
        have hT := HT.out.on hb2
        have hS := HS.out.on hb2
        have hB := HB.out.trans (hb2.mono HB.out.size)
        clear z1 z3 d0 d1' d2 d3 HT1 HT HS HMM HB
        dsimp only [Act.put]
        simp only [List.setIfInBounds_toArray, List.set_cons_succ, List.set_cons_zero, List.drop_succ_cons, List.drop_zero]
        replace hS0 := hS0.on hb2
        clear hb2 e1 e2 e3 e4
        go_wp2_with fail
        refine (worse_any f0 f1 _).mono ?_
        rintro e W' ⟨rfl, rfl⟩
        go_wp2_with fail
        refine (worse_any 0 (worseF f0 f1) _).mono ?_
        rintro e W' ⟨rfl, rfl⟩
        obtain ⟨E, hE⟩ : ∃ E, worseF 0 (worseF f0 f1) = E := ⟨_, rfl⟩
        rw [hE]
        have HRL := rl_cut (x := x) (y := y) HG.out HSM.out HPL.out
        rw [HF0.out, HF1.out, HL0.out, HL1.out] at HRL
        replace HRL := hide (And.intro (HRL.1.trans hE) HRL.2)
        clear hE
        by_cases hE0 : E = 0
        · subst hE0
          have HE : Hid (_ = l0 ++ l1) := HRL.out.2 HRL.out.1
          clear hT hm
          go_wp2_with (at_builtin; first | (refine wpList_app_own (base := w2.heap.size) (xs := ([] : List Pl)) (ys := l0) _ _ rfl rfl et_place (Own.empty_ (Blk.new w2 38 #[]) (Nat.le_refl _)) rfl rfl (hS0.on ((Below.refl _ w2).alloc (Nat.le_refl _) _)) rfl (fun _ => rfl) pl_one (by have := HN0.out; simp <;> omega) (by simp) ?_; intro v7 W7 o7 hb7 hg7; rw [List.nil_append] at o7; have hbT := ((Below.refl w2.heap.size w2).alloc (Nat.le_refl _) (.cells #[] 38)).trans hb7; have hS1b := hS1.on hbT; have hB7 := hB.trans (hbT.mono hB.size)) | (refine wpList_app_own (base := w2.heap.size) (ys := l1) _ _ rfl rfl et_place o7 rfl rfl hS1b rfl (fun _ => rfl) pl_one (by have := HN0.out; have := HN1.out; omega) hbT.size ?_; intro v8 W8 o8 hb8 hg8; obtain ⟨A8, c8, rfl, S8⟩ := o8.form (fun _ => rfl); have hB8 := hB7.trans (hb8.mono hB.size)))
          go_ret2
          exact ⟨A8, c8, by rw [HNN.out, HRL.out.1, HE.out, List.length_append]; rfl, by rw [HNN.out, HE.out]; exact S8, hB8⟩
        · have g1 : (E == 0) = false := by rw [beq_eq_false_iff_ne]; exact hE0
          have HE := rl_none (x := x) (y := y) HRL.out.1 hE0
          replace HE := hide HE
          clear hE0 hT hm
          go_wp2_with fail
          go_ret2
          exact ⟨none, 0, by rw [HNN.out, HE.out.1, HE.out.2]; rfl, by rw [HNN.out, HE.out.2]; exact Slc.nil_, hB⟩
      · have HG : Hid (goneT K (kdL kl) (.node 3 n 0 [ta, tb]) rw' rh = (false || (goneT K (kdL kl) ta n rh || goneT K (kdL kl) tb (rw' - n - K) rh))) := by show _ = _; rw [goneT, HNR.out, if_neg (by decide)]
        have HPL : Hid (placesT K (kdL kl) (.node 3 n 0 [ta, tb]) x y rw' rh = placesT K (kdL kl) ta x y n rh ++ placesT K (kdL kl) tb (x + n + K) y (rw' - n - K) rh) := by show _ = _; rw [placesT, if_neg (by decide)]
        have HSM : Hid (smallT K (kdL kl) (.node 3 n 0 [ta, tb]) rw' rh = (smallT K (kdL kl) ta n rh || smallT K (kdL kl) tb (rw' - n - K) rh)) := by show _ = _; rw [smallT, if_neg (by decide)]
        have h2 := HN.out
        have h3 := hK
        have h4 := HBD.out
        unfold Rb at h4
        have e1 : IntKind.i64.wrap (x + n) = x + n := IntWalk.i64_in _ (by omega)
        have e2 : IntKind.i64.wrap (x + n + K) = x + n + K := IntWalk.i64_in _ (by omega)
        have e3 : IntKind.i64.wrap (rw' - n) = rw' - n := IntWalk.i64_in _ (by omega)
        have e4 : IntKind.i64.wrap (rw' - n - K) = rw' - n - K := IntWalk.i64_in _ (by omega)
        clear h2 h3 h4
        go_upto_region 19 with fail
        obtain ⟨t', o1, n1, p1, A1, k1, d1, pb0, off0, ht, hA, _, hT1, d0, d1', d2, d3⟩ := part_at hT (i := 0) (by simp [Tree.ts])
        dsimp only at hA
        obtain rfl : ta = t' := by simpa [Tree.ts] using ht
        subst hA; simp only [Nat.zero_mul, Nat.add_zero] at d0 d1' d2 d3
        try clear ht
        try clear hA
        obtain ⟨f0, hf0⟩ : ∃ F, rlE K kl ta n rh = F := ⟨_, rfl⟩
        obtain ⟨l0, hl0⟩ : ∃ l, rlL K kl ta x y n rh = l := ⟨_, rfl⟩
        have HF0 := hide hf0
        have HL0 := hide hl0
        have HN0 : Hid (l0.length ≤ 2000000) := by have := rl_len (K := K) (kl := kl) HRA.out hT1 HFF.out (x := x) (y := y) (rw' := n) (rh := rh); rw [hl0] at this; exact this
        clear hf0 hl0
        have z1 := hm.cell_ 1 (v := .int .i64 n) rfl
        have z3 := hm.cell_ 3 (v := .slice (some ⟨pb0, off0, none⟩) 2 c') rfl
        have HT1 := hide hT1
        have HT := hide hT
        have HS := hide hS
        have HMM := hide hm
        have HB := hide hB
        clear hm hT hS hT1 hB
        try clear q0
        try clear q1 q2 q3
        refine wp_region_callx (args := #[.agg #[.int .i64 o1, .int .i64 n1, .int .u8 p1, .slice A1 k1 d1], .int .i64 (x), .int .i64 (y), .int .i64 (n), .int .i64 (rh), .int .i64 K, .slice A kl.length c]) 11 [0, 1, 2, 3, 4, 5, 6, 7, 8, 9, 10] (fun u z w => ∃ A c, u = .slice A l0.length c ∧ z = .int .i64 f0 ∧ Slc Pl.enc 5 w w.heap.size A l0) (.tmp 132) (.tmp 120) (.tmp 120) (.tmp 133) (by kernel_rfl) (by kernel_rfl) (by kernel_rfl) (by kernel_rfl) (fun u z w w' hb ⟨A, c, h1, h2, h3⟩ => ⟨A, c, h1, h2, h3.on hb⟩) rfl rfl rfl rfl rfl rfl rfl rfl rfl rfl rfl rfl rfl rfl rfl (fun _ _ => rfl) ?_
        apply Exists.intro
        refine ⟨fun W1 hc => ?_, ?_⟩
        · have y1 := Since.cell (Since.later hc z1)
          have y3 := Since.cell (Since.later hc z3)
          have y4 := Since.cell (Since.later hc d0)
          have y5 := Since.cell (Since.later hc d1')
          have y6 := Since.cell (Since.later hc d2)
          have y7 := Since.cell (Since.later hc d3)
          dsimp only [pick, List.filterMap, List.getElem?_cons_succ, List.getElem?_cons_zero]
          repeat (go_big_quiet_step (fail))
          exact wpQuiet_nil rfl
        refine ⟨by simp [Act.eval], rfl, fun w1 hb1 => ?_, fun u0 => ⟨rfl, rfl, fun u1 => ⟨rfl, rfl, fun u2 => ⟨rfl, rfl, fun u3 => ⟨rfl, rfl⟩⟩⟩⟩, fun u z w2 hb2 hR => ?_⟩
        · refine (HH.out ta o1 n1 p1 A1 k1 d1 K A kl c x y n rh w1 HRA.out HKO.out (HT1.out.on hb1) (HS.out.on hb1) hK (by have h9 := HBD.out; have h8 := HN.out; unfold Rb at h9 ⊢; push_cast at h9; omega)).mono ?_
          rintro e w2 ⟨A2, c2, he, hS2, hb2⟩
          rw [HL0.out, HF0.out] at he
          rw [HL0.out] at hS2
          exact ⟨_, _, he, ⟨A2, c2, rfl, rfl, hS2⟩, hb2⟩
        obtain ⟨A0, c0, rfl, rfl, hS0⟩ := hR
        have hm := HMM.out.below hb2 HMM.out.lt
        have hT := HT.out.on hb2
        have hS := HS.out.on hb2
        have hB := HB.out.trans (hb2.mono HB.out.size)
        clear z1 z3 d0 d1' d2 d3 HT1 HT HS HMM HB
        dsimp only [Act.put]
        simp only [List.setIfInBounds_toArray, List.set_cons_succ, List.set_cons_zero, List.drop_succ_cons, List.drop_zero]
        obtain ⟨W, rfl⟩ : ∃ X : World, X = w2 := ⟨_, rfl⟩
        have q3 := hm.cell_ 3 (v := .slice (some ⟨pb0, off0, none⟩) 2 c') rfl
        go_upto_region 20 with fail
        clear hb2
        obtain ⟨t', o1, n1, p1, A1, k1, d1, pb1, off1, ht, hA, _, hT1, d0, d1', d2, d3⟩ := part_at hT (i := 1) (by simp [Tree.ts])
        dsimp only at hA
        obtain rfl : tb = t' := by simpa [Tree.ts] using ht
        injection hA with hA; injection hA with hA1 hA2; subst hA1 hA2; simp only [Nat.one_mul] at d0 d1' d2 d3
        try clear ht
        try clear hA
        obtain ⟨f1, hf1⟩ : ∃ F, rlE K kl tb (rw' - n - K) rh = F := ⟨_, rfl⟩
        obtain ⟨l1, hl1⟩ : ∃ l, rlL K kl tb (x + n + K) y (rw' - n - K) rh = l := ⟨_, rfl⟩
        have HF1 := hide hf1
        have HL1 := hide hl1
        have HN1 : Hid (l1.length ≤ 2000000) := by have := rl_len (K := K) (kl := kl) HRB.out hT1 HFF.out (x := x + n + K) (y := y) (rw' := rw' - n - K) (rh := rh); rw [hl1] at this; exact this
        clear hf1 hl1
        have z1 := hm.cell_ 1 (v := .int .i64 n) rfl
        have z3 := hm.cell_ 3 (v := .slice (some ⟨pb0, off0, none⟩) 2 c') rfl
        have HT1 := hide hT1
        have HT := hide hT
        have HS := hide hS
        have HMM := hide hm
        have HB := hide hB
        clear hm hT hS hT1 hB
        try clear q0
        try clear q1 q2 q3
        refine wp_region_callx (args := #[.agg #[.int .i64 o1, .int .i64 n1, .int .u8 p1, .slice A1 k1 d1], .int .i64 (x + n + K), .int .i64 (y), .int .i64 (rw' - n - K), .int .i64 (rh), .int .i64 K, .slice A kl.length c]) 20 [0, 1, 2, 3, 4, 5, 6, 7, 8, 9, 10, 11, 12, 13, 14, 15, 16, 17, 18, 19] (fun u z w => ∃ A c, u = .slice A l1.length c ∧ z = .int .i64 f1 ∧ Slc Pl.enc 5 w w.heap.size A l1) (.tmp 156) (.tmp 135) (.tmp 135) (.tmp 157) (by kernel_rfl) (by kernel_rfl) (by kernel_rfl) (by kernel_rfl) (fun u z w w' hb ⟨A, c, h1, h2, h3⟩ => ⟨A, c, h1, h2, h3.on hb⟩) rfl rfl rfl rfl rfl rfl rfl rfl rfl rfl rfl rfl rfl rfl rfl (fun _ _ => rfl) ?_
        apply Exists.intro
        refine ⟨fun W1 hc => ?_, ?_⟩
        · have y1 := Since.cell (Since.later hc z1)
          have y3 := Since.cell (Since.later hc z3)
          have y4 := Since.cell (Since.later hc d0)
          have y5 := Since.cell (Since.later hc d1')
          have y6 := Since.cell (Since.later hc d2)
          have y7 := Since.cell (Since.later hc d3)
          dsimp only [pick, List.filterMap, List.getElem?_cons_succ, List.getElem?_cons_zero]
          repeat (go_big_quiet_step (fail))
          exact wpQuiet_nil rfl
        refine ⟨by simp [Act.eval], rfl, fun w1 hb1 => ?_, fun u0 => ⟨rfl, rfl, fun u1 => ⟨rfl, rfl, fun u2 => ⟨rfl, rfl, fun u3 => ⟨rfl, rfl⟩⟩⟩⟩, fun u z w2 hb2 hR => ?_⟩
        · refine (HH.out tb o1 n1 p1 A1 k1 d1 K A kl c (x + n + K) y (rw' - n - K) rh w1 HRB.out HKO.out (HT1.out.on hb1) (HS.out.on hb1) hK (by have h9 := HBD.out; have h8 := HN.out; unfold Rb at h9 ⊢; push_cast at h9; omega)).mono ?_
          rintro e w2 ⟨A2, c2, he, hS2, hb2⟩
          rw [HL1.out, HF1.out] at he
          rw [HL1.out] at hS2
          exact ⟨_, _, he, ⟨A2, c2, rfl, rfl, hS2⟩, hb2⟩
        obtain ⟨A1, c1, rfl, rfl, hS1⟩ := hR
        have hm := HMM.out.below hb2 HMM.out.lt
        have hT := HT.out.on hb2
        have hS := HS.out.on hb2
        have hB := HB.out.trans (hb2.mono HB.out.size)
        clear z1 z3 d0 d1' d2 d3 HT1 HT HS HMM HB
        dsimp only [Act.put]
        simp only [List.setIfInBounds_toArray, List.set_cons_succ, List.set_cons_zero, List.drop_succ_cons, List.drop_zero]
        replace hS0 := hS0.on hb2
        clear hb2 e1 e2 e3 e4
        go_wp2_with fail
        refine (worse_any f0 f1 _).mono ?_
        rintro e W' ⟨rfl, rfl⟩
        go_wp2_with fail
        refine (worse_any 0 (worseF f0 f1) _).mono ?_
        rintro e W' ⟨rfl, rfl⟩
        obtain ⟨E, hE⟩ : ∃ E, worseF 0 (worseF f0 f1) = E := ⟨_, rfl⟩
        rw [hE]
        have HRL := rl_cut (x := x) (y := y) HG.out HSM.out HPL.out
        rw [HF0.out, HF1.out, HL0.out, HL1.out] at HRL
        replace HRL := hide (And.intro (HRL.1.trans hE) HRL.2)
        clear hE
        by_cases hE0 : E = 0
        · subst hE0
          have HE : Hid (_ = l0 ++ l1) := HRL.out.2 HRL.out.1
          clear hT hm
          go_wp2_with (at_builtin; first | (refine wpList_app_own (base := w2.heap.size) (xs := ([] : List Pl)) (ys := l0) _ _ rfl rfl et_place (Own.empty_ (Blk.new w2 38 #[]) (Nat.le_refl _)) rfl rfl (hS0.on ((Below.refl _ w2).alloc (Nat.le_refl _) _)) rfl (fun _ => rfl) pl_one (by have := HN0.out; simp <;> omega) (by simp) ?_; intro v7 W7 o7 hb7 hg7; rw [List.nil_append] at o7; have hbT := ((Below.refl w2.heap.size w2).alloc (Nat.le_refl _) (.cells #[] 38)).trans hb7; have hS1b := hS1.on hbT; have hB7 := hB.trans (hbT.mono hB.size)) | (refine wpList_app_own (base := w2.heap.size) (ys := l1) _ _ rfl rfl et_place o7 rfl rfl hS1b rfl (fun _ => rfl) pl_one (by have := HN0.out; have := HN1.out; omega) hbT.size ?_; intro v8 W8 o8 hb8 hg8; obtain ⟨A8, c8, rfl, S8⟩ := o8.form (fun _ => rfl); have hB8 := hB7.trans (hb8.mono hB.size)))
          go_ret2
          exact ⟨A8, c8, by rw [HNN.out, HRL.out.1, HE.out, List.length_append]; rfl, by rw [HNN.out, HE.out]; exact S8, hB8⟩
        · have g1 : (E == 0) = false := by rw [beq_eq_false_iff_ne]; exact hE0
          have HE := rl_none (x := x) (y := y) HRL.out.1 hE0
          replace HE := hide HE
          clear hE0 hT hm
          go_wp2_with fail
          go_ret2
          exact ⟨none, 0, by rw [HNN.out, HE.out.1, HE.out.2]; rfl, by rw [HNN.out, HE.out.2]; exact Slc.nil_, hB⟩
theorem rlay_all : ∀ f, f ≤ 20 → RLayAt f
  | 0, _ => fun t op n pc A' k c' K A kl c x y rw' rh w _ _ h => h.elim
  | f + 1, h => rlay_step f (by omega) (rlay_all f (by omega))
end Go.Proofs.YtecaaimaeaocbaaDoor
