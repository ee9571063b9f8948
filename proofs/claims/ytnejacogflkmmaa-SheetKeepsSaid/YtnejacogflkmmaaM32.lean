/- Parts of the proofs of this seat: CallCX. Each part says what it proves; no condition beyond those stated there. -/
import Derived.Test.YtnejacogflkmmaaM10

/- A region that draws: a call whose value goes to a call of two results, whose tuple is taken apart; the rest reads. -/
namespace Go.Proofs.Ytnejacogflkmmaa
open Go Go.RowKit
structure DX (i : Nat) (R : Value → Value → World → Prop) (γ : Nat → Option Value) (w : World) : Prop where
  c : ∀ u0, γ i = some u0 → ∃ u z, u0 = .tuple #[u, z] ∧ R u z w
  m : ∀ u0 u1, γ i = some u0 → γ (i + 1) = some u1 → u1 = u0
  x : ∀ u1 u2, γ (i + 1) = some u1 → γ (i + 2) = some u2 → ∃ z, u1 = .tuple #[u2, z]
  y : ∀ u1 u3, γ (i + 1) = some u1 → γ (i + 3) = some u3 → ∃ u, u1 = .tuple #[u, u3]
  q : ∀ u2 u4, γ (i + 2) = some u2 → γ (i + 4) = some u4 → u4 = u2
  n0 : γ i = none → γ (i + 1) = none
  n1 : γ (i + 1) = none → γ (i + 2) = none ∧ γ (i + 3) = none
  n2 : γ (i + 2) = none → γ (i + 4) = none
theorem wp_region_callcx {P : Program} {id : Nat} {Q : Exit → Act → World → Prop} {a : Act} {W : World} {l : List Oper} (i j : Nat) (ks : List Nat) (R0 : Value → World → Prop) (V : Value → Prop) (args2 : Value → Array Value) (R : Value → Value → World → Prop) {oi o0 o1 o2 o3 o4 : Oper} {di d0 d1 d2 d3 d4 : Nat} {fi f : FuncId} {xsi xs : Array Operand} {tsi ts : Array TypeId} {argsi : Array Value} (x1 x2 x3 x4 : Operand)
    (hm : P.follows .mixedOrders = true) (hB : ownB .any l (j + 5) ks [i, j, j + 1, j + 2, j + 3, j + 4] = true) (hpB : preB .any l (fun k => if k == j then [i] else if k == j + 1 then [j] else if k == j + 2 then [j + 1] else if k == j + 3 then [j + 1] else if k == j + 4 then [j + 2] else []) [i, j, j + 1, j + 2, j + 3, j + 4] = true) (hsl : slotsB (pick l ks) a.tmps.size = true)
    (hij : i < j) (hst : ∀ u z w w', Below w.heap.size w w' → R u z w → R u z w') (hst0 : ∀ u w w', Below w.heap.size w w' → R0 u w → R0 u w') (hV : ∀ u w, R0 u w → V u) (hV0 : ∃ u, V u)
    (hi : l[i]? = some oi) (h0 : l[j]? = some o0) (h1 : l[j + 1]? = some o1) (h2 : l[j + 2]? = some o2) (h3 : l[j + 3]? = some o3) (h4 : l[j + 4]? = some o4)
    (ei : oi.dst = some di) (e0 : o0.dst = some d0) (e1 : o1.dst = some d1) (e2 : o2.dst = some d2) (e3 : o3.dst = some d3) (e4 : o4.dst = some d4)
    (pi : oi.op = .call { callee := .value (.func fi), args := xsi, argTypes := tsi }) (p0 : o0.op = .call { callee := .value (.func f), args := xs, argTypes := ts }) (p1 : o1.op = .move x1) (p2 : o2.op = .extract x2 0) (p3 : o3.op = .extract x3 1) (p4 : o4.op = .assign x4) (hfi : ∀ args w, (callFunc fi args).run P w = .ok (.enter fi args) w) (hf : ∀ args w, (callFunc f args).run P w = .ok (.enter f args) w)
    (h : ∃ fin : Act, (∀ W1, Below W.heap.size W W1 → wpQuiet P l.toArray (fun w' => ∃ u : Since W1, w' = u.w) (fun a' => a' = fin) (pick l ks) a) ∧
      xsi.map fin.eval = argsi ∧ Region.wanted oi (yielded l.toArray fin.tmps) = true ∧
      (∀ w, Below W.heap.size W w → Calls P fi argsi w fun e w'' => ∃ u, e = .returned u ∧ R0 u w'' ∧ Below w.heap.size w w'') ∧
      ∀ ui, V ui → xs.map (fin.put (some di) ui).eval = args2 ui ∧ Region.wanted o0 (yielded l.toArray (fin.put (some di) ui).tmps) = true ∧
      (∀ w, Below W.heap.size W w → R0 ui w → Calls P f (args2 ui) w fun e w'' => ∃ u z, e = .returned (.tuple #[u, z]) ∧ R u z w'' ∧ Below W.heap.size W w'') ∧
      (∀ u0, ((fin.put (some di) ui).put (some d0) u0).eval x1 = u0 ∧ Region.wanted o1 (yielded l.toArray ((fin.put (some di) ui).put (some d0) u0).tmps) = true ∧ ∀ u1, (((fin.put (some di) ui).put (some d0) u0).put (some d1) u1).eval x2 = u1 ∧ Region.wanted o2 (yielded l.toArray (((fin.put (some di) ui).put (some d0) u0).put (some d1) u1).tmps) = true ∧
        ∀ u2, ((((fin.put (some di) ui).put (some d0) u0).put (some d1) u1).put (some d2) u2).eval x3 = u1 ∧ Region.wanted o3 (yielded l.toArray ((((fin.put (some di) ui).put (some d0) u0).put (some d1) u1).put (some d2) u2).tmps) = true ∧
          ∀ u3, (((((fin.put (some di) ui).put (some d0) u0).put (some d1) u1).put (some d2) u2).put (some d3) u3).eval x4 = u2 ∧ Region.wanted o4 (yielded l.toArray (((((fin.put (some di) ui).put (some d0) u0).put (some d1) u1).put (some d2) u2).put (some d3) u3).tmps) = true) ∧
      ∀ u z w', Below W.heap.size W w' → R u z w' → wpList P l.toArray Q (l.drop (j + 5)) ((((((fin.put (some di) ui).put (some d0) (.tuple #[u, z])).put (some d1) (.tuple #[u, z])).put (some d2) u).put (some d3) z).put (some d4) u) w') :
    (Code.region id l.toArray true).wp P Q a W := by
  obtain ⟨fin, hq, hargsi, hwi, hcalli, hrest⟩ := h
  refine wp_region_own noS (j + 5) ks [i, j, j + 1, j + 2, j + 3, j + 4] (fun k => if k == j then [i] else if k == j + 1 then [j] else if k == j + 2 then [j + 1] else if k == j + 3 then [j + 1] else if k == j + 4 then [j + 2] else [])
    (fun k u => (k = i → V u) ∧ (k = j + 1 → ∃ x y, u = .tuple #[x, y])) (fun γ w => (∀ u, γ i = some u → γ j = none → R0 u w) ∧ (γ i = none → γ j = none) ∧ DX j R γ w) hm hB hpB (fun k hk => ?_) hsl (fun γ w w' hb hD => ?_) ?_ (fun k hk => ?_) ⟨fin, fun W1 hc => hq W1 hc.noS_, ?_⟩
  · simp only [List.mem_cons, List.not_mem_nil, or_false, not_or] at hk
    simp [hk.2.1, hk.2.2.1, hk.2.2.2.1, hk.2.2.2.2.1, hk.2.2.2.2.2]
  · exact ⟨fun u hu hv => hst0 u w w' hb (hD.1 u hu hv), hD.2.1, fun u0 hu => by obtain ⟨u, z, g1, g2⟩ := hD.2.2.c u0 hu; exact ⟨u, z, g1, hst u z w w' hb g2⟩, hD.2.2.m, hD.2.2.x, hD.2.2.y, hD.2.2.q, hD.2.2.n0, hD.2.2.n1, hD.2.2.n2⟩
  · exact ⟨fun _ h => (by cases h), fun _ => rfl, fun _ h => (by cases h), fun _ _ h => (by cases h), fun _ _ h => (by cases h), fun _ _ h => (by cases h), fun _ _ h => (by cases h), fun _ => rfl, fun _ => ⟨rfl, rfl⟩, fun _ => rfl⟩
  · obtain ⟨u, hu⟩ := hV0
    by_cases hki : k = i
    · exact ⟨u, fun _ => hu, fun h => by omega⟩
    · exact ⟨.tuple #[undef, undef], fun h => absurd h hki, fun _ => ⟨_, _, rfl⟩⟩
  refine ⟨oi, by simpa using hi, ⟨hwi, fun w γ hc hD hn _ => ?_⟩, fun ui hui => ?_⟩
  · rw [run_call_fn pi hfi w, hargsi]
    refine ⟨rfl, (hcalli w hc.noS_).mono ?_⟩
    rintro e w'' ⟨u, he, hR, hb⟩
    have gj := hD.2.1 hn
    have g1 := hD.2.2.n0 gj
    obtain ⟨g2, g3⟩ := hD.2.2.n1 g1
    have g4 := hD.2.2.n2 g2
    refine ⟨_, he, ⟨fun _ => hV _ _ hR, fun h => by omega⟩, hc.trans (.of_below hb), fun v hv _ => ?_, fun hv => ?_, ?_⟩
    · rw [gset_at] at hv
      injection hv with hv
      rw [← hv]; exact hR
    · rw [gset_at] at hv; cases hv
    · refine ⟨fun u0 hu => ?_, fun u0 u1 hu _ => ?_, fun u1 u2 hu _ => ?_, fun u1 u2 hu _ => ?_, fun u2 u4 hu _ => ?_, fun _ => ?_, fun _ => ?_, fun _ => ?_⟩
      · rw [gset_ne _ _ _ _ (by omega), gj] at hu; cases hu
      · rw [gset_ne _ _ _ _ (by omega), gj] at hu; cases hu
      · rw [gset_ne _ _ _ _ (by omega), g1] at hu; cases hu
      · rw [gset_ne _ _ _ _ (by omega), g1] at hu; cases hu
      · rw [gset_ne _ _ _ _ (by omega), g2] at hu; cases hu
      · rw [gset_ne _ _ _ _ (by omega)]; exact g1
      · rw [gset_ne _ _ _ _ (by omega), gset_ne _ _ _ _ (by omega)]; exact ⟨g2, g3⟩
      · rw [gset_ne _ _ _ _ (by omega)]; exact g4
  rw [ei]
  obtain ⟨hargs, hw0, hcall, hev, hk⟩ := hrest ui (hui.1 rfl)
  have keep : ∀ (γ : Nat → Option Value) (w : World) k v, k ≠ i → k ≠ j → (∀ u, γ i = some u → γ j = none → R0 u w) → (γ i = none → γ j = none) → (∀ u, gset γ k v i = some u → gset γ k v j = none → R0 u w) ∧ (gset γ k v i = none → gset γ k v j = none) := fun γ w k v h1 h2 h3 h4 => by
    rw [gset_ne _ _ _ _ (Ne.symm h1), gset_ne _ _ _ _ (Ne.symm h2)]; exact ⟨h3, h4⟩
  · refine ⟨o0, by simpa using h0, ⟨hw0, fun w γ hc hD hn hp => ?_⟩, fun u0 _ => ?_⟩
    · have hpi := hp i (by simp)
      rw [gset_at] at hpi
      rw [run_call_fn p0 hf w, hargs]
      refine ⟨rfl, (hcall w hc.noS_ (hD.1 ui hpi hn)).mono ?_⟩
      rintro e w'' ⟨u, z, he, hR, hb⟩
      have g1 := hD.2.2.n0 hn
      obtain ⟨g2, g3⟩ := hD.2.2.n1 g1
      have g4 := hD.2.2.n2 g2
      refine ⟨_, he, ⟨fun h => by omega, fun h => absurd h (by omega)⟩, .of_below hb, fun v _ hv => ?_, fun hv => ?_, ?_⟩
      · rw [gset_at] at hv; cases hv
      · rw [gset_ne _ _ _ _ (by omega), hpi] at hv; cases hv
      refine ⟨fun u0 hu => ?_, fun u0 u1 _ hu => ?_, fun u1 u2 hu _ => ?_, fun u1 u2 hu _ => ?_, fun u2 u4 hu _ => ?_, fun hu => ?_, fun _ => ?_, fun _ => ?_⟩
      · rw [gset_at] at hu; injection hu with hu; exact ⟨u, z, hu.symm, hR⟩
      · rw [gset_ne _ _ _ _ (by omega), g1] at hu; cases hu
      · rw [gset_ne _ _ _ _ (by omega), g1] at hu; cases hu
      · rw [gset_ne _ _ _ _ (by omega), g1] at hu; cases hu
      · rw [gset_ne _ _ _ _ (by omega), g2] at hu; cases hu
      · rw [gset_at] at hu; cases hu
      · rw [gset_ne _ _ _ _ (by omega), gset_ne _ _ _ _ (by omega)]; exact ⟨g2, g3⟩
      · rw [gset_ne _ _ _ _ (by omega)]; exact g4
    · rw [e0]
      obtain ⟨hv1, hw1, hev⟩ := hev u0
      refine ⟨o1, by simpa using h1, ⟨hw1, fun w γ hc hD hn hp => ?_⟩, fun u1 hV1 => ?_⟩
      · have hp0 := hp j (by simp)
        rw [gset_at] at hp0
        have hr : (execOp ((fin.put (some di) ui).put (some d0) u0).eval o1).run P w = .ok (.value u0) w := by unfold execOp; simp only [p1, hv1]; rfl
        rw [hr]
        obtain ⟨g2, g3⟩ := hD.2.2.n1 hn
        obtain ⟨u, z, g4, g5⟩ := hD.2.2.c u0 hp0
        obtain ⟨K1, K2⟩ := keep γ w (j + 1) u0 (by omega) (by omega) hD.1 hD.2.1
        refine ⟨⟨fun h => by omega, fun _ => ⟨u, z, g4⟩⟩, hc, K1, K2, ?_⟩
        refine ⟨fun v hv => ?_, fun v v1 hv hv1 => ?_, fun v1 v2 _ hv2 => ?_, fun v1 v2 _ hv2 => ?_, fun v2 v4 hv2 _ => ?_, fun hv => ?_, fun hv => ?_, fun _ => ?_⟩
        · rw [gset_ne _ _ _ _ (by omega)] at hv; exact hD.2.2.c v hv
        · rw [gset_ne _ _ _ _ (by omega), hp0] at hv
          rw [gset_at] at hv1
          injection hv with hv; injection hv1 with hv1; rw [← hv, ← hv1]
        · rw [gset_ne _ _ _ _ (by omega), g2] at hv2; cases hv2
        · rw [gset_ne _ _ _ _ (by omega), g3] at hv2; cases hv2
        · rw [gset_ne _ _ _ _ (by omega), g2] at hv2; cases hv2
        · rw [gset_ne _ _ _ _ (by omega), hp0] at hv; cases hv
        · rw [gset_at] at hv; cases hv
        · rw [gset_ne _ _ _ _ (by omega)]; exact hD.2.2.n2 g2
      · rw [e1]
        obtain ⟨x, y, rfl⟩ := hV1.2 rfl
        obtain ⟨hv2, hw2, hev⟩ := hev (.tuple #[x, y])
        refine ⟨o2, by simpa using h2, ⟨hw2, fun w γ hc hD hn hp => ?_⟩, fun u2 _ => ?_⟩
        · have hp1 := hp (j + 1) (by simp)
          rw [gset_at] at hp1
          have hr : (execOp (((fin.put (some di) ui).put (some d0) u0).put (some d1) (.tuple #[x, y])).eval o2).run P w = .ok (.value x) w := by unfold execOp; simp only [p2, hv2]; rfl
          rw [hr]
          have g6 := hD.2.2.n2 hn
          obtain ⟨K1, K2⟩ := keep γ w (j + 2) x (by omega) (by omega) hD.1 hD.2.1
          refine ⟨⟨fun h => by omega, fun h => absurd h (by omega)⟩, hc, K1, K2, ?_⟩ 
          refine ⟨fun v hv => ?_, fun v v1 hv hv1 => ?_, fun v1 v2 hv1 hv2 => ?_, fun v1 v2 hv1 hv2 => ?_, fun v2 v4 _ hv4 => ?_, fun hv => ?_, fun hv => ?_, fun hv => ?_⟩
          · rw [gset_ne _ _ _ _ (by omega)] at hv; exact hD.2.2.c v hv
          · rw [gset_ne _ _ _ _ (by omega)] at hv hv1; exact hD.2.2.m v v1 hv hv1
          · rw [gset_ne _ _ _ _ (by omega), hp1] at hv1
            rw [gset_at] at hv2
            injection hv1 with hv1; injection hv2 with hv2; exact ⟨y, by rw [← hv1, ← hv2]⟩
          · rw [gset_ne _ _ _ _ (by omega)] at hv1 hv2; exact hD.2.2.y v1 v2 hv1 hv2
          · rw [gset_ne _ _ _ _ (by omega), g6] at hv4; cases hv4
          · rw [gset_ne _ _ _ _ (by omega)] at hv ⊢; exact hD.2.2.n0 hv
          · rw [gset_ne _ _ _ _ (by omega), hp1] at hv; cases hv
          · rw [gset_at] at hv; cases hv
        · rw [e2]
          obtain ⟨hv3, hw3, hev⟩ := hev u2
          refine ⟨o3, by simpa using h3, ⟨hw3, fun w γ hc hD hn hp => ?_⟩, fun u3 _ => ?_⟩
          · have hp1 := hp (j + 1) (by simp)
            rw [gset_ne _ _ _ _ (by omega), gset_at] at hp1
            have hr : (execOp ((((fin.put (some di) ui).put (some d0) u0).put (some d1) (.tuple #[x, y])).put (some d2) u2).eval o3).run P w = .ok (.value y) w := by unfold execOp; simp only [p3, hv3]; rfl
            rw [hr]
            obtain ⟨K1, K2⟩ := keep γ w (j + 3) y (by omega) (by omega) hD.1 hD.2.1
            refine ⟨⟨fun h => by omega, fun h => absurd h (by omega)⟩, hc, K1, K2, ?_⟩ 
            refine ⟨fun v hv => ?_, fun v v1 hv hv1 => ?_, fun v1 v2 hv1 hv2 => ?_, fun v1 v2 hv1 hv2 => ?_, fun v2 v4 hv2 hv4 => ?_, fun hv => ?_, fun hv => ?_, fun hv => ?_⟩
            · rw [gset_ne _ _ _ _ (by omega)] at hv; exact hD.2.2.c v hv
            · rw [gset_ne _ _ _ _ (by omega)] at hv hv1; exact hD.2.2.m v v1 hv hv1
            · rw [gset_ne _ _ _ _ (by omega)] at hv1 hv2; exact hD.2.2.x v1 v2 hv1 hv2
            · rw [gset_ne _ _ _ _ (by omega), hp1] at hv1
              rw [gset_at] at hv2
              injection hv1 with hv1; injection hv2 with hv2; exact ⟨x, by rw [← hv1, ← hv2]⟩
            · rw [gset_ne _ _ _ _ (by omega)] at hv2 hv4; exact hD.2.2.q v2 v4 hv2 hv4
            · rw [gset_ne _ _ _ _ (by omega)] at hv ⊢; exact hD.2.2.n0 hv
            · rw [gset_ne _ _ _ _ (by omega), hp1] at hv; cases hv
            · rw [gset_ne _ _ _ _ (by omega)] at hv ⊢; exact hD.2.2.n2 hv
          · rw [e3]
            obtain ⟨hv4, hw4⟩ := hev u3
            refine ⟨o4, by simpa using h4, ⟨hw4, fun w γ hc hD hn hp => ?_⟩, fun u4 _ => ?_⟩
            · have hp2 := hp (j + 2) (by simp)
              rw [gset_ne _ _ _ _ (by omega), gset_at] at hp2
              have hr : (execOp (((((fin.put (some di) ui).put (some d0) u0).put (some d1) (.tuple #[x, y])).put (some d2) u2).put (some d3) u3).eval o4).run P w = .ok (.value u2) w := by unfold execOp; simp only [p4, hv4]; rfl
              rw [hr]
              obtain ⟨K1, K2⟩ := keep γ w (j + 4) u2 (by omega) (by omega) hD.1 hD.2.1
              refine ⟨⟨fun h => by omega, fun h => absurd h (by omega)⟩, hc, K1, K2, ?_⟩ 
              refine ⟨fun v hv => ?_, fun v v1 hv hv1 => ?_, fun v1 v2 hv1 hv2 => ?_, fun v1 v2 hv1 hv2 => ?_, fun v2 v4 hv2 hv4 => ?_, fun hv => ?_, fun hv => ?_, fun hv => ?_⟩
              · rw [gset_ne _ _ _ _ (by omega)] at hv; exact hD.2.2.c v hv
              · rw [gset_ne _ _ _ _ (by omega)] at hv hv1; exact hD.2.2.m v v1 hv hv1
              · rw [gset_ne _ _ _ _ (by omega)] at hv1 hv2; exact hD.2.2.x v1 v2 hv1 hv2
              · rw [gset_ne _ _ _ _ (by omega)] at hv1 hv2; exact hD.2.2.y v1 v2 hv1 hv2
              · rw [gset_ne _ _ _ _ (by omega), hp2] at hv2
                rw [gset_at] at hv4
                injection hv2 with hv2; injection hv4 with hv4; rw [← hv2, ← hv4]
              · rw [gset_ne _ _ _ _ (by omega)] at hv ⊢; exact hD.2.2.n0 hv
              · rw [gset_ne _ _ _ _ (by omega)] at hv ⊢; rw [gset_ne _ _ _ _ (by omega)]; exact hD.2.2.n1 hv
              · rw [gset_ne _ _ _ _ (by omega), hp2] at hv; cases hv
            · rw [e4]
              intro w' hc hD
              have g0 : gset (gset (gset (gset (gset (gset (fun _ => none) i ui) j u0) (j + 1) (.tuple #[x, y])) (j + 2) u2) (j + 3) u3) (j + 4) u4 j = some u0 := by
                rw [gset_ne _ _ _ _ (by omega), gset_ne _ _ _ _ (by omega), gset_ne _ _ _ _ (by omega), gset_ne _ _ _ _ (by omega), gset_at]
              have g1 : gset (gset (gset (gset (gset (gset (fun _ => none) i ui) j u0) (j + 1) (.tuple #[x, y])) (j + 2) u2) (j + 3) u3) (j + 4) u4 (j + 1) = some (.tuple #[x, y]) := by
                rw [gset_ne _ _ _ _ (by omega), gset_ne _ _ _ _ (by omega), gset_ne _ _ _ _ (by omega), gset_at]
              have g2 : gset (gset (gset (gset (gset (gset (fun _ => none) i ui) j u0) (j + 1) (.tuple #[x, y])) (j + 2) u2) (j + 3) u3) (j + 4) u4 (j + 2) = some u2 := by
                rw [gset_ne _ _ _ _ (by omega), gset_ne _ _ _ _ (by omega), gset_at]
              have g3 : gset (gset (gset (gset (gset (gset (fun _ => none) i ui) j u0) (j + 1) (.tuple #[x, y])) (j + 2) u2) (j + 3) u3) (j + 4) u4 (j + 3) = some u3 := by
                rw [gset_ne _ _ _ _ (by omega), gset_at]
              have g4 : gset (gset (gset (gset (gset (gset (fun _ => none) i ui) j u0) (j + 1) (.tuple #[x, y])) (j + 2) u2) (j + 3) u3) (j + 4) u4 (j + 4) = some u4 := gset_at _ _ _
              obtain ⟨u, z, ht, hR⟩ := hD.2.2.c _ g0
              have hm := hD.2.2.m _ _ g0 g1
              obtain ⟨z', hx⟩ := hD.2.2.x _ _ g1 g2
              obtain ⟨u', hy⟩ := hD.2.2.y _ _ g1 g3
              obtain rfl := hD.2.2.q _ _ g2 g4
              subst ht
              rw [hm] at hx hy
              injection hx with hx
              injection hy with hy
              have hx1 : u = u4 ∧ z = z' := by simpa using hx
              have hy1 : u = u' ∧ z = u3 := by simpa using hy
              have hxy : x = u ∧ y = z := by injection hm with hm; simpa using hm
              obtain ⟨rfl, rfl⟩ := hxy
              obtain ⟨rfl, -⟩ := hx1
              obtain ⟨-, rfl⟩ := hy1
              exact hk _ _ w' hc.noS_ hR
end Go.Proofs.Ytnejacogflkmmaa
