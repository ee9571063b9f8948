/- Parts of the proofs of this seat: Pairs. Each part says what it proves; no condition beyond those stated there. -/
import Derived.Test.YtnejacogflkmmaaM10

/- A region that draws: reads, and twice a call whose value goes to a second call; the second calls hand back one value. -/
namespace Go.Proofs.Ytnejacogflkmmaa
open Go Go.RowKit
/-- the operations of a list are all wanted, where they yield what vs tells -/
def AllW (ops : Array Oper) (vs : Nat → Value) (fin : Act) : List Nat → Act → Prop
  | [], _ => True
  | k :: ks, a => ∃ o d, ops[k]? = some o ∧ o.dst = some d ∧ fin.tmps.getD d undef = vs k ∧ Region.wanted o (yielded ops a.tmps) = true ∧ AllW ops vs fin ks (a.put (some d) (vs k))
theorem pick_ok (l : List Oper) : ∀ (ks : List Nat), (∀ k ∈ ks, k < l.length) → ks.length = (pick l ks).length ∧ ∀ (j : Nat) k, ks[j]? = some k → l.toArray[k]? = (pick l ks)[j]? := by
  intro ks
  induction ks with
  | nil => intro _; exact ⟨rfl, fun j k h => by simp at h⟩
  | cons k ks ih =>
    intro hlt
    obtain ⟨i1, i2⟩ := ih fun k hk => hlt k (by simp [hk])
    have hk := hlt k (by simp)
    have he : pick l (k :: ks) = l[k] :: pick l ks := by simp [pick, hk]
    rw [he]
    refine ⟨by simp [i1], fun j k' hj => ?_⟩
    cases j with
    | zero => simp at hj; subst hj; simp [hk]
    | succ j => simpa using i2 j k' (by simpa using hj)
def gsets (vs : Nat → Value) (γ : Nat → Option Value) (ks : List Nat) : Nat → Option Value := ks.foldl (fun γ k => gset γ k (vs k)) γ
theorem gsets_ne (vs : Nat → Value) : ∀ (ks : List Nat) (γ : Nat → Option Value) (i : Nat), i ∉ ks → gsets vs γ ks i = γ i
  | [], _, _, _ => rfl
  | k :: ks, γ, i, h => by
    show gsets vs (gset γ k (vs k)) ks i = γ i
    rw [gsets_ne vs ks _ i (fun hm => h (List.mem_cons_of_mem _ hm)), gset_ne _ _ _ _ (fun e => h (by rw [e]; exact List.mem_cons_self ..))]
theorem ownWalk_quiets {P : Program} {ops : Array Oper} {S : Nat → Prop} {W : World} {D : (Nat → Option Value) → World → Prop} {Vo : Nat → Value → Prop} {pre : Nat → List Nat} {fn : Act → (Nat → Option Value) → Prop} (vs : Nat → Value) (hst : ∀ γ w w', Below w.heap.size w w' → D γ w → D γ w') {fin : Act} (os : List Nat) :
    ∀ (seg : List Nat) (l : List Oper) (a : Act) (γ : Nat → Option Value), seg.length = l.length → (∀ (j : Nat) k, seg[j]? = some k → ops[k]? = l[j]?) → slotsB l a.tmps.size = true → (∀ k ∈ seg, ∀ u, Vo k u ↔ u = vs k) → (∀ k ∈ seg, ∀ γ w u, D γ w → D (gset γ k u) w) →
    (∀ W1, Chg S W W1 → wpQuiet P ops (fun w' => ∃ u : Since W1, w' = u.w) (fun a' => a' = fin) l a) → AllW ops vs fin seg a → ownWalk P ops S W D Vo pre fn os fin (gsets vs γ seg) → ownWalk P ops S W D Vo pre fn (seg ++ os) a γ
  | [], [], a, γ, _, _, _, _, _, hq, _, hk => by
    have : a = fin := hq W (Chg.refl _ _)
    rw [this]; exact hk
  | [], _ :: _, _, _, h0, _, _, _, _, _, _, _ => by simp at h0
  | _ :: _, [], _, _, h0, _, _, _, _, _, _, _ => by simp at h0
  | k :: ks, o :: l, a, γ, h0, hk0, hs, hVo, hD, hq, hW, hk => by
    have ho : ops[k]? = some o := by simpa using hk0 0 k rfl
    obtain ⟨o', d, ho', hd, hvd, hwant, hW'⟩ := hW
    obtain rfl : o' = o := Option.some.inj (ho'.symm.trans ho)
    simp only [slotsB, Bool.and_eq_true, List.all_cons, decide_eq_true_eq] at hs
    obtain ⟨⟨hs1, hs2⟩, hs3⟩ := hs
    have hs4 : (l.filterMap (·.dst)).Nodup := by
      rw [List.filterMap_cons, hd] at hs3
      exact (List.nodup_cons.1 hs3).2
    have ht : d ∉ l.filterMap (·.dst) := by
      rw [List.filterMap_cons, hd] at hs3
      exact (List.nodup_cons.1 hs3).1
    have hlt : d < a.tmps.size := by rw [hd] at hs1; simpa using hs1
    have hval : ∀ W1 u, wpQuiet P ops (fun w' => ∃ u : Since W1, w' = u.w) (fun a' => a' = fin) l (a.put o'.dst u) → u = vs k := fun W1 u hqq => by
      rw [hd] at hqq
      have h5 := quiet_slot l _ d ht hqq
      have h6 : (a.put (some d) u).tmps[d]? = some u := by simp [Act.put, hlt]
      rw [h6] at h5
      rw [← hvd, Array.getD_eq_getD_getElem?, h5]; rfl
    have step : ∀ W1, Chg S W W1 → ∃ u, (∀ w, (∃ u : Since W1, w = u.w) → o'.quietAt P a (fun w' => ∃ u : Since W1, w' = u.w) w u) ∧ wpQuiet P ops (fun w' => ∃ u : Since W1, w' = u.w) (fun a' => a' = fin) l (a.put o'.dst u) := fun W1 hW1 => by
      have h1 := hq W1 hW1
      unfold wpQuiet at h1
      rw [if_pos hwant] at h1
      exact h1
    refine ⟨o', ho, ⟨hwant, fun w γ2 hc hDw hn hp => ?_⟩, fun u hu => ?_⟩
    · obtain ⟨u, hu, hn'⟩ := step w hc
      obtain rfl := hval w u hn'
      have h2 := hu w ⟨⟨w, Below.refl _ _⟩, rfl⟩
      unfold Oper.quietAt at h2
      have hV := (hVo k (List.mem_cons_self ..) (vs k)).2 rfl
      have hDk := hD k (List.mem_cons_self ..) γ2 w (vs k) hDw
      generalize (execOp a.eval o').run P w = r at *
      cases r with
      | ok n w' =>
        cases n <;> simp only [Oper.quietUpon] at h2 <;> simp only [ownUpon]
        case value x =>
          obtain ⟨rfl, rfl⟩ := h2
          exact ⟨hV, hc, hDk⟩
        case skip =>
          obtain ⟨rfl, h3⟩ := h2
          rw [h3] at hV hDk
          exact ⟨hV, hc, hDk⟩
        case enter f args => exact ⟨h2.1, h2.2.mono fun e w'' ⟨he, u', hu'⟩ => ⟨vs k, he, hV, hc.trans (.of_below (hu' ▸ u'.h)), hst _ w w'' (hu' ▸ u'.h) hDk⟩⟩
      | halt x w' => simp only [Oper.quietUpon] at h2
    · obtain rfl := (hVo k (List.mem_cons_self ..) u).1 hu
      refine ownWalk_quiets vs hst os ks l _ _ (by simpa using h0) (fun j k' hj => by simpa using hk0 (j + 1) k' hj) (by rw [put_size]; simp only [slotsB, Bool.and_eq_true, decide_eq_true_eq]; exact ⟨hs2, hs4⟩) (fun k' hk' => hVo k' (List.mem_cons_of_mem _ hk')) (fun k' hk' => hD k' (List.mem_cons_of_mem _ hk')) (fun W1 hW1 => ?_) (by rw [hd]; exact hW') hk
      obtain ⟨u, hu, hn'⟩ := step W1 hW1
      obtain rfl := hval W1 u hn'
      exact hn'
def PairD (i j : Nat) (R : Value → World → Prop) (γ : Nat → Option Value) (w : World) : Prop := (∀ u, γ i = some u → γ j = none → R u w) ∧ (γ i = none → γ j = none)
theorem PairD.other {i j k : Nat} {R : Value → World → Prop} {γ : Nat → Option Value} {w w' : World} (h : PairD i j R γ w) (u : Value) (h1 : k ≠ i) (h2 : k ≠ j) (hst : ∀ u, R u w → R u w') : PairD i j R (gset γ k u) w' := by
  unfold PairD
  rw [gset_ne _ _ _ _ (Ne.symm h1), gset_ne _ _ _ _ (Ne.symm h2)]
  exact ⟨fun v hv hj => hst v (h.1 v hv hj), h.2⟩
theorem PairD.prod {i j : Nat} {R : Value → World → Prop} {γ : Nat → Option Value} {w : World} {u : Value} (hR : R u w) : PairD i j R (gset γ i u) w := by
  unfold PairD
  rw [gset_at]
  exact ⟨fun v hv _ => by injection hv with hv; rw [← hv]; exact hR, fun hv => by cases hv⟩
theorem PairD.cons {i j : Nat} {R : Value → World → Prop} {γ : Nat → Option Value} {w : World} {u v : Value} (hij : i ≠ j) (hi : γ i = some u) : PairD i j R (gset γ j v) w := by
  unfold PairD
  rw [gset_at, gset_ne _ _ _ _ hij, hi]
  exact ⟨(fun _ _ h => by cases h), (fun h => by cases h)⟩
theorem wp_region_pairs {P : Program} {id : Nat} {Q : Exit → Act → World → Prop} {a : Act} {W : World} {l : List Oper} (n i1 j1 i2 j2 : Nat) (ks seg1 seg2 : List Nat) (vs : Nat → Value) (R1 R2 : Value → World → Prop) (V1 V2 : Value → Prop) (args2 args4 : Value → Array Value)
    {o1 o2 o3 o4 : Oper} {d1 d2 d3 d4 : Nat} {f1 f2 f3 f4 : FuncId} {xs1 xs2 xs3 xs4 : Array Operand} {ts1 ts2 ts3 ts4 : Array TypeId} {args1 args3 : Array Value}
    (hm : P.follows .mixedOrders = true) (hB : ownB .any l n ks (i1 :: j1 :: (seg1 ++ (i2 :: j2 :: seg2))) = true) (hpB : preB .any l (fun k => if k == j1 then [i1] else if k == j2 then [i2] else []) (i1 :: j1 :: (seg1 ++ (i2 :: j2 :: seg2))) = true) (hsl : slotsB (pick l ks) a.tmps.size = true)
    (hne : i1 ≠ j1 ∧ i1 ≠ i2 ∧ i1 ≠ j2 ∧ j1 ≠ i2 ∧ j1 ≠ j2 ∧ i2 ≠ j2) (hs1 : ∀ k ∈ seg1, k ≠ i1 ∧ k ≠ j1 ∧ k ≠ i2 ∧ k ≠ j2) (hs2 : ∀ k ∈ seg2, k ≠ i1 ∧ k ≠ j1 ∧ k ≠ i2 ∧ k ≠ j2) (hl1 : ∀ k ∈ seg1, k < l.length) (hl2 : ∀ k ∈ seg2, k < l.length)
    (ht1 : ∀ u w w', Below w.heap.size w w' → R1 u w → R1 u w') (ht2 : ∀ u w w', Below w.heap.size w w' → R2 u w → R2 u w') (hV1 : ∀ u w, R1 u w → V1 u) (hV2 : ∀ u w, R2 u w → V2 u) (hv1 : ∃ u, V1 u) (hv2 : ∃ u, V2 u)
    (ho1 : l[i1]? = some o1) (ho2 : l[j1]? = some o2) (ho3 : l[i2]? = some o3) (ho4 : l[j2]? = some o4) (e1 : o1.dst = some d1) (e2 : o2.dst = some d2) (e3 : o3.dst = some d3) (e4 : o4.dst = some d4)
    (p1 : o1.op = .call { callee := .value (.func f1), args := xs1, argTypes := ts1 }) (p2 : o2.op = .call { callee := .value (.func f2), args := xs2, argTypes := ts2 }) (p3 : o3.op = .call { callee := .value (.func f3), args := xs3, argTypes := ts3 }) (p4 : o4.op = .call { callee := .value (.func f4), args := xs4, argTypes := ts4 })
    (q1 : ∀ args w, (callFunc f1 args).run P w = .ok (.enter f1 args) w) (q2 : ∀ args w, (callFunc f2 args).run P w = .ok (.enter f2 args) w) (q3 : ∀ args w, (callFunc f3 args).run P w = .ok (.enter f3 args) w) (q4 : ∀ args w, (callFunc f4 args).run P w = .ok (.enter f4 args) w)
    (h : ∃ fin : Act, (∀ W1, Below W.heap.size W W1 → wpQuiet P l.toArray (fun w' => ∃ u : Since W1, w' = u.w) (fun a' => a' = fin) (pick l ks) a) ∧
      xs1.map fin.eval = args1 ∧ Region.wanted o1 (yielded l.toArray fin.tmps) = true ∧ (∀ w, Below W.heap.size W w → Calls P f1 args1 w fun e w'' => ∃ u, e = .returned u ∧ R1 u w'' ∧ Below w.heap.size w w'') ∧
      ∀ u1, V1 u1 → Region.wanted o2 (yielded l.toArray (fin.put (some d1) u1).tmps) = true ∧ xs2.map (fin.put (some d1) u1).eval = args2 u1 ∧ (∀ w, Below W.heap.size W w → R1 u1 w → Calls P f2 (args2 u1) w fun e w'' => e = .returned (vs j1) ∧ Below w.heap.size w w'') ∧
      ∃ fin1 : Act, (∀ W1, Below W.heap.size W W1 → wpQuiet P l.toArray (fun w' => ∃ u : Since W1, w' = u.w) (fun a' => a' = fin1) (pick l seg1) ((fin.put (some d1) u1).put (some d2) (vs j1))) ∧ slotsB (pick l seg1) ((fin.put (some d1) u1).put (some d2) (vs j1)).tmps.size = true ∧ AllW l.toArray vs fin1 seg1 ((fin.put (some d1) u1).put (some d2) (vs j1)) ∧
      xs3.map fin1.eval = args3 ∧ Region.wanted o3 (yielded l.toArray fin1.tmps) = true ∧ (∀ w, Below W.heap.size W w → Calls P f3 args3 w fun e w'' => ∃ u, e = .returned u ∧ R2 u w'' ∧ Below w.heap.size w w'') ∧
      ∀ u2, V2 u2 → Region.wanted o4 (yielded l.toArray (fin1.put (some d3) u2).tmps) = true ∧ xs4.map (fin1.put (some d3) u2).eval = args4 u2 ∧ (∀ w, Below W.heap.size W w → R2 u2 w → Calls P f4 (args4 u2) w fun e w'' => e = .returned (vs j2) ∧ Below w.heap.size w w'') ∧
      ∃ fin2 : Act, (∀ W1, Below W.heap.size W W1 → wpQuiet P l.toArray (fun w' => ∃ u : Since W1, w' = u.w) (fun a' => a' = fin2) (pick l seg2) ((fin1.put (some d3) u2).put (some d4) (vs j2))) ∧ slotsB (pick l seg2) ((fin1.put (some d3) u2).put (some d4) (vs j2)).tmps.size = true ∧ AllW l.toArray vs fin2 seg2 ((fin1.put (some d3) u2).put (some d4) (vs j2)) ∧
      ∀ w', Below W.heap.size W w' → wpList P l.toArray Q (l.drop n) fin2 w') :
    (Code.region id l.toArray true).wp P Q a W := by
  obtain ⟨n1, n2, n3, n4, n5, n6⟩ := hne
  obtain ⟨fin, hq, ha1, hw1, hc1, h⟩ := h
  have hst : ∀ (γ : Nat → Option Value) (w w' : World), Below w.heap.size w w' → (PairD i1 j1 R1 γ w ∧ PairD i2 j2 R2 γ w) → (PairD i1 j1 R1 γ w' ∧ PairD i2 j2 R2 γ w') := fun γ w w' hb hD =>
    ⟨⟨fun u hu hj => ht1 u w w' hb (hD.1.1 u hu hj), hD.1.2⟩, ⟨fun u hu hj => ht2 u w w' hb (hD.2.1 u hu hj), hD.2.2⟩⟩
  have hVs : ∀ k, k ≠ i1 → k ≠ i2 → ∀ u, ((k = i1 → V1 u) ∧ (k = i2 → V2 u) ∧ (k ≠ i1 → k ≠ i2 → u = vs k)) ↔ u = vs k := fun k h1 h2 u => ⟨fun hh => hh.2.2 h1 h2, fun hh => ⟨fun e => absurd e h1, fun e => absurd e h2, fun _ _ => hh⟩⟩
  refine wp_region_own noS n ks (i1 :: j1 :: (seg1 ++ (i2 :: j2 :: seg2))) (fun k => if k == j1 then [i1] else if k == j2 then [i2] else []) (fun k u => (k = i1 → V1 u) ∧ (k = i2 → V2 u) ∧ (k ≠ i1 → k ≠ i2 → u = vs k))
    (fun γ w => PairD i1 j1 R1 γ w ∧ PairD i2 j2 R2 γ w) hm hB hpB (fun k hk => ?_) hsl hst ⟨⟨fun _ h => (by cases h), fun _ => rfl⟩, ⟨fun _ h => (by cases h), fun _ => rfl⟩⟩ (fun k _ => ?_) ⟨fin, fun W1 hc => hq W1 hc.noS_, ?_⟩
  · have h1 : k ≠ j1 := fun e => hk (by simp [e])
    have h2 : k ≠ j2 := fun e => hk (by simp [e])
    simp [h1, h2]
  · obtain ⟨u, hu⟩ := hv1
    obtain ⟨v, hv⟩ := hv2
    by_cases h1 : k = i1
    · exact ⟨u, fun _ => hu, fun e => absurd (h1.symm.trans e) n2, fun e => absurd h1 e⟩
    · by_cases h2 : k = i2
      · exact ⟨v, fun e => absurd e h1, fun _ => hv, fun _ e => absurd h2 e⟩
      · exact ⟨vs k, fun e => absurd e h1, fun e => absurd e h2, fun _ _ => rfl⟩
  refine ⟨o1, by simpa using ho1, ⟨hw1, fun w γ hc hD hn _ => ?_⟩, fun u1 hu1 => ?_⟩
  · rw [run_call_fn p1 q1 w, ha1]
    refine ⟨rfl, (hc1 w hc.noS_).mono ?_⟩
    rintro e w'' ⟨u, he, hR, hb⟩
    exact ⟨u, he, ⟨fun _ => hV1 _ _ hR, fun e => absurd e n2, fun e => absurd rfl e⟩, hc.trans (.of_below hb), PairD.prod hR, hD.2.other u n2 n3 fun v => ht2 v w w'' hb⟩
  rw [e1]
  obtain ⟨hw2, ha2, hc2, fin1, hq1, s3, s4, ha3, hw3, hc3, h⟩ := h u1 (hu1.1 rfl)
  refine ⟨o2, by simpa using ho2, ⟨hw2, fun w γ hc hD hn hp => ?_⟩, fun v1 hv1' => ?_⟩
  · have hp0 := hp i1 (by simp)
    rw [gset_at] at hp0
    rw [run_call_fn p2 q2 w, ha2]
    refine ⟨rfl, (hc2 w hc.noS_ (hD.1.1 u1 hp0 hn)).mono ?_⟩
    rintro e w'' ⟨he, hb⟩
    exact ⟨_, he, (hVs j1 (Ne.symm n1) n4 _).2 rfl, hc.trans (.of_below hb), PairD.cons n1 hp0, hD.2.other _ n4 n5 fun v => ht2 v w w'' hb⟩
  rw [e2]
  obtain rfl := (hVs j1 (Ne.symm n1) n4 v1).1 hv1'
  refine ownWalk_quiets vs hst (i2 :: j2 :: seg2) seg1 (pick l seg1) _ _ (pick_ok l seg1 hl1).1 (pick_ok l seg1 hl1).2 s3 (fun k hk => hVs k (hs1 k hk).1 (hs1 k hk).2.2.1) (fun k hk γ w u hD => ⟨hD.1.other u (hs1 k hk).1 (hs1 k hk).2.1 fun _ h => h, hD.2.other u (hs1 k hk).2.2.1 (hs1 k hk).2.2.2 fun _ h => h⟩) (fun W1 hc => hq1 W1 hc.noS_) s4 ?_
  refine ⟨o3, by simpa using ho3, ⟨hw3, fun w γ hc hD hn _ => ?_⟩, fun u2 hu2 => ?_⟩
  · rw [run_call_fn p3 q3 w, ha3]
    refine ⟨rfl, (hc3 w hc.noS_).mono ?_⟩
    rintro e w'' ⟨u, he, hR, hb⟩
    exact ⟨u, he, ⟨fun e => absurd e (Ne.symm n2), fun _ => hV2 _ _ hR, fun _ e => absurd rfl e⟩, hc.trans (.of_below hb), hD.1.other u (Ne.symm n2) (Ne.symm n4) (fun v => ht1 v w w'' hb), PairD.prod hR⟩
  rw [e3]
  obtain ⟨hw4, ha4, hc4, fin2, hq2, s3, s4, h⟩ := h u2 (hu2.2.1 rfl)
  refine ⟨o4, by simpa using ho4, ⟨hw4, fun w γ hc hD hn hp => ?_⟩, fun v2 hv2' => ?_⟩
  · have hp0 := hp i2 (by simp [Ne.symm n5])
    rw [gset_at] at hp0
    rw [run_call_fn p4 q4 w, ha4]
    refine ⟨rfl, (hc4 w hc.noS_ (hD.2.1 u2 hp0 hn)).mono ?_⟩
    rintro e w'' ⟨he, hb⟩
    exact ⟨_, he, (hVs j2 (Ne.symm n3) (Ne.symm n6) _).2 rfl, hc.trans (.of_below hb), hD.1.other _ (Ne.symm n3) (Ne.symm n5) (fun v => ht1 v w w'' hb), PairD.cons n6 hp0⟩
  rw [e4]
  obtain rfl := (hVs j2 (Ne.symm n3) (Ne.symm n6) v2).1 hv2'
  have hnil : seg2 = seg2 ++ [] := by simp
  rw [hnil]
  refine ownWalk_quiets vs hst [] seg2 (pick l seg2) _ _ (pick_ok l seg2 hl2).1 (pick_ok l seg2 hl2).2 s3 (fun k hk => hVs k (hs2 k hk).1 (hs2 k hk).2.2.1) (fun k hk γ w u hD => ⟨hD.1.other u (hs2 k hk).1 (hs2 k hk).2.1 fun _ h => h, hD.2.other u (hs2 k hk).2.2.1 (hs2 k hk).2.2.2 fun _ h => h⟩) (fun W1 hc => hq2 W1 hc.noS_) s4 ?_
  exact ownWalk_nil fun w' hc hD => h w' hc.noS_
end Go.Proofs.Ytnejacogflkmmaa
