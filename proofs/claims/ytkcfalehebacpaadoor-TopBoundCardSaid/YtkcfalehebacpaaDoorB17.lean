/- Parts of the proofs of this seat: KGreedyW, KLaw7, TBound. Each part says what it proves; no condition beyond those stated there. -/
import Derived.Deep.DeepCutAuto
import Derived.WalkMore
import Derived.Test.YtkcfalehebacpaaDoorB9
import Derived.Test.YtkcfalehebacpaaDoorB13
import Derived.Test.YtkcfalehebacpaaDoorB14
import Derived.Test.YtkcfalehebacpaaDoorB16

/- Greedy of the program: the walk. -/
namespace Go.Proofs.YtkcfalehebacpaaDoor
open Go Go.RowKit
theorem wpList_app_own3 {α : Type} {P : Program} {ops : Array Oper} {rest : List Oper} {o : Oper} {a : Act} {Q : Exit → Act → World → Prop} {w : World} {base : Nat} {e : TypeId} {sz : Nat} {f : α → List Value} {v : Value} {xs ys : List α} {A2 : Option Addr} {m c2 B2 : Nat} (s x : Operand) {t : TypeId} (hgd : o.guard = none)
    (ho : o.op = .call { callee := .builtin .append, args := #[s, x], argTypes := #[t, t] }) (he : ElemT P t e sz) (hown : Own w base e sz f v xs) (hs : a.eval s = v) (hx : a.eval x = .slice A2 m c2) (h2 : Slc f sz w B2 A2 ys) (hm : ys.length = m)
    (hf : ∀ x, (f x).length = sz) (h1c : ∀ x, ∀ u ∈ f x, u.oneCell' = true) (hlen : xs.length + m ≤ 1000000000) (hbase : base ≤ w.heap.size)
    (h : ∀ v' w', Own w' base e sz f v' (xs ++ ys) → Below base w w' → w.grownBy w' v.ownBlock → (∀ b, v'.ownBlock = some b → w.heap.size ≤ b ∨ v.ownBlock = some b) → wpList P ops Q rest (a.put o.dst v') w') : wpList P ops Q (o :: rest) a w := by
  obtain ⟨v', w', hr, hO, hg, hv⟩ := run_app_own (P := P) (ty := o.type) he hown h2 hm (c2 := c2) hf h1c hlen hbase
  refine wpList_plain hgd fun K hK => ?_
  unfold Oper.wp
  rw [exec_app ho hs hx hr]
  exact hK _ _ (h v' w' hO ⟨hg.os, hg.tape, hg.output, hg.size, fun k hk => hg.block k (Nat.lt_of_lt_of_le hk hbase) fun he => by have := (World.ownsRow.lt hown k he.symm).1; omega⟩ hg hv)
structure RollsAt (w : World) (base : Nat) (os : List Bt) (R : List (List Int)) : Prop where
  len : os.length = R.length
  in_ : ∀ (i : Nat) b r, os[i]? = some b → R[i]? = some r → b.t = 1 ∧ b.n = r.length ∧ ∃ g, b.A = some ⟨g, 0, none⟩ ∧ base ≤ g ∧ Blk w g 3 (intJ r [])
  apart : ∀ (i j : Nat) b b', os[i]? = some b → os[j]? = some b' → b.A = b'.A → i = j
theorem RollsAt.nil_ (w : World) (base : Nat) : RollsAt w base [] [] := ⟨rfl, fun i b r h => by simp at h, fun i j b b' h => by simp at h⟩
section
variable {w w' : World} {base : Nat} {os : List Bt} {R : List (List Int)}
theorem RollsAt.keep (h : RollsAt w base os R) (hk : ∀ g r, base ≤ g → (∃ (i : Nat) (b : Bt), os[i]? = some b ∧ b.A = some ⟨g, 0, none⟩) → Blk w g 3 (intJ r []) → Blk w' g 3 (intJ r [])) : RollsAt w' base os R :=
  ⟨h.len, fun i b r h1 h2 => by
    obtain ⟨a1, a2, g, a3, a4, a5⟩ := h.in_ i b r h1 h2
    exact ⟨a1, a2, g, a3, a4, hk g r a4 ⟨i, b, h1, a3⟩ a5⟩, h.apart⟩
theorem RollsAt.below (h : RollsAt w base os R) (hb : Below w.heap.size w w') : RollsAt w' base os R := h.keep fun g r _ _ hB => hB.below hb hB.lt
theorem RollsAt.grown {v : Value} {base' : Nat} {os' : List Bt} (h : RollsAt w base os R) (hO : Own w base' 43 2 Bt.enc v os') (hg : w.grownBy w' v.ownBlock) : RollsAt w' base os R := h.keep fun g r _ _ hB => hB.grownv hg (own_ne_blk hO hB (by decide))
theorem RollsAt.at_ (h : RollsAt w base os R) {i : Nat} {r : List Int} (hr : R[i]? = some r) : ∃ g c, os[i]? = some ⟨1, some ⟨g, 0, none⟩, r.length, c⟩ ∧ base ≤ g ∧ Blk w g 3 (intJ r []) := by
  obtain ⟨b, hb⟩ : ∃ b, os[i]? = some b := ⟨_, List.getElem?_eq_getElem (by rw [h.len]; exact (List.getElem?_eq_some_iff.1 hr).1)⟩
  obtain ⟨a1, a2, g, a3, a4, a5⟩ := h.in_ i b r hb hr
  obtain ⟨t, A, n, c⟩ := b
  dsimp only at a1 a2 a3
  subst a1 a2 a3
  exact ⟨g, c, hb, a4, a5⟩
/-- the numbers of one roll are written over -/
theorem RollsAt.put (h : RollsAt w base os R) {i g n c : Nat} {t : Int} {r : List Int} (hi : os[i]? = some ⟨t, some ⟨g, 0, none⟩, n, c⟩) (hr : R[i]? = some r) {r' : List Int} (hl : r'.length = r.length) (hc : Chg (fun k => k = g) w w') (hG : Blk w' g 3 (intJ r' [])) : RollsAt w' base os (R.set i r') := by
  refine ⟨by rw [List.length_set]; exact h.len, fun j b x h1 h2 => ?_, h.apart⟩
  rw [List.getElem?_set] at h2
  by_cases e : i = j
  · subst e
    rw [if_pos rfl, if_pos (List.getElem?_eq_some_iff.1 hr).1] at h2
    injection h2 with h2
    subst h2
    rw [hi] at h1
    injection h1 with h1
    subst h1
    obtain ⟨a1, a2, g', a3, a4, _⟩ := h.in_ i _ r hi hr
    injection a3 with a3
    injection a3 with a3
    subst a3
    exact ⟨a1, by rw [hl]; exact a2, g, rfl, a4, hG⟩
  · rw [if_neg e] at h2
    obtain ⟨a1, a2, g', a3, a4, a5⟩ := h.in_ j b x h1 h2
    refine ⟨a1, a2, g', a3, a4, a5.chg1 hc fun he => ?_⟩
    subst he
    exact e (h.apart i j _ b hi h1 a3.symm)
/-- another block turned -/
theorem RollsAt.chg {g : Nat} (h : RollsAt w base os R) (hc : Chg (fun k => k = g) w w') (hn : ∀ (i : Nat) b, os[i]? = some b → b.A ≠ some ⟨g, 0, none⟩) : RollsAt w' base os R :=
  h.keep fun g' r _ ⟨i, b, h1, h2⟩ hB => hB.chg1 hc fun he => by subst he; exact hn i b h1 h2
theorem RollsAt.lt (h : RollsAt w base os R) {i : Nat} {b : Bt} (hb : os[i]? = some b) : ∃ g, b.A = some ⟨g, 0, none⟩ ∧ g < w.heap.size := by
  obtain ⟨r, hr⟩ : ∃ r, R[i]? = some r := ⟨_, List.getElem?_eq_getElem (by rw [← h.len]; exact (List.getElem?_eq_some_iff.1 hb).1)⟩
  obtain ⟨_, _, g, a3, _, a5⟩ := h.in_ i b r hb hr
  exact ⟨g, a3, a5.lt⟩
theorem RollsAt.snoc (h : RollsAt w base os R) {g c : Nat} {r : List Int} (hg : base ≤ g) (hB : Blk w g 3 (intJ r [])) (hn : ∀ (i : Nat) b, os[i]? = some b → b.A ≠ some ⟨g, 0, none⟩) : RollsAt w base (os ++ [⟨1, some ⟨g, 0, none⟩, r.length, c⟩]) (R ++ [r]) := by
  have hlast : ∀ {j : Nat} {b : Bt}, (os ++ [(⟨1, some ⟨g, 0, none⟩, r.length, c⟩ : Bt)])[j]? = some b → j < os.length ∧ os[j]? = some b ∨ j = os.length ∧ b = ⟨1, some ⟨g, 0, none⟩, r.length, c⟩ := fun {j b} hj => by
    rcases Nat.lt_or_ge j os.length with h1 | h1
    · rw [List.getElem?_append_left h1] at hj
      exact .inl ⟨h1, hj⟩
    · rw [List.getElem?_append_right h1] at hj
      have h2 := (List.getElem?_eq_some_iff.1 hj).1
      simp at h2
      have h3 : j = os.length := by omega
      subst h3
      rw [Nat.sub_self] at hj
      simp at hj
      exact .inr ⟨rfl, hj.symm⟩
  refine ⟨by rw [List.length_append, List.length_append, h.len]; rfl, fun i b x h1 h2 => ?_, fun i j b b' h1 h2 he => ?_⟩
  · rcases hlast h1 with ⟨h3, h4⟩ | ⟨h3, h4⟩
    · rw [List.getElem?_append_left (by rw [← h.len]; exact h3)] at h2
      exact h.in_ i b x h4 h2
    · subst h4 h3
      rw [List.getElem?_append_right (by rw [h.len]; exact Nat.le_refl _), h.len, Nat.sub_self] at h2
      simp at h2
      subst h2
      exact ⟨rfl, rfl, g, rfl, hg, hB⟩
  · rcases hlast h1 with ⟨h3, h4⟩ | ⟨h3, h4⟩ <;> rcases hlast h2 with ⟨h5, h6⟩ | ⟨h5, h6⟩
    · exact h.apart i j b b' h4 h6 he
    · subst h6
      exact absurd he (hn i b h4)
    · subst h4
      exact absurd he.symm (hn j b' h6)
    · omega
theorem RollsAt.plan {A : Option Addr} (h : RollsAt w base os R) (hS : Slc Bt.enc 2 w w.heap.size A os) : PlanAt w A os (batsG R) := by
  refine ⟨hS, by unfold batsG; rw [List.length_map]; exact h.len, fun i b p h1 h2 => ?_⟩
  unfold batsG at h2
  rw [List.getElem?_map] at h2
  obtain ⟨r, hr, rfl⟩ := Option.map_eq_some_iff.1 h2
  obtain ⟨a1, a2, g, a3, _, a5⟩ := h.in_ i b r h1 hr
  exact ⟨a1, a2, by rw [a3]; exact intJ_slc a5⟩
end
theorem putG_step0 {L K : Int} {l : List Ask} {i : Nat} (R : List (List Int)) : putG L K l i R = R.take 0 ++ putG L K l i (R.drop 0) := by simp
theorem putG_next {L K : Int} {l : List Ask} {i k : Nat} {R : List (List Int)} {r : List Int} (h : putG L K l i R = R.take k ++ putG L K l i (R.drop k)) (hr : R[k]? = some r) (hs : ¬ sizeTo K l (bump r i) (bump r i).length ≤ L + K) : putG L K l i R = R.take (k + 1) ++ putG L K l i (R.drop (k + 1)) := by
  obtain ⟨h1, h2⟩ := List.getElem?_eq_some_iff.1 hr
  rw [h, List.drop_eq_getElem_cons h1, h2, putG, if_neg hs, List.take_add_one, hr]
  simp
theorem putG_here {L K : Int} {l : List Ask} {i k : Nat} {R : List (List Int)} {r : List Int} (h : putG L K l i R = R.take k ++ putG L K l i (R.drop k)) (hr : R[k]? = some r) (hs : sizeTo K l (bump r i) (bump r i).length ≤ L + K) : putG L K l i R = R.set k (bump r i) := by
  obtain ⟨h1, h2⟩ := List.getElem?_eq_some_iff.1 hr
  rw [h, List.drop_eq_getElem_cons h1, h2, putG, if_pos hs, List.set_eq_take_append_cons_drop, if_pos h1]
theorem putG_end {L K : Int} {l : List Ask} {i : Nat} {R : List (List Int)} (h : putG L K l i R = R.take R.length ++ putG L K l i (R.drop R.length)) : putG L K l i R = R ++ [(List.replicate l.length 0).set i 1] := by
  rw [h, List.take_length, List.drop_length]; rfl
theorem bump_at {r : List Int} {i : Nat} {v : Int} (h : r[i]? = some v) : bump r i = r.set i (v + 1) := by unfold bump; rw [getD_at h]
theorem set_back {α : Type} {l : List α} {i : Nat} {x : α} (y : α) (h : l[i]? = some x) : (l.set i y).set i x = l := by
  rw [List.set_set]
  obtain ⟨h1, h2⟩ := List.getElem?_eq_some_iff.1 h
  subst h2
  exact List.set_getElem_self h1
def GreedyPost (L K : Int) (l : List Ask) (w : World) (e : Ending) (w' : World) : Prop := ∃ A' c' os, e = .returned (.tuple #[.slice A' (grP L K l).length c', .int .i64 (grE L K l)]) ∧ Below w.heap.size w w' ∧ PlanAt w' A' os (grP L K l)
theorem size_n (L K : Int) (A : Option Addr) (c : Nat) (l : List Ask) (AP : Option Addr) (cP n : Nat) (ps : List Int) (w : World) (hS : Slc Ask.enc 2 w w.heap.size A l) (hP : Slc intEnc 1 w w.heap.size AP ps) (hv : VK L K l) (hpl : ps.length = l.length) (hpb : ∀ p ∈ ps, 0 ≤ p ∧ p ≤ 50) (hn : ps.length = n) {v : Int} (h : sizeTo K l ps ps.length = v) :
    Calls Tryd.prog 19 #[.agg #[.int .i64 L, .int .i64 K, .slice A l.length c], .slice AP n cP] w fun e w' => e = .returned (.int .i64 v) ∧ Below w.heap.size w w' := by
  subst hn; exact size_is L K A c l AP cP ps w hS hP hv hpl hpb h
theorem queue_at {l : List Ask} {p i k : Nat} (hp : (fallG l)[p]? = some i) (hk : k < cntF l i) : (queueG l)[(piecesG l ((fallG l).take p)).length + k]? = some i := by
  obtain ⟨h1, h2⟩ := List.getElem?_eq_some_iff.1 hp
  have e : queueG l = piecesG l ((fallG l).take p) ++ (List.replicate (cntF l i) i ++ piecesG l ((fallG l).drop (p + 1))) := by
    conv => lhs; rw [queueG, ← List.take_append_drop p (fallG l), List.drop_eq_getElem_cons h1, h2, pieces_append, pieces_cons]
  rw [e, List.getElem?_append_right (Nat.le_add_right _ _), Nat.add_sub_cancel_left, List.getElem?_append_left (by simpa using hk), List.getElem?_replicate, if_pos hk]
theorem fall_cell {l : List Ask} {p : Nat} {x : Int} (h : ((fallG l).map fun x : Nat => (x : Int))[p]? = some x) : ∃ i : Nat, x = (i : Int) ∧ (fallG l)[p]? = some i ∧ i < l.length := by
  rw [List.getElem?_map] at h
  obtain ⟨i, hi, rfl⟩ := Option.map_eq_some_iff.1 h
  exact ⟨i, rfl, hi, fall_mem.1 (List.mem_of_getElem? hi)⟩
theorem below_self (X W : World) (h : X = W) : Below X.heap.size X W := by subst h; exact Below.refl _ _
set_option maxRecDepth 100000 in
set_option maxHeartbeats 4000000 in
theorem greedy_any (L K : Int) (A : Option Addr) (c : Nat) (l : List Ask) (w : World) (hS : Slc Ask.enc 2 w w.heap.size A l) :
    Calls Tryd.prog 8 #[.agg #[.int .i64 L, .int .i64 K, .slice A l.length c]] w (GreedyPost L K l w) := by
  have hk := Blk.new w 24 #[.int .i64 L, .int .i64 K, .slice A l.length c]
  have hB := (Below.refl w.heap.size w).alloc (Nat.le_refl _) (.cells #[.int .i64 L, .int .i64 K, .slice A l.length c] 24)
  go_enter Tryd.func8, Tryd.ntmps8
  go_upto_region 1 with fail
  generalize w.alloc (.cells #[.int .i64 L, .int .i64 K, .slice A l.length c] 24) = W at *
  have c0 := hk.cell_ 0 rfl
  have c1 := hk.cell_ 1 rfl
  have c2 := hk.cell_ 2 rfl
  obtain ⟨u, hu⟩ : ∃ u, validK L K l = u := ⟨_, rfl⟩
  have HU := hide hu
  clear hu
  go_wp2_with fail
  refine (kvalidB_is L K A c l _ (hS.on hB) HU.out).mono ?_
  rintro e W ⟨rfl, hb⟩
  clear c0 c1 c2
  replace hk := hk.below hb hk.lt
  replace hB := hB.trans (hb.mono hB.size)
  clear hb
  have c0 := hk.cell_ 0 rfl
  have c1 := hk.cell_ 1 rfl
  have c2 := hk.cell_ 2 rfl
  cases u
  case false =>
    have HE : Hid (grE L K l = 40) := by show _ = _; unfold grE; rw [HU.out]; rfl
    have HP : Hid (grP L K l = []) := by show _ = _; unfold grP; rw [HU.out]; rfl
    go_wp2_with fail
    go_ret2
    exact ⟨none, 0, [], by rw [HP.out, HE.out]; rfl, hB, by rw [HP.out]; exact PlanAt.nil_ _⟩
  have HE : Hid (grE L K l = 0) := by show _ = _; unfold grE; rw [HU.out]; rfl
  have HP : Hid (grP L K l = foldB (greedyP L K l)) := by show _ = _; unfold grP; rw [HU.out]; rfl
  have HV := hide (validK_iff.1 HU.out)
  have hlb := HV.out.hL
  have hkb := HV.out.hK
  have hl8 := HV.out.few
  have HVA := hide HV.out.ask
  have hmk := mk_zeros l.length (by omega)
  have e5 : IntKind.i64.wrap (L + K) = L + K := IntWalk.i64_in _ (by omega)
  go_wp2_with fail
  refine (falling_any L K A c l _ (hS.on hB) HV.out).mono ?_
  rintro e W ⟨AF, kF, rfl, hb, hF⟩
  clear c0 c1 c2
  replace hk := hk.below hb hk.lt
  replace hB := hB.trans (hb.mono hB.size)
  clear hb
  have c0 := hk.cell_ 0 rfl
  have c1 := hk.cell_ 1 rfl
  have c2 := hk.cell_ 2 rfl
  have hWz := hk.lt
  obtain ⟨W0, hW0⟩ : ∃ X : World, X = W := ⟨_, rfl⟩
  have hL := below_self W0 W hW0
  rw [← hW0] at hWz
  have HF : Hid (Slc intEnc 1 W0 W0.heap.size AF ((fallG l).map fun x : Nat => (x : Int))) := by rw [hW0]; exact hF
  have HFL := hide (fall_len l)
  have hO : Own W W0.heap.size 43 2 Bt.enc (.slice none 0 0) [] := Own.nil_
  have hR : RollsAt W W0.heap.size [] (greedyR L K l ((queueG l).take (piecesG l ((fallG l).take 0)).length)) := RollsAt.nil_ _ _
  clear hF hW0
  go_wp2_with fail
  clear c0 c1 c2
  go_loopw [4, 18] (fun v y W => ∃ (p : Nat) (os : List Bt), y = .int .i64 p ∧ p ≤ l.length ∧ Blk W w.heap.size 24 #[.int .i64 L, .int .i64 K, .slice A l.length c] ∧ Own W W0.heap.size 43 2 Bt.enc v os ∧ RollsAt W W0.heap.size os (greedyR L K l ((queueG l).take (piecesG l ((fallG l).take p)).length)) ∧ Below W0.heap.size W0 W ∧ Below w.heap.size w W) (fun v y _ => l.length - (intOf y).toNat)
  case atStart => exact ⟨0, [], rfl, Nat.zero_le _, hk, hO, hR, hL, hB⟩
  case round =>
    clear hk hB hO hR hL
    obtain ⟨W, rfl⟩ : ∃ W : World, W = wr := ⟨_, rfl⟩
    obtain ⟨p, os, rfl, hp, hk, hO, hR, hL, hB⟩ := hrel
    by_cases hlt : p < l.length
    · obtain ⟨x, b1, o1, hx, hA1, _, f0⟩ := ints_at' (HF.out.on hL) (k := p) (by rw [List.length_map, HFL.out]; exact hlt)
      obtain ⟨i, rfl, hfi, hil⟩ := fall_cell hx
      obtain ⟨a, ha⟩ : ∃ a, l[i]? = some a := ⟨_, List.getElem?_eq_getElem hil⟩
      have HFI := hide hfi
      have hac := (HVA.out a (List.mem_of_getElem? ha)).2
      obtain ⟨k0, hk0⟩ : ∃ k : Nat, a.cnt = (k : Int) := ⟨a.cnt.toNat, by omega⟩
      have HCA : Hid (cntF l i = k0) := by show _ = _; rw [cntF_at ha, hk0]; rfl
      have HPS := hide (pieces_snoc (l := l) hfi)
      obtain ⟨a', b2, o2, ha', hA2, _, d0, d1⟩ := ask_at (hS.on hB) hil
      obtain rfl : a' = a := by rw [ha] at ha'; injection ha' with h; exact h.symm
      rw [hk0] at d1
      have hpp : (p : Int) < (l.length : Int) := by omega
      have hii : (i : Int) < (l.length : Int) := by omega
      have hk9 : k0 ≤ 50 := by omega
      clear hx ha ha' hfi hac hk0 d0
      subst hA1 hA2
      have hR : RollsAt W W0.heap.size os (greedyR L K l ((queueG l).take ((piecesG l ((fallG l).take p)).length + 0))) := hR
      have c0 := hk.cell_ 0 rfl
      have c1 := hk.cell_ 1 rfl
      have c2 := hk.cell_ 2 rfl
      go_wp2_with fail
      go_step3
      go_wp2_with fail
      go_step3
      go_wp2_with fail
      show Code.wp Tryd.prog _ _ _ _
      clear c0 c1 c2
      go_loopw [4, 28] (fun v y W => ∃ (k : Nat) (os : List Bt), y = .int .i64 k ∧ k ≤ k0 ∧ Blk W w.heap.size 24 #[.int .i64 L, .int .i64 K, .slice (some ⟨b2, o2, none⟩) l.length c] ∧ Own W W0.heap.size 43 2 Bt.enc v os ∧ RollsAt W W0.heap.size os (greedyR L K l ((queueG l).take ((piecesG l ((fallG l).take p)).length + k))) ∧ Below W0.heap.size W0 W ∧ Below w.heap.size w W) (fun v y _ => k0 - (intOf y).toNat)
      case atStart => exact ⟨0, os, rfl, Nat.zero_le _, hk, hO, hR, hL, hB⟩
      case round =>
        clear hk hB hO hR hL f0 d1
        obtain ⟨W, rfl⟩ : ∃ W : World, W = wr := ⟨_, rfl⟩
        obtain ⟨k, os, rfl, hk9, hk, hO, hR, hL, hB⟩ := hrel
        by_cases hkl : k < k0
        · have hq := queue_at HFI.out (k := k) (by rw [HCA.out]; exact hkl)
          have HNX := hide (greedy_snoc (L := L) (K := K) (l := l) hq)
          have HBO : Hid (∀ r ∈ greedyR L K l ((queueG l).take ((piecesG l ((fallG l).take p)).length + k)), ∀ p ∈ bump r i, 0 ≤ p ∧ p ≤ 50) := fun r hr => (bump_ok HV.out hq hr).2
          obtain ⟨hgi, _, hRl⟩ := greedy_at HV.out ((piecesG l ((fallG l).take p)).length + k)
          have HRL := hide hgi.len
          obtain ⟨R, hRe⟩ : ∃ R, greedyR L K l ((queueG l).take ((piecesG l ((fallG l).take p)).length + k)) = R := ⟨_, rfl⟩
          rw [hRe] at hR HNX HBO HRL hRl
          have hkk : (k : Int) < (k0 : Int) := by omega
          clear hq hgi hRe
          obtain ⟨Ao, co, rfl, _⟩ := hO.form fun _ => rfl
          have hos : os.length ≤ 400 := by rw [hR.len]; exact hRl
          have HP0 := hide (putG_step0 (L := L) (K := K) (l := l) (i := i) R)
          have c0 := hk.cell_ 0 rfl
          have c1 := hk.cell_ 1 rfl
          have c2 := hk.cell_ 2 rfl
          go_wp2_with fail
          show Code.wp Tryd.prog _ _ _ _
          clear c0 c1 c2
          go_loopw [32] (fun y W => ∃ (q : Nat), y = .int .i64 q ∧ q ≤ os.length ∧ Hid (putG L K l i R = R.take q ++ putG L K l i (R.drop q)) ∧ Blk W w.heap.size 24 #[.int .i64 L, .int .i64 K, .slice (some ⟨b2, o2, none⟩) l.length c] ∧ Own W W0.heap.size 43 2 Bt.enc (.slice Ao os.length co) os ∧ RollsAt W W0.heap.size os R ∧ Below W0.heap.size W0 W ∧ Below w.heap.size w W) (fun y _ => os.length - (intOf y).toNat)
          case atStart => exact ⟨0, rfl, Nat.zero_le _, HP0, hk, hO, hR, hL, hB⟩
          case round =>
            clear hk hB hO hR hL HP0
            obtain ⟨W, rfl⟩ : ∃ W : World, W = wr := ⟨_, rfl⟩
            obtain ⟨q, rfl, hq9, HPQ, hk, hO, hR, hL, hB⟩ := hrel
            by_cases hql : q < os.length
            · obtain ⟨r, hr⟩ : ∃ r, R[q]? = some r := ⟨_, List.getElem?_eq_getElem (by rw [← hR.len]; exact hql)⟩
              obtain ⟨g, cg, hog, hge, hG⟩ := hR.at_ hr
              obtain ⟨x, b3, o3, hx3, hA3, _, d0, d1⟩ := bt_at (hO.slc fun _ => rfl) hql
              obtain rfl : (⟨1, some ⟨g, 0, none⟩, r.length, cg⟩ : Bt) = x := by rw [hog] at hx3; injection hx3
              dsimp only at d0 d1
              have hrl := HRL.out r (List.mem_of_getElem? hr)
              obtain ⟨v, hv⟩ : ∃ v, r[i]? = some v := ⟨_, List.getElem?_eq_getElem (by rw [hrl]; exact hil)⟩
              have hbo := HBO.out r (List.mem_of_getElem? hr)
              have hvb : 0 ≤ v + 1 ∧ v + 1 ≤ 50 := by
                rw [bump_at hv] at hbo
                exact hbo (v + 1) (List.mem_of_getElem? (List.getElem?_set_self (by rw [hrl]; exact hil)))
              have HBU := hide (bump_at hv)
              have HBO1 := hide hbo
              have HVI := hide hv
              have HRQ := hide hr
              have HOG := hide hog
              have HBL : Hid ((bump r i).length = l.length) := by show _ = _; rw [bump_len, hrl]
              have HBN : Hid ((bump r i).length = r.length) := bump_len r i
              have HIL : Hid (i < (intJ r []).size) := intJ_lt (by rw [hrl]; exact hil)
              have HIR : Hid (i < r.length) := by show _ < _; rw [hrl]; exact hil
              have hqq : (q : Int) < (os.length : Int) := by omega
              have hir : (i : Int) < (r.length : Int) := by rw [hrl]; exact hii
              have e6 : IntKind.i64.wrap (v + 1) = v + 1 := IntWalk.i64_in _ (by omega)
              have hLs := hL.size
              obtain ⟨s, hs⟩ : ∃ s, sizeTo K l (bump r i) (bump r i).length = s := ⟨_, rfl⟩
              have HSZ := hide hs
              clear hr hog hx3 hv hbo hrl hs
              subst hA3
              have c0 := hk.cell_ 0 rfl
              have c1 := hk.cell_ 1 rfl
              have c2 := hk.cell_ 2 rfl
              have q_c0 := (hk.alloc (.cells #[.int .i64 1, .slice (some ⟨g, 0, none⟩) r.length cg] 43)).cell_ 0 rfl
              have q_c1 := (hk.alloc (.cells #[.int .i64 1, .slice (some ⟨g, 0, none⟩) r.length cg] 43)).cell_ 1 rfl
              have q_c2 := (hk.alloc (.cells #[.int .i64 1, .slice (some ⟨g, 0, none⟩) r.length cg] 43)).cell_ 2 rfl
              go_upto_region 12 with fail
              clear q_c0 q_c1 q_c2
              clear c0 c1 c2
              have hm := Blk.new W 43 #[.int .i64 1, .slice (some ⟨g, 0, none⟩) r.length cg]
              replace hk := hk.alloc (.cells #[.int .i64 1, .slice (some ⟨g, 0, none⟩) r.length cg] 43)
              replace hO := hO.alloc (.cells #[.int .i64 1, .slice (some ⟨g, 0, none⟩) r.length cg] 43)
              replace hR := hR.below ((Below.refl _ W).alloc (Nat.le_refl _) (.cells #[.int .i64 1, .slice (some ⟨g, 0, none⟩) r.length cg] 43))
              replace hL := hL.trans (((Below.refl _ W).alloc (Nat.le_refl _) (.cells #[.int .i64 1, .slice (some ⟨g, 0, none⟩) r.length cg] 43)).mono (by first | exact Nat.le_refl _ | exact hL.size))
              replace hG := hG.alloc (.cells #[.int .i64 1, .slice (some ⟨g, 0, none⟩) r.length cg] 43)
              have hsz_bx : (W.alloc (.cells #[.int .i64 1, .slice (some ⟨g, 0, none⟩) r.length cg] 43)).heap.size = W.heap.size + 1 := by simp
              have bxge := hB.size
              replace hB := hB.alloc hB.size (.cells #[.int .i64 1, .slice (some ⟨g, 0, none⟩) r.length cg] 43)
              generalize hbx : W.heap.size = bx at *
              generalize W.alloc (.cells #[.int .i64 1, .slice (some ⟨g, 0, none⟩) r.length cg] 43) = W at *
              clear hbx
              have c0 := hk.cell_ 0 rfl
              have c1 := hk.cell_ 1 rfl
              have c2 := hk.cell_ 2 rfl
              have m0 := hm.cell_ 0 rfl
              have m1 := hm.cell_ 1 rfl
              clear d0 d1
              have g0 := hG.cell_ i (intJ_get HVI.out)
              go_upto_region 13 with (refine wpList_store_at rfl 3 _ _ rfl (.int .i64 (v + 1)) hG rfl rfl (by kernel_rfl) rfl HIL.out rfl ?_; intro W1 hG1 hc1)
              have hgrow : W.grownBy W1 (some g) := ⟨hc1.os, hc1.tape, hc1.output, hc1.size, fun k hk hne => hc1.block k hk fun e => hne (by rw [e])⟩
              have hO1 := own_kept hO hgrow fun b hb he => by injection he with he; exact own_ne_blk hO hG (by decide) b hb he
              have hm1 := hm.chg1 hc1 (hm.ne_ hG (by decide))
              have hk1 := hk.chg1 hc1 (by omega)
              have hL1 := hL.trans (hc1.below1 hL.size hge)
              have hB1 := hB.trans (hc1.below1 hB.size (by omega))
              clear hgrow hO hm hk hL hB hG c0 c1 c2 m0 m1 g0
              have hO := hO1
              have hm := hm1
              have hk := hk1
              have hL := hL1
              have hB := hB1
              clear hO1 hm1 hk1 hL1 hB1
              try dsimp only [Act.put]
              rw [intJ_set HIR.out, ← HBU.out] at hG1
              replace hR := hR.put HOG.out HRQ.out HBN.out hc1 hG1
              have hG := hG1
              clear hc1 hG1
              obtain ⟨W, rfl⟩ : ∃ X : World, X = W1 := ⟨_, rfl⟩
              have T1 := hide (hS.on hB)
              have T2 := hide (intJ_slc hG)
              have c0 := hk.cell_ 0 rfl
              have c1 := hk.cell_ 1 rfl
              have c2 := hk.cell_ 2 rfl
              have m0 := hm.cell_ 0 rfl
              have m1 := hm.cell_ 1 rfl
              go_wp2_with fail
              refine wp_region_quiet (C := fun w' => ∃ u : Since W, w' = u.w) (by kernel_rfl) (by kernel_rfl) (Since.start W) ?_
              dsimp only
              have y_c0 := Since.cell c0
              have y_c1 := Since.cell c1
              have y_c2 := Since.cell c2
              have y_m0 := Since.cell m0
              have y_m1 := Since.cell m1
              clear c0 c1 c2 m0 m1
              repeat (go_big_quiet_step ((go_at_call 19; exact Since.calls (size_n L K (some ⟨b2, o2, none⟩) c l (some ⟨g, 0, none⟩) cg r.length (bump r i) _ (Slc.on T1.out (Since.h _)) (Slc.on T2.out (Since.h _)) HV.out HBL.out HBO1.out HBN.out HSZ.out))))
              refine wpQuiet_nil ?_
              rintro W ⟨⟨_, hb⟩, rfl⟩
              try dsimp only at hb ⊢
              clear y_c0 y_c1 y_c2 y_m0 y_m1
              replace hk := hk.below hb hk.lt
              replace hO := hO.below hb
              replace hR := hR.below hb
              replace hL := hL.trans (hb.mono (by first | exact Nat.le_refl _ | exact hL.size))
              replace hG := hG.below hb hG.lt
              replace hm := hm.below hb hm.lt
              replace hB := hB.trans (hb.mono hB.size)
              clear hb
              have c0 := hk.cell_ 0 rfl
              have c1 := hk.cell_ 1 rfl
              have c2 := hk.cell_ 2 rfl
              have m0 := hm.cell_ 0 rfl
              have m1 := hm.cell_ 1 rfl
              by_cases hsl : s ≤ L + K
              · have HPX := hide (putG_here HPQ.out HRQ.out (by rw [HSZ.out]; exact hsl))
                have hR2 : RollsAt W W0.heap.size os (greedyR L K l ((queueG l).take ((piecesG l ((fallG l).take p)).length + (k + 1)))) := by
                  rw [← Nat.add_assoc, HNX.out, HPX.out]; exact hR
                clear hR
                go_wp2_with fail
                go_roundw
                case rel => exact ⟨k + 1, os, by go_num, by omega, hk, hO, hR2, hL, hB⟩
                case measure => simp [intOf]; omega
              · have HPX := hide (putG_next HPQ.out HRQ.out (by rw [HSZ.out]; exact hsl))
                have HVB : Hid ((bump r i)[i]? = some (v + 1)) := by show _ = _; rw [HBU.out]; exact List.getElem?_set_self HIR.out
                have e7 : IntKind.i64.wrap (v + 1 - 1) = v := by rw [show v + 1 - 1 = v by omega]; exact IntWalk.i64_in _ (by omega)
                have g0 := hG.cell_ i (intJ_get HVB.out)
                have HIL : Hid (i < (intJ (bump r i) []).size) := intJ_lt (by rw [HBN.out]; exact HIR.out)
                go_upto_region 15 with (refine wpList_store_at rfl 3 _ _ rfl (.int .i64 (v)) hG rfl rfl (by kernel_rfl) rfl HIL.out rfl ?_; intro W1 hG1 hc1)
                have hgrow : W.grownBy W1 (some g) := ⟨hc1.os, hc1.tape, hc1.output, hc1.size, fun k hk hne => hc1.block k hk fun e => hne (by rw [e])⟩
                have hO1 := own_kept hO hgrow fun b hb he => by injection he with he; exact own_ne_blk hO hG (by decide) b hb he
                have hm1 := hm.chg1 hc1 (hm.ne_ hG (by decide))
                have hk1 := hk.chg1 hc1 (by omega)
                have hL1 := hL.trans (hc1.below1 hL.size hge)
                have hB1 := hB.trans (hc1.below1 hB.size (by omega))
                clear hgrow hO hm hk hL hB hG c0 c1 c2 m0 m1 g0
                have hO := hO1
                have hm := hm1
                have hk := hk1
                have hL := hL1
                have hB := hB1
                clear hO1 hm1 hk1 hL1 hB1
                try dsimp only [Act.put]
                rw [intJ_set (by rw [HBN.out]; exact HIR.out), HBU.out, set_back (v + 1) HVI.out] at hG1
                replace hR := hR.put HOG.out (List.getElem?_set_self (List.getElem?_eq_some_iff.1 HRQ.out).1) HBN.out.symm hc1 hG1
                rw [set_back _ HRQ.out] at hR
                clear hc1 hG1
                go_wp2_with fail
                go_roundw
                case rel => exact ⟨q + 1, by go_num, by omega, HPX, hk, hO, hR, hL, hB⟩
                case measure => simp [intOf]; omega
            · obtain rfl : q = os.length := by omega
              have HPE : Hid (putG L K l i R = R ++ [(List.replicate l.length 0).set i 1]) := by
                have h := HPQ.out
                rw [hR.len] at h
                exact putG_end h
              have HRN := hide hR
              have hz1 : (W.alloc (.cells (intJ (List.replicate l.length 0) []) 3)).heap.size = W.heap.size + 1 := by simp
              have hb2 : Below W.heap.size W ((W.alloc (.cells (intJ (List.replicate l.length 0) []) 3)).alloc (.cells #[.int .i64 1, .slice (some ⟨W.heap.size, 0, none⟩) l.length l.length] 43)) := ((Below.refl _ W).alloc (Nat.le_refl _) _).alloc (by omega) _
              have hM := (Blk.new W 3 (intJ (List.replicate l.length 0) [])).alloc (.cells #[.int .i64 1, .slice (some ⟨W.heap.size, 0, none⟩) l.length l.length] 43)
              have hm := Blk.new (W.alloc (.cells (intJ (List.replicate l.length 0) []) 3)) 43 #[.int .i64 1, .slice (some ⟨W.heap.size, 0, none⟩) l.length l.length]
              rw [hz1] at hm
              have HNG : Hid (∀ (j : Nat) b, os[j]? = some b → b.A ≠ some ⟨W.heap.size, 0, none⟩) := fun j b hb he => by
                obtain ⟨g, h1, h2⟩ := hR.lt hb
                rw [h1] at he
                injection he with he
                injection he with he
                omega
              have hLs := hL.size
              have c0 := hk.cell_ 0 rfl
              have c1 := hk.cell_ 1 rfl
              have c2 := hk.cell_ 2 rfl
              go_upto_region 17 with fail
              replace hk := hk.below hb2 hk.lt
              replace hO := hO.below hb2
              replace hR := hR.below hb2
              replace hL := hL.trans (hb2.mono hL.size)
              replace hB := hB.trans (hb2.mono hB.size)
              clear hz1 hb2 c0 c1 c2 hmk
              generalize (W.alloc (.cells (intJ (List.replicate l.length 0) []) 3)).alloc (.cells #[.int .i64 1, .slice (some ⟨W.heap.size, 0, none⟩) l.length l.length] 43) = W2 at *
              generalize W.heap.size = g at *
              obtain ⟨W, rfl⟩ : ∃ X : World, X = W2 := ⟨_, rfl⟩
              have hG := hM
              clear hM
              have m1 := hm.cell_ 1 rfl
              have m0 := hm.cell_ 0 rfl
              have c0 := hk.cell_ 0 rfl
              have c1 := hk.cell_ 1 rfl
              have c2 := hk.cell_ 2 rfl
              have g0 := hG.cell_ i (intJ_get (l := List.replicate l.length 0) (v := 0) (by rw [List.getElem?_replicate, if_pos hil]))
              have HIL : Hid (i < (intJ (List.replicate l.length 0) []).size) := intJ_lt (by rw [List.length_replicate]; exact hil)
              have hge := hLs
              go_upto_region 18 with (refine wpList_store_at rfl 3 _ _ rfl (.int .i64 (1)) hG rfl rfl (by kernel_rfl) rfl HIL.out rfl ?_; intro W1 hG1 hc1)
              have hgrow : W.grownBy W1 (some g) := ⟨hc1.os, hc1.tape, hc1.output, hc1.size, fun k hk hne => hc1.block k hk fun e => hne (by rw [e])⟩
              have hO1 := own_kept hO hgrow fun b hb he => by injection he with he; exact own_ne_blk hO hG (by decide) b hb he
              have hm1 := hm.chg1 hc1 (hm.ne_ hG (by decide))
              have hk1 := hk.chg1 hc1 (by omega)
              have hL1 := hL.trans (hc1.below1 hL.size hge)
              have hB1 := hB.trans (hc1.below1 hB.size (by omega))
              clear hgrow hO hm hk hL hB hG c0 c1 c2 m0 m1 g0
              have hO := hO1
              have hm := hm1
              have hk := hk1
              have hL := hL1
              have hB := hB1
              clear hO1 hm1 hk1 hL1 hB1
              try dsimp only [Act.put]
              rw [intJ_set (by rw [List.length_replicate]; exact hil)] at hG1
              replace hR := hR.chg hc1 HNG.out
              clear hc1
              obtain ⟨W, rfl⟩ : ∃ X : World, X = W1 := ⟨_, rfl⟩
              have m0 := hm.cell_ 0 rfl
              have m1 := hm.cell_ 1 rfl
              have hz3 := hL.size
              go_wp2_with (at_builtin; refine wpList_app_own3 (base := W0.heap.size) (f := Bt.enc) (ys := [(⟨1, some ⟨g, 0, none⟩, l.length, l.length⟩ : Bt)]) _ _ rfl rfl et_batch (hO.alloc _) rfl rfl ((Blk.new W 43 #[.int .i64 1, .slice (some ⟨g, 0, none⟩) l.length l.length]).slc1 rfl) rfl (fun _ => rfl) bt_one (by simp <;> omega) (by simp <;> omega) ?_; intro v4 W4 o4 hb4 hg4 hv4)
              have hBW4 : Below W0.heap.size W W4 := ((Below.refl _ W).alloc hz3 (.cells #[.int .i64 1, .slice (some ⟨g, 0, none⟩) l.length l.length] 43)).trans hb4
              have hR3 := (hR.below ((Below.refl _ W).alloc (Nat.le_refl _) (.cells #[.int .i64 1, .slice (some ⟨g, 0, none⟩) l.length l.length] 43))).grown (hO.alloc (.cells #[.int .i64 1, .slice (some ⟨g, 0, none⟩) l.length l.length] 43)) hg4
              have hG4 := (hG1.alloc (.cells #[.int .i64 1, .slice (some ⟨g, 0, none⟩) l.length l.length] 43)).grownv hg4 (own_ne_blk (hO.alloc (.cells #[.int .i64 1, .slice (some ⟨g, 0, none⟩) l.length l.length] 43)) (hG1.alloc (.cells #[.int .i64 1, .slice (some ⟨g, 0, none⟩) l.length l.length] 43)) (by decide))
              have hR4 := hR3.snoc (c := l.length) hge hG4 HNG.out
              rw [show ((List.replicate l.length (0 : Int)).set i 1).length = l.length by simp, ← HPE.out, ← HNX.out] at hR4
              have hk4 := hk.below hBW4 hWz
              have hL4 := hL.trans hBW4
              have hB4 := hB.trans (hBW4.mono (Nat.le_of_lt hWz))
              clear hR hR3 hG1 hG4 hO hm hk hL hB hb4 hg4 hv4 hBW4
              go_roundw
              case rel => exact ⟨k + 1, _, by go_num, by omega, hk4, o4, hR4, hL4, hB4⟩
              case measure => simp [intOf]; omega
        · obtain rfl : k = k0 := by omega
          have hR2 : RollsAt W W0.heap.size os (greedyR L K l ((queueG l).take (piecesG l ((fallG l).take (p + 1))).length)) := by rw [HPS.out, List.length_append, List.length_replicate, HCA.out]; exact hR
          have c0 := hk.cell_ 0 rfl
          have c1 := hk.cell_ 1 rfl
          have c2 := hk.cell_ 2 rfl
          go_wp2_with fail
          refine ‹∀ (a : Act) (w : World), Code.wp Tryd.prog (Code.region 20 _ _) _ a w → _› _ _ ?_
          go_wp2_with fail
          go_roundw
          case rel => exact ⟨p + 1, _, by go_num, by omega, hk, hO, hR2, hL, hB⟩
          case measure => simp [intOf]; omega
    · obtain rfl : p = l.length := by omega
      have hQF : (queueG l).take (piecesG l ((fallG l).take l.length)).length = queueG l := by
        rw [← HFL.out, List.take_length]
        exact List.take_length
      rw [hQF] at hR
      obtain ⟨Ao, co, rfl, hSo⟩ := hO.form fun _ => rfl
      have hPl : PlanAt W Ao os (greedyP L K l) := hR.plan hSo
      have hlen := hPl.len
      have HCK := hide (canon_ok (greedy_chk HU.out))
      rw [hlen]
      clear hO hR hSo hQF hlen
      have c0 := hk.cell_ 0 rfl
      have c1 := hk.cell_ 1 rfl
      have c2 := hk.cell_ 2 rfl
      go_wp2_with fail
      refine (canonical_any Ao co os (greedyP L K l) _ hPl HCK.out.1 HCK.out.2).mono ?_
      rintro e W2 ⟨A2, k2, os2, rfl, hb2, hQ⟩
      have hB2 := hB.trans (hb2.mono hB.size)
      clear hk hB hL hb2 hPl c0 c1 c2
      go_wp2_with fail
      go_ret2
      exact ⟨A2, k2, os2, by rw [HP.out, HE.out]; rfl, hB2, by rw [HP.out]; exact hQ⟩
end Go.Proofs.YtkcfalehebacpaaDoor

/- Greedy of the reference, and CutGreedy: the walks. -/
namespace Go.Proofs.YtkcfalehebacpaaDoor
open Go Go.RowKit
theorem shaped_m_ok {L K : Int} {l : List Ask} {pl : List Bat} (h : chkE L K l pl = 0) : pl.length ≤ 1000 ∧ l.length ≤ 1000 ∧ ∀ b ∈ pl, (1 ≤ b.t ∧ b.t ≤ 1000) ∧ b.ps.length = l.length := by
  obtain ⟨h1, h2, h3⟩ := chk_zero h
  refine ⟨shaped_few h2, by have := (validK_iff.1 h1).few; omega, fun b hb => ?_⟩
  obtain ⟨i, hi⟩ := List.getElem?_of_mem hb
  exact shaped_at h2 hi
theorem refFits_n (L K : Int) (A : Option Addr) (c : Nat) (l : List Ask) (AP : Option Addr) (cP n : Nat) (ps : List Int) (w : World) (hS : Slc Ask.enc 2 w w.heap.size A l) (hP : Slc intEnc 1 w w.heap.size AP ps) (hv : VK L K l) (hpl : ps.length = l.length) (hn : ps.length = n) {v : Bool} (h : fitsB L K l ps = v) :
    Calls Tryd.prog 23 #[.agg #[.int .i64 L, .int .i64 K, .slice A l.length c], .slice AP n cP] w fun e w' => e = .returned (.bool v) ∧ Below w.heap.size w w' := by
  subst hn h; exact refKFits_any L K A c l AP cP ps w hS hP hv hpl
theorem queue_cell {l : List Ask} {m : Nat} {x : Int} (h : ((queueG l).map fun x : Nat => (x : Int))[m]? = some x) : ∃ i : Nat, x = (i : Int) ∧ (queueG l)[m]? = some i ∧ i < l.length := by
  rw [List.getElem?_map] at h
  obtain ⟨i, hi, rfl⟩ := Option.map_eq_some_iff.1 h
  exact ⟨i, rfl, hi, queue_mem (List.mem_of_getElem? hi)⟩
/-- where the search for a roll stands: nothing found yet at roll q, or put -/
def GSt (L K : Int) (l : List Ask) (i : Nat) (R : List (List Int)) (d : Bool) (q : Nat) (R' : List (List Int)) : Prop :=
  (d = false → R' = R ∧ q ≤ R.length ∧ putG L K l i R = R.take q ++ putG L K l i (R.drop q)) ∧ (d = true → R' = putG L K l i R) ∧ q ≤ R.length + 1
theorem fits_bump {L K : Int} {l : List Ask} {r : List Int} {i : Nat} (h : ∀ p ∈ bump r i, 0 ≤ p ∧ p ≤ 50) : fitsB L K l (bump r i) = decide (sizeTo K l (bump r i) (bump r i).length ≤ L + K) := by
  unfold fitsB
  rw [okP_iff.2 h, Bool.true_and]
theorem zero_bump {l : List Ask} {i : Nat} (hi : i < l.length) : bump (List.replicate l.length 0) i = (List.replicate l.length 0).set i 1 := bump_at (v := 0) (by rw [List.getElem?_replicate, if_pos hi])
theorem zero_low {l : List Ask} {i : Nat} (hi : i < l.length) : ∀ p ∈ bump (List.replicate l.length 0) i, 0 ≤ p ∧ p ≤ 50 := fun p hp => by
  rw [zero_bump hi] at hp
  rcases List.mem_or_eq_of_mem_set hp with h | h
  · rw [(List.mem_replicate.1 h).2]; omega
  · omega
theorem zero_fits {L K : Int} {l : List Ask} (hv : VK L K l) {i : Nat} (hi : i < l.length) : fitsB L K l (bump (List.replicate l.length 0) i) = true := by
  rw [fits_bump (zero_low hi), decide_eq_true_eq, bump_len, List.length_replicate, zero_bump hi]
  exact fresh_size hv hi
theorem grP_small {L K : Int} {l : List Ask} : (grP L K l).length ≤ 100000 ∧ ∀ b ∈ grP L K l, b.ps.length ≤ 100000 := by
  cases h : validK L K l
  · have e : grP L K l = [] := by unfold grP; rw [h]; rfl
    rw [e]
    exact ⟨by simp, fun b hb => by cases hb⟩
  · obtain ⟨h1, h2⟩ := canon_ok (greedy_right h)
    exact ⟨by omega, fun b hb => by have := (h2 b hb).2.1; omega⟩
end Go.Proofs.YtkcfalehebacpaaDoor

/- TopBound: the walk. -/
namespace Go.Proofs.YtkcfalehebacpaaDoor
open Go Go.RowKit
set_option maxRecDepth 100000 in
set_option maxHeartbeats 4000000 in
theorem bound_walk (L K : Int) (A : Option Addr) (c : Nat) (l : List Ask) (AP : Option Addr) (cP : Nat) (ps : List Int) (AB : Option Addr) (cB : Nat) (bs : List Bt) (pl : List Bat) (w : World) (hS : Slc Ask.enc 2 w w.heap.size A l) (hP : Slc intEnc 1 w w.heap.size AP ps) (hQ : PlanAt w AB bs pl) :
    Calls Tryd.prog 3 #[.agg #[.int .i64 L, .int .i64 K, .slice A l.length c, .slice AP ps.length cP, .slice AB pl.length cB]] w fun e w' => e = .returned (.bool true) ∧ Below w.heap.size w w' := by
  have hkv := Blk.new w 28 #[.int .i64 L, .int .i64 K, .slice A l.length c, .slice AP ps.length cP, .slice AB pl.length cB]
  have hB := (Below.refl w.heap.size w).alloc (Nat.le_refl _) (.cells #[.int .i64 L, .int .i64 K, .slice A l.length c, .slice AP ps.length cP, .slice AB pl.length cB] 28)
  go_enter Tryd.func3, Tryd.ntmps3
  go_upto_region 1 with fail
  generalize w.alloc (.cells #[.int .i64 L, .int .i64 K, .slice A l.length c, .slice AP ps.length cP, .slice AB pl.length cB] 28) = W at *
  have v0 := hkv.cell_ 0 rfl
  have v1 := hkv.cell_ 1 rfl
  have v2 := hkv.cell_ 2 rfl
  have v3 := hkv.cell_ 3 rfl
  have v4 := hkv.cell_ 4 rfl
  have q_v0 := (hkv.alloc (.cells #[.int .i64 L, .int .i64 K, .slice A l.length c] 24)).cell_ 0 rfl
  have q_v1 := (hkv.alloc (.cells #[.int .i64 L, .int .i64 K, .slice A l.length c] 24)).cell_ 1 rfl
  have q_v2 := (hkv.alloc (.cells #[.int .i64 L, .int .i64 K, .slice A l.length c] 24)).cell_ 2 rfl
  have q_v3 := (hkv.alloc (.cells #[.int .i64 L, .int .i64 K, .slice A l.length c] 24)).cell_ 3 rfl
  have q_v4 := (hkv.alloc (.cells #[.int .i64 L, .int .i64 K, .slice A l.length c] 24)).cell_ 4 rfl
  go_wp2_with fail
  clear q_v0 q_v1 q_v2 q_v3 q_v4
  clear v0 v1 v2 v3 v4
  have hk := Blk.new W 24 #[.int .i64 L, .int .i64 K, .slice A l.length c]
  replace hkv := hkv.alloc (.cells #[.int .i64 L, .int .i64 K, .slice A l.length c] 24)
  replace hB := hB.alloc hB.size (.cells #[.int .i64 L, .int .i64 K, .slice A l.length c] 24)
  generalize W.alloc (.cells #[.int .i64 L, .int .i64 K, .slice A l.length c] 24) = W at *
  have v0 := hkv.cell_ 0 rfl
  have v1 := hkv.cell_ 1 rfl
  have v2 := hkv.cell_ 2 rfl
  have v3 := hkv.cell_ 3 rfl
  have v4 := hkv.cell_ 4 rfl
  have c0 := hk.cell_ 0 rfl
  have c1 := hk.cell_ 1 rfl
  have c2 := hk.cell_ 2 rfl
  have v0 := hkv.cell_ 0 rfl
  have v1 := hkv.cell_ 1 rfl
  have v2 := hkv.cell_ 2 rfl
  have v3 := hkv.cell_ 3 rfl
  have v4 := hkv.cell_ 4 rfl
  have c0 := hk.cell_ 0 rfl
  have c1 := hk.cell_ 1 rfl
  have c2 := hk.cell_ 2 rfl
  obtain ⟨v, hv⟩ : ∃ v, wideP l.length bs = v := ⟨_, rfl⟩
  have HV := hide hv
  go_wp2_with fail
  refine (wide_is L K A c l AB cB pl.length bs _ (hQ.on hB).row hQ.len HV.out).mono ?_
  rintro e W ⟨rfl, hb⟩
  clear v0 v1 v2 v3 v4 c0 c1 c2
  replace hkv := hkv.below hb hkv.lt
  replace hk := hk.below hb hk.lt
  replace hB := hB.trans (hb.mono hB.size)
  clear hb
  have v0 := hkv.cell_ 0 rfl
  have v1 := hkv.cell_ 1 rfl
  have v2 := hkv.cell_ 2 rfl
  have v3 := hkv.cell_ 3 rfl
  have v4 := hkv.cell_ 4 rfl
  have c0 := hk.cell_ 0 rfl
  have c1 := hk.cell_ 1 rfl
  have c2 := hk.cell_ 2 rfl
  cases v
  case true =>
    go_wp2_with fail
    refine (kawake_any _).mono ?_
    rintro e W ⟨rfl, hb⟩
    clear v0 v1 v2 v3 v4 c0 c1 c2
    replace hkv := hkv.below hb hkv.lt
    replace hk := hk.below hb hk.lt
    replace hB := hB.trans (hb.mono hB.size)
    clear hb
    have v0 := hkv.cell_ 0 rfl
    have v1 := hkv.cell_ 1 rfl
    have v2 := hkv.cell_ 2 rfl
    have v3 := hkv.cell_ 3 rfl
    have v4 := hkv.cell_ 4 rfl
    have c0 := hk.cell_ 0 rfl
    have c1 := hk.cell_ 1 rfl
    have c2 := hk.cell_ 2 rfl
    go_wp2_with fail
    go_ret
    exact ⟨rfl, hB⟩
  have hl : pl.length ≤ 100000 := by
    unfold wideP at hv
    simp only [Bool.or_eq_false_iff, decide_eq_false_iff_not] at hv
    have := hQ.len
    omega
  clear hv
  by_cases h30 : (30 : Int) < (ps.length : Int)
  · go_wp2_with fail
    refine (kawake_any _).mono ?_
    rintro e W ⟨rfl, hb⟩
    clear v0 v1 v2 v3 v4 c0 c1 c2
    replace hkv := hkv.below hb hkv.lt
    replace hk := hk.below hb hk.lt
    replace hB := hB.trans (hb.mono hB.size)
    clear hb
    have v0 := hkv.cell_ 0 rfl
    have v1 := hkv.cell_ 1 rfl
    have v2 := hkv.cell_ 2 rfl
    have v3 := hkv.cell_ 3 rfl
    have v4 := hkv.cell_ 4 rfl
    have c0 := hk.cell_ 0 rfl
    have c1 := hk.cell_ 1 rfl
    have c2 := hk.cell_ 2 rfl
    go_wp2_with fail
    go_ret
    exact ⟨rfl, hB⟩
  obtain ⟨u, hu⟩ : ∃ u, validK L K l = u := ⟨_, rfl⟩
  have HV0 := hide hu
  clear hu
  go_wp2_with fail
  refine (refKValidD_is L K A c l _ (hS.on hB) HV0.out).mono ?_
  rintro e W ⟨rfl, hb⟩
  clear v0 v1 v2 v3 v4 c0 c1 c2
  replace hkv := hkv.below hb hkv.lt
  replace hk := hk.below hb hk.lt
  replace hB := hB.trans (hb.mono hB.size)
  clear hb
  have v0 := hkv.cell_ 0 rfl
  have v1 := hkv.cell_ 1 rfl
  have v2 := hkv.cell_ 2 rfl
  have v3 := hkv.cell_ 3 rfl
  have v4 := hkv.cell_ 4 rfl
  have c0 := hk.cell_ 0 rfl
  have c1 := hk.cell_ 1 rfl
  have c2 := hk.cell_ 2 rfl
  cases u
  case false =>
    go_wp2_with fail
    refine (kawake_any _).mono ?_
    rintro e W ⟨rfl, hb⟩
    clear v0 v1 v2 v3 v4 c0 c1 c2
    replace hkv := hkv.below hb hkv.lt
    replace hk := hk.below hb hk.lt
    replace hB := hB.trans (hb.mono hB.size)
    clear hb
    have v0 := hkv.cell_ 0 rfl
    have v1 := hkv.cell_ 1 rfl
    have v2 := hkv.cell_ 2 rfl
    have v3 := hkv.cell_ 3 rfl
    have v4 := hkv.cell_ 4 rfl
    have c0 := hk.cell_ 0 rfl
    have c1 := hk.cell_ 1 rfl
    have c2 := hk.cell_ 2 rfl
    go_wp2_with fail
    go_ret
    exact ⟨rfl, hB⟩
  go_wp2_with fail
  refine (apiBound_any L K A c l AP cP ps _ (hS.on hB) (hP.on hB) (by omega)).mono ?_
  rintro e W ⟨rfl, hb⟩
  clear v0 v1 v2 v3 v4 c0 c1 c2
  replace hkv := hkv.below hb hkv.lt
  replace hk := hk.below hb hk.lt
  replace hB := hB.trans (hb.mono hB.size)
  clear hb
  have v0 := hkv.cell_ 0 rfl
  have v1 := hkv.cell_ 1 rfl
  have v2 := hkv.cell_ 2 rfl
  have v3 := hkv.cell_ 3 rfl
  have v4 := hkv.cell_ 4 rfl
  have c0 := hk.cell_ 0 rfl
  have c1 := hk.cell_ 1 rfl
  have c2 := hk.cell_ 2 rfl
  by_cases hE : dE L K l ps = 0
  rotate_left
  · have hE2 : dE L K l ps = 2 := bound_low HV0.out hE
    rw [hE2]
    clear hE hE2
    go_wp2_with fail
    refine (kawake_any _).mono ?_
    rintro e W ⟨rfl, hb⟩
    clear v0 v1 v2 v3 v4 c0 c1 c2
    replace hkv := hkv.below hb hkv.lt
    replace hk := hk.below hb hk.lt
    replace hB := hB.trans (hb.mono hB.size)
    clear hb
    have v0 := hkv.cell_ 0 rfl
    have v1 := hkv.cell_ 1 rfl
    have v2 := hkv.cell_ 2 rfl
    have v3 := hkv.cell_ 3 rfl
    have v4 := hkv.cell_ 4 rfl
    have c0 := hk.cell_ 0 rfl
    have c1 := hk.cell_ 1 rfl
    have c2 := hk.cell_ 2 rfl
    go_wp2_with fail
    go_ret
    exact ⟨rfl, hB⟩
  have HE0 := hide hE
  rw [hE]
  clear hE
  obtain ⟨bb, hbb⟩ : ∃ bb, bB L K l ps = bb := ⟨_, rfl⟩
  have HBB := hide hbb
  rw [hbb]
  clear hbb
  have HSM := hide (grP_small (L := L) (K := K) (l := l))
  go_wp2_with fail
  refine (greedy_any L K A c l _ (hS.on hB)).mono ?_
  rintro e W ⟨A2, k2, os2, rfl, hb, hQ2⟩
  clear v0 v1 v2 v3 v4 c0 c1 c2
  replace hkv := hkv.below hb hkv.lt
  replace hk := hk.below hb hk.lt
  replace hB := hB.trans (hb.mono hB.size)
  clear hb
  have v0 := hkv.cell_ 0 rfl
  have v1 := hkv.cell_ 1 rfl
  have v2 := hkv.cell_ 2 rfl
  have v3 := hkv.cell_ 3 rfl
  have v4 := hkv.cell_ 4 rfl
  have c0 := hk.cell_ 0 rfl
  have c1 := hk.cell_ 1 rfl
  have c2 := hk.cell_ 2 rfl
  have hG : grE L K l = 0 := by unfold grE; rw [if_pos HV0.out]
  rw [hG]
  clear hG
  have hC := greedy_right HV0.out
  obtain ⟨P, hPe⟩ : ∃ P, grP L K l = P := ⟨_, rfl⟩
  rw [hPe] at hQ2 HSM hC ⊢
  have HC := hide hC
  obtain ⟨r, p, ln, f1, f2, f3, f4, f5, f6, f7, f8, f9, f10⟩ := roll_facts HE0.out HC.out HSM.out.1
  rw [HBB.out] at f5
  have HR := hide (And.intro f1 (And.intro f2 (And.intro f3 f10)))
  have e1 : IntKind.i64.wrap (r * L) = p := by rw [f4]; exact IntWalk.i64_in _ (by omega)
  have e2 : IntKind.i64.wrap (p - ln + ln) = p := by rw [Int.sub_add_cancel]; exact IntWalk.i64_in _ (by omega)
  clear hC hPe f1 f2 f3 f4 f10
  go_wp2_with fail
  refine (apiRolls_any L K A c l A2 k2 os2 P _ (hS.on hB) hQ2 HSM.out.1).mono ?_
  rintro e W ⟨rfl, hb⟩
  clear v0 v1 v2 v3 v4 c0 c1 c2
  replace hkv := hkv.below hb hkv.lt
  replace hk := hk.below hb hk.lt
  replace hQ2 := PlanAt.on hQ2 hb
  replace hB := hB.trans (hb.mono hB.size)
  clear hb
  have v0 := hkv.cell_ 0 rfl
  have v1 := hkv.cell_ 1 rfl
  have v2 := hkv.cell_ 2 rfl
  have v3 := hkv.cell_ 3 rfl
  have v4 := hkv.cell_ 4 rfl
  have c0 := hk.cell_ 0 rfl
  have c1 := hk.cell_ 1 rfl
  have c2 := hk.cell_ 2 rfl
  rw [HR.out.1, HC.out]
  go_wp2_with fail
  refine (apiWaste_any L K A c l A2 k2 os2 P _ (hS.on hB) hQ2 HSM.out.1).mono ?_
  rintro e W ⟨rfl, hb⟩
  clear v0 v1 v2 v3 v4 c0 c1 c2
  replace hkv := hkv.below hb hkv.lt
  replace hk := hk.below hb hk.lt
  replace hQ2 := PlanAt.on hQ2 hb
  replace hB := hB.trans (hb.mono hB.size)
  clear hb
  have v0 := hkv.cell_ 0 rfl
  have v1 := hkv.cell_ 1 rfl
  have v2 := hkv.cell_ 2 rfl
  have v3 := hkv.cell_ 3 rfl
  have v4 := hkv.cell_ 4 rfl
  have c0 := hk.cell_ 0 rfl
  have c1 := hk.cell_ 1 rfl
  have c2 := hk.cell_ 2 rfl
  rw [HR.out.2.1, HC.out]
  clear hQ2
  have HSL := hS.on hB
  have d1 : decide (r < bb) = false := decide_eq_false (by omega)
  have d2 : decide (p - ln < 0) = false := decide_eq_false (by omega)
  go_wp2_with fail
  refine wp_region_quiet (C := fun w' => ∃ u : Since W, w' = u.w) (by kernel_rfl) (by kernel_rfl) (Since.start W) ?_
  dsimp only
  have y_v0 := Since.cell v0
  have y_v1 := Since.cell v1
  have y_v2 := Since.cell v2
  have y_v3 := Since.cell v3
  have y_v4 := Since.cell v4
  have y_c0 := Since.cell c0
  have y_c1 := Since.cell c1
  have y_c2 := Since.cell c2
  clear v0 v1 v2 v3 v4 c0 c1 c2
  repeat (go_big_quiet_step ((go_at_call 11; exact Since.calls (lengths_is L K A c l _ (HSL.on (Since.h _)) (validK_iff.1 HV0.out) HR.out.2.2.1))))
  refine wpQuiet_nil ?_
  rintro W ⟨⟨_, hb⟩, rfl⟩
  try dsimp only at hb ⊢
  clear y_v0 y_v1 y_v2 y_v3 y_v4 y_c0 y_c1 y_c2
  replace hkv := hkv.below hb hkv.lt
  replace hk := hk.below hb hk.lt
  replace hB := hB.trans (hb.mono hB.size)
  clear hb
  have v0 := hkv.cell_ 0 rfl
  have v1 := hkv.cell_ 1 rfl
  have v2 := hkv.cell_ 2 rfl
  have v3 := hkv.cell_ 3 rfl
  have v4 := hkv.cell_ 4 rfl
  have c0 := hk.cell_ 0 rfl
  have c1 := hk.cell_ 1 rfl
  have c2 := hk.cell_ 2 rfl
  by_cases hc : chkE L K l pl = 0
  · have HC2 := hide hc
    go_wp2_with fail
    refine (refCheck_is L K A c l AB cB bs pl _ (hS.on hB) (hQ.on hB) hl HC2.out).mono ?_
    rintro e W ⟨rfl, hb⟩
    clear v0 v1 v2 v3 v4 c0 c1 c2
    replace hkv := hkv.below hb hkv.lt
    replace hk := hk.below hb hk.lt
    replace hB := hB.trans (hb.mono hB.size)
    clear hb
    have v0 := hkv.cell_ 0 rfl
    have v1 := hkv.cell_ 1 rfl
    have v2 := hkv.cell_ 2 rfl
    have v3 := hkv.cell_ 3 rfl
    have v4 := hkv.cell_ 4 rfl
    have c0 := hk.cell_ 0 rfl
    have c1 := hk.cell_ 1 rfl
    have c2 := hk.cell_ 2 rfl
    obtain ⟨r2, p2, ln2, f1, f2, f3, f4, f5', f6', f7', f8', f9', f10⟩ := roll_facts HE0.out HC2.out hl
    rw [HBB.out] at f5'
    obtain rfl : ln = ln2 := by rw [← f3]; exact HR.out.2.2.1.symm
    have HR2 := hide (And.intro f1 f2)
    have e3 : IntKind.i64.wrap (r2 * L) = p2 := by rw [f4]; exact IntWalk.i64_in _ (by omega)
    have e4 : IntKind.i64.wrap (p2 - ln + ln) = p2 := by rw [Int.sub_add_cancel]; exact IntWalk.i64_in _ (by omega)
    clear hc f1 f2 f3 f4 f10
    go_wp2_with fail
    refine (apiRolls_any L K A c l AB cB bs pl _ (hS.on hB) (hQ.on hB) hl).mono ?_
    rintro e W ⟨rfl, hb⟩
    clear v0 v1 v2 v3 v4 c0 c1 c2
    replace hkv := hkv.below hb hkv.lt
    replace hk := hk.below hb hk.lt
    replace hB := hB.trans (hb.mono hB.size)
    clear hb
    have v0 := hkv.cell_ 0 rfl
    have v1 := hkv.cell_ 1 rfl
    have v2 := hkv.cell_ 2 rfl
    have v3 := hkv.cell_ 3 rfl
    have v4 := hkv.cell_ 4 rfl
    have c0 := hk.cell_ 0 rfl
    have c1 := hk.cell_ 1 rfl
    have c2 := hk.cell_ 2 rfl
    rw [HR2.out.1, HC2.out]
    go_wp2_with fail
    refine (apiWaste_any L K A c l AB cB bs pl _ (hS.on hB) (hQ.on hB) hl).mono ?_
    rintro e W ⟨rfl, hb⟩
    clear v0 v1 v2 v3 v4 c0 c1 c2
    replace hkv := hkv.below hb hkv.lt
    replace hk := hk.below hb hk.lt
    replace hB := hB.trans (hb.mono hB.size)
    clear hb
    have v0 := hkv.cell_ 0 rfl
    have v1 := hkv.cell_ 1 rfl
    have v2 := hkv.cell_ 2 rfl
    have v3 := hkv.cell_ 3 rfl
    have v4 := hkv.cell_ 4 rfl
    have c0 := hk.cell_ 0 rfl
    have c1 := hk.cell_ 1 rfl
    have c2 := hk.cell_ 2 rfl
    rw [HR2.out.2, HC2.out]
    have HSL2 := hS.on hB
    have d3 : decide (r2 < bb) = false := decide_eq_false (by omega)
    have d4 : decide (p2 - ln < 0) = false := decide_eq_false (by omega)
    go_wp2_with fail
    refine wp_region_quiet (C := fun w' => ∃ u : Since W, w' = u.w) (by kernel_rfl) (by kernel_rfl) (Since.start W) ?_
    dsimp only
    have y_v0 := Since.cell v0
    have y_v1 := Since.cell v1
    have y_v2 := Since.cell v2
    have y_v3 := Since.cell v3
    have y_v4 := Since.cell v4
    have y_c0 := Since.cell c0
    have y_c1 := Since.cell c1
    have y_c2 := Since.cell c2
    clear v0 v1 v2 v3 v4 c0 c1 c2
    repeat (go_big_quiet_step ((go_at_call 11; exact Since.calls (lengths_is L K A c l _ (HSL2.on (Since.h _)) (validK_iff.1 HV0.out) HR.out.2.2.1))))
    refine wpQuiet_nil ?_
    rintro W ⟨⟨_, hb⟩, rfl⟩
    try dsimp only at hb ⊢
    clear y_v0 y_v1 y_v2 y_v3 y_v4 y_c0 y_c1 y_c2
    replace hkv := hkv.below hb hkv.lt
    replace hk := hk.below hb hk.lt
    replace hB := hB.trans (hb.mono hB.size)
    clear hb
    have v0 := hkv.cell_ 0 rfl
    have v1 := hkv.cell_ 1 rfl
    have v2 := hkv.cell_ 2 rfl
    have v3 := hkv.cell_ 3 rfl
    have v4 := hkv.cell_ 4 rfl
    have c0 := hk.cell_ 0 rfl
    have c1 := hk.cell_ 1 rfl
    have c2 := hk.cell_ 2 rfl
    go_wp2_with fail
    refine (least_any L K A c l _ (hS.on hB)).mono ?_
    rintro e W ⟨n1, E1, rfl, hb, hV1⟩
    clear v0 v1 v2 v3 v4 c0 c1 c2
    replace hkv := hkv.below hb hkv.lt
    replace hk := hk.below hb hk.lt
    replace hB := hB.trans (hb.mono hB.size)
    clear hb
    have v0 := hkv.cell_ 0 rfl
    have v1 := hkv.cell_ 1 rfl
    have v2 := hkv.cell_ 2 rfl
    have v3 := hkv.cell_ 3 rfl
    have v4 := hkv.cell_ 4 rfl
    have c0 := hk.cell_ 0 rfl
    have c1 := hk.cell_ 1 rfl
    have c2 := hk.cell_ 2 rfl
    by_cases hw : 10 < (wdG K l).length
    · obtain ⟨rfl, rfl⟩ := hV1.2.1 HV0.out hw
      clear hV1 hw
      go_wp2_with fail
      refine (kawake_any _).mono ?_
      rintro e W ⟨rfl, hb⟩
      clear v0 v1 v2 v3 v4 c0 c1 c2
      replace hkv := hkv.below hb hkv.lt
      replace hk := hk.below hb hk.lt
      replace hB := hB.trans (hb.mono hB.size)
      clear hb
      have v0 := hkv.cell_ 0 rfl
      have v1 := hkv.cell_ 1 rfl
      have v2 := hkv.cell_ 2 rfl
      have v3 := hkv.cell_ 3 rfl
      have v4 := hkv.cell_ 4 rfl
      have c0 := hk.cell_ 0 rfl
      have c1 := hk.cell_ 1 rfl
      have c2 := hk.cell_ 2 rfl
      go_wp2_with fail
      go_ret
      exact ⟨rfl, hB⟩
    · obtain ⟨rfl, k1, rfl, hL1⟩ := hV1.2.2 HV0.out (by omega)
      obtain ⟨b1, b2⟩ := least_between HE0.out HC.out hL1
      rw [HR.out.2.2.2] at b2
      rw [HBB.out] at b1
      clear hV1 hw hL1
      go_wp2_with fail
      refine (kawake_any _).mono ?_
      rintro e W ⟨rfl, hb⟩
      clear v0 v1 v2 v3 v4 c0 c1 c2
      replace hkv := hkv.below hb hkv.lt
      replace hk := hk.below hb hk.lt
      replace hB := hB.trans (hb.mono hB.size)
      clear hb
      have v0 := hkv.cell_ 0 rfl
      have v1 := hkv.cell_ 1 rfl
      have v2 := hkv.cell_ 2 rfl
      have v3 := hkv.cell_ 3 rfl
      have v4 := hkv.cell_ 4 rfl
      have c0 := hk.cell_ 0 rfl
      have c1 := hk.cell_ 1 rfl
      have c2 := hk.cell_ 2 rfl
      go_wp2_with fail
      go_ret
      exact ⟨rfl, hB⟩
  · obtain ⟨z, hz⟩ : ∃ z, chkE L K l pl = z := ⟨_, rfl⟩
    have HZ := hide hz
    rw [hz] at hc
    clear hz
    go_wp2_with fail
    refine (refCheck_is L K A c l AB cB bs pl _ (hS.on hB) (hQ.on hB) hl HZ.out).mono ?_
    rintro e W ⟨rfl, hb⟩
    clear v0 v1 v2 v3 v4 c0 c1 c2
    replace hkv := hkv.below hb hkv.lt
    replace hk := hk.below hb hk.lt
    replace hB := hB.trans (hb.mono hB.size)
    clear hb
    have v0 := hkv.cell_ 0 rfl
    have v1 := hkv.cell_ 1 rfl
    have v2 := hkv.cell_ 2 rfl
    have v3 := hkv.cell_ 3 rfl
    have v4 := hkv.cell_ 4 rfl
    have c0 := hk.cell_ 0 rfl
    have c1 := hk.cell_ 1 rfl
    have c2 := hk.cell_ 2 rfl
    go_wp2_with fail
    refine (least_any L K A c l _ (hS.on hB)).mono ?_
    rintro e W ⟨n1, E1, rfl, hb, hV1⟩
    clear v0 v1 v2 v3 v4 c0 c1 c2
    replace hkv := hkv.below hb hkv.lt
    replace hk := hk.below hb hk.lt
    replace hB := hB.trans (hb.mono hB.size)
    clear hb
    have v0 := hkv.cell_ 0 rfl
    have v1 := hkv.cell_ 1 rfl
    have v2 := hkv.cell_ 2 rfl
    have v3 := hkv.cell_ 3 rfl
    have v4 := hkv.cell_ 4 rfl
    have c0 := hk.cell_ 0 rfl
    have c1 := hk.cell_ 1 rfl
    have c2 := hk.cell_ 2 rfl
    by_cases hw : 10 < (wdG K l).length
    · obtain ⟨rfl, rfl⟩ := hV1.2.1 HV0.out hw
      clear hV1 hw
      go_wp2_with fail
      refine (kawake_any _).mono ?_
      rintro e W ⟨rfl, hb⟩
      clear v0 v1 v2 v3 v4 c0 c1 c2
      replace hkv := hkv.below hb hkv.lt
      replace hk := hk.below hb hk.lt
      replace hB := hB.trans (hb.mono hB.size)
      clear hb
      have v0 := hkv.cell_ 0 rfl
      have v1 := hkv.cell_ 1 rfl
      have v2 := hkv.cell_ 2 rfl
      have v3 := hkv.cell_ 3 rfl
      have v4 := hkv.cell_ 4 rfl
      have c0 := hk.cell_ 0 rfl
      have c1 := hk.cell_ 1 rfl
      have c2 := hk.cell_ 2 rfl
      go_wp2_with fail
      go_ret
      exact ⟨rfl, hB⟩
    · obtain ⟨rfl, k1, rfl, hL1⟩ := hV1.2.2 HV0.out (by omega)
      obtain ⟨b1, b2⟩ := least_between HE0.out HC.out hL1
      rw [HR.out.2.2.2] at b2
      rw [HBB.out] at b1
      clear hV1 hw hL1
      go_wp2_with fail
      refine (kawake_any _).mono ?_
      rintro e W ⟨rfl, hb⟩
      clear v0 v1 v2 v3 v4 c0 c1 c2
      replace hkv := hkv.below hb hkv.lt
      replace hk := hk.below hb hk.lt
      replace hB := hB.trans (hb.mono hB.size)
      clear hb
      have v0 := hkv.cell_ 0 rfl
      have v1 := hkv.cell_ 1 rfl
      have v2 := hkv.cell_ 2 rfl
      have v3 := hkv.cell_ 3 rfl
      have v4 := hkv.cell_ 4 rfl
      have c0 := hk.cell_ 0 rfl
      have c1 := hk.cell_ 1 rfl
      have c2 := hk.cell_ 2 rfl
      go_wp2_with fail
      go_ret
      exact ⟨rfl, hB⟩
end Go.Proofs.YtkcfalehebacpaaDoor
