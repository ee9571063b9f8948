/- canonical of the program: the walk. -/
import Derived.Test.YtecaaimaeaocbaaDoorKOut
import Derived.Deep.RegionLaw
namespace Go.Proofs.YtecaaimaeaocbaaDoor
open Go Go.RowKit
theorem step_own_app1 {α : Type} {P : Program} {ops : Array Oper} {o : Oper} {a : Act} {K : Act → World → Prop} {Q : Exit → Act → World → Prop} {E : Prop} {w : World} {base : Nat} {e : TypeId} {sz : Nat} {f : α → List Value} {v : Value} {xs : List α} {A2 : Option Addr} {c2 B2 : Nat} {y : α} (s x : Operand) {t : TypeId} (hgd : o.guard = none)
    (ho : o.op = .call { callee := .builtin .append, args := #[s, x], argTypes := #[t, t] }) (he : ElemT P t e sz) (hown : Own w base e sz f v xs) (hs : a.eval s = v) (hx : a.eval x = .slice A2 1 c2) (h2 : Slc f sz w B2 A2 [y])
    (hf : ∀ x, (f x).length = sz) (h1c : ∀ x, ∀ u ∈ f x, u.oneCell' = true) (hlen : xs.length + 1 ≤ 1000000000) (hbase : base ≤ w.heap.size)
    (h : ∀ v' w', Own w' base e sz f v' (xs ++ [y]) → w.grownBy w' v.ownBlock → (∀ b, v'.ownBlock = some b → w.heap.size ≤ b ∨ v.ownBlock = some b) → K (a.put o.dst v') w') : if Region.wanted o (yielded ops a.tmps) = true then Oper.wp P o a w K Q else E := by
  have hw : Region.wanted o (yielded ops a.tmps) = true := by simp [Region.wanted, hgd]
  rw [if_pos hw]
  obtain ⟨v', w', hr, hO, hg, hv⟩ := run_app_own (P := P) (ty := o.type) he hown h2 (m := 1) rfl (c2 := c2) hf h1c hlen hbase
  unfold Oper.wp
  rw [exec_app ho hs hx hr]
  exact h v' w' hO hg hv
theorem foldl_len : ∀ (l out : List Bat), (l.foldl insB out).length ≤ out.length + l.length
  | [], out => by simp
  | b :: l, out => by
    have h1 := foldl_len l (insB out b)
    have h2 : ∀ out : List Bat, (insB out b).length ≤ out.length + 1 := fun out => by
      induction out with
      | nil => simp [insB]
      | cons x r ih =>
        rw [insB]
        split
        · simp; omega
        · split <;> simp
    have := h2 out
    rw [List.foldl_cons, List.length_cons]; omega
theorem foldB_len (pl : List Bat) : (foldB pl).length ≤ pl.length := by
  have h := foldl_len (pl.filter fun b => !emptyB b.ps) []
  have h2 := List.length_filter_le (fun b : Bat => !emptyB b.ps) pl
  unfold foldB
  simp at h
  omega
/-- the sort of the cloned plan -/
theorem sortAll_any {w0 : World} {A : Option Addr} {bs : List Bt} {pl : List Bat} (h : PlanAt w0 A bs pl) (hp : ∀ b ∈ pl, b.ps.length ≤ 100000) (A1 : Option Addr) (c1 : Nat) (w : World) (hb : Below w0.heap.size w0 w) (hO : bs ≠ [] → Own w w0.heap.size 73 2 Bt.enc (.slice A1 bs.length c1) bs) (hn : bs.length ≤ 100000) :
    Calls Tryd.prog 105 #[.slice A1 bs.length c1, .func (.func 106) #[] #[]] w fun e w' => e = .returned (.tuple #[]) ∧ Below w0.heap.size w w' ∧ ∃ bs' pl', PlanAt w' A1 bs' pl' ∧ pl'.Perm pl ∧ pl'.Pairwise fun x y => 0 ≤ cmpL x.ps y.ps := by
  by_cases hne : bs = []
  · subst hne
    have hpl : pl = [] := List.length_eq_zero_iff.1 h.len.symm
    subst hpl
    refine (sort0_any A1 c1 w).mono fun e w' ⟨he, hw⟩ => ⟨he, ?_, [], [], ⟨?_, rfl, fun i b p hb => by simp at hb⟩, List.Perm.refl _, List.Pairwise.nil⟩
    · subst hw; exact Below.refl _ _
    · exact fun i x hx => by simp at hx
  · obtain ⟨g, c', hv, hg1, hg2⟩ := (hO hne).at_ (List.length_pos_iff.2 hne)
    injection hv with e1 _ e3
    subst e1 e3
    exact sortB_any h hp w hb (hO hne) hn hg1 hg2
def CanonPost (pl : List Bat) (w : World) (e : Ending) (w' : World) : Prop :=
  ∃ A' c' os, e = .returned (.tuple #[.slice A' (foldB pl).length c', .bool ((foldB pl).all fun b => decide (b.t ≤ 1000))]) ∧ Below w.heap.size w w' ∧ PlanAt w' A' os (foldB pl)
theorem bt_one (x : Bt) : ∀ u ∈ Bt.enc x, u.oneCell' = true := fun u hu => by
  simp [Bt.enc] at hu
  rcases hu with rfl | rfl <;> rfl
theorem OutIn.app {W w1 W' : World} {base : Nat} {os : List Bt} {P : List Bat} {p : Bat} {v : Value} {y : Bt} {o : Obj} (hI : OutIn W base os P) (hO : Own W base 73 2 Bt.enc v os) (hz : base ≤ W.heap.size) (hb : Below W.heap.size W w1) (hne : p.ps ≠ []) (h1 : y.t = p.t) (h2 : y.n = p.ps.length)
    (O9 : Own w1 base 3 1 intEnc (.slice y.A y.n y.c) p.ps) (hg : (w1.alloc o).grownBy W' v.ownBlock) : OutIn W' base (os ++ [y]) (P ++ [p]) ∧ Below base W W' := by
  have hb2 : Below W.heap.size W (w1.alloc o) := hb.alloc hb.size o
  have hO2 := hO.below hb2
  refine ⟨((hI.below hb2).grown hO2 hg).snoc h1 h2 hne (own_kept (O9.alloc o) hg fun k hk hv => own_ne_own (O9.alloc o) hO2 (by decide) k hk hv), ?_⟩
  exact (hb2.mono hz).trans (grownv_below hg (Nat.le_trans hz hb2.size) fun k hk => (own_ge hO k hk).1)
theorem appB_at {P : List Bat} {q : Nat} {px p : Bat} (h : P[q]? = some px) (hl : P.length = q + 1) : appB P p = if px.ps = p.ps then P.set q ⟨px.t + p.t, px.ps⟩ else P ++ [p] := by
  obtain ⟨P0, z, rfl⟩ : ∃ P0 z, P = P0 ++ [z] := by
    have hne : P ≠ [] := by rintro rfl; simp at hl
    exact ⟨P.dropLast, P.getLast hne, (List.dropLast_concat_getLast hne).symm⟩
  have hq : P0.length = q := by simp at hl; exact hl
  subst hq
  rw [List.getElem?_append_right (Nat.le_refl _), Nat.sub_self] at h
  simp at h
  subst h
  unfold appB
  rw [List.getLast?_append]
  simp only [List.getLast?_singleton, Option.some_or, List.dropLast_concat]
  rw [List.set_append_right _ _ (Nat.le_refl _), Nat.sub_self]
  rfl
theorem insB_tb {M : Int} : ∀ {out : List Bat} {b : Bat}, (∀ x ∈ out, 0 ≤ x.t ∧ x.t ≤ M) → 0 ≤ M → (0 ≤ b.t ∧ b.t ≤ 1000) → ∀ x ∈ insB out b, 0 ≤ x.t ∧ x.t ≤ M + 1000
  | [], b, _, hM, hb, x, hx => by
    rw [insB, List.mem_singleton] at hx
    subst hx; omega
  | y :: out, b, h, hM, hb, x, hx => by
    have hy := h y (List.mem_cons_self ..)
    rw [insB] at hx
    split at hx
    · rcases List.mem_cons.1 hx with rfl | hx
      · omega
      · exact insB_tb (fun z hz => h z (List.mem_cons_of_mem _ hz)) hM hb x hx
    · split at hx
      · rcases List.mem_cons.1 hx with rfl | hx
        · dsimp only; omega
        · have := h x (List.mem_cons_of_mem _ hx); omega
      · rcases List.mem_cons.1 hx with rfl | hx
        · omega
        · have := h x hx; omega
theorem foldl_tb : ∀ {l out : List Bat} {M : Int}, (∀ x ∈ out, 0 ≤ x.t ∧ x.t ≤ M) → 0 ≤ M → (∀ b ∈ l, 0 ≤ b.t ∧ b.t ≤ 1000) → ∀ x ∈ l.foldl insB out, 0 ≤ x.t ∧ x.t ≤ M + 1000 * l.length
  | [], _, _, h, _, _, x, hx => by have := h x hx; simp; exact this
  | b :: l, out, M, h, hM, hl, x, hx => by
    have := foldl_tb (l := l) (out := insB out b) (M := M + 1000) (insB_tb h hM (hl b (List.mem_cons_self ..))) (by omega) (fun z hz => hl z (List.mem_cons_of_mem _ hz)) x hx
    rw [List.length_cons]; push_cast; omega
theorem foldB_tb {pl : List Bat} (h : ∀ b ∈ pl, 0 ≤ b.t ∧ b.t ≤ 1000) (hn : pl.length ≤ 1000) : ∀ x ∈ foldB pl, 0 ≤ x.t ∧ x.t ≤ 1000000 := fun x hx => by
  have h2 := List.length_filter_le (fun b : Bat => !emptyB b.ps) pl
  have := foldl_tb (l := pl.filter fun b => !emptyB b.ps) (out := []) (M := 0) (by simp) (Int.le_refl _) (fun b hb => h b (List.mem_filter.1 hb).1) x hx
  omega
theorem OutIn.put {W W2 : World} {base base' g n c q : Nat} {os : List Bt} {P : List Bat} {x : Bt} {px : Bat} (h : OutIn W base os P) (hc : Chg (fun k => k = g) W W2) (hO : Own W base' 73 2 Bt.enc (.slice (some ⟨g, 0, none⟩) n c) os) (hx : os[q]? = some x) (hp : P[q]? = some px) (t : Int) : OutIn W2 base (os.set q ⟨t, x.A, x.n, x.c⟩) (P.set q ⟨t, px.ps⟩) := by
  have hg : W.grownBy W2 (some g) := ⟨hc.os, hc.tape, hc.output, hc.size, fun k hk hne => hc.block k hk fun e => hne (by rw [e])⟩
  have hk : ∀ (i : Nat) b p, os[i]? = some b → P[i]? = some p → b.t = p.t ∧ b.n = p.ps.length ∧ p.ps ≠ [] ∧ Own W2 base 3 1 intEnc (.slice b.A b.n b.c) p.ps := fun i b p h1 h2 => by
    obtain ⟨a1, a2, a3, a4⟩ := h.in_ i b p h1 h2
    exact ⟨a1, a2, a3, own_kept a4 hg fun k hk hv => own_ne_own a4 hO (by decide) k hk hv⟩
  refine ⟨by rw [List.length_set, List.length_set, h.len], fun i b p h1 h2 => ?_⟩
  rw [List.getElem?_set] at h1 h2
  by_cases hi : q = i
  · subst hi
    rw [if_pos rfl, if_pos (List.getElem?_eq_some_iff.1 hx).1] at h1
    rw [if_pos rfl, if_pos (List.getElem?_eq_some_iff.1 hp).1] at h2
    injection h1 with h1
    injection h2 with h2
    subst h1 h2
    obtain ⟨_, a2, a3, a4⟩ := hk q x px hx hp
    exact ⟨rfl, a2, a3, a4⟩
  · rw [if_neg hi] at h1 h2
    exact hk i b p h1 h2
/-- a batch of more than 1000 -/
def tok (b : Bt) : Bool := !decide (1000 < b.t)
theorem big1_any (x : Bt) (w : World) : Calls Tryd.prog 112 #[.agg #[.int .i64 x.t, .slice x.A x.n x.c]] w fun e w' => e = .returned (.bool (!tok x)) ∧ Below w.heap.size w w' := by
  have HV : Hid (tok x = !decide (1000 < x.t)) := rfl
  have hB := (Below.refl w.heap.size w).alloc (Nat.le_refl _) (.cells #[.int .i64 x.t, .slice x.A x.n x.c] 73)
  by_cases h : 1000 < x.t
  · have HV2 : Hid ((!tok x) = true) := by show _ = _; rw [HV.out, decide_eq_true h]; rfl
    go_enter Tryd.func112, Tryd.ntmps112
    go_wp2_with fail
    go_ret
    exact ⟨ret_bool HV2.out.symm, hB⟩
  · have HV2 : Hid ((!tok x) = false) := by show _ = _; rw [HV.out, decide_eq_false h]; rfl
    go_enter Tryd.func112, Tryd.ntmps112
    go_wp2_with fail
    go_ret
    exact ⟨ret_bool HV2.out.symm, hB⟩
set_option maxHeartbeats 1000000 in
theorem indexBig_any (A : Option Addr) (c : Nat) (l : List Bt) (w : World) (hlen : l.length ≤ 100000) (hS : Slc Bt.enc 2 w w.heap.size A l) :
    Calls Tryd.prog 125 #[.slice A l.length c, .func (.func 112) #[] #[]] w (IxPost (l.any fun x => !tok x) w) := by
  go_enter Tryd.func125, Tryd.ntmps125
  go_wp2_with fail
  go_loopw [8] (fun i wr => ∃ k : Nat, k ≤ l.length ∧ i = .int .i64 k ∧ Hid ((l.any fun x => !tok x) = (l.drop k).any (fun x => !tok x)) ∧ Below w.heap.size w wr) (fun i _ => l.length - (intOf i).toNat)
  case atStart => exact ⟨0, Nat.zero_le _, rfl, hide rfl, Below.refl _ _⟩
  case round =>
    obtain ⟨k, hk, rfl, HS, hbel⟩ := hrel
    by_cases hlt : k < l.length
    · obtain ⟨x, b, off, hx, hA, hb, d0, d1⟩ := bt_at (hS.below hbel) hlt
      have hki : (k : Int) < (l.length : Int) := by omega
      subst hA
      have HX := hide hx
      clear hx
      go_wp2_with fail
      refine (big1_any x _).mono ?_
      rintro e w2 ⟨rfl, hb2⟩
      clear d0 d1
      cases hok : tok x
      · go_wp2_with fail
        go_ret
        exact ⟨k, rfl, by rw [HS.out, any_drop HX.out, hok]; simp, hbel.trans (hb2.mono hbel.size)⟩
      · go_wp2_with fail
        go_roundw
        case rel => exact ⟨k + 1, by omega, by go_num, hide (by rw [HS.out, any_drop HX.out, hok]; rfl), hbel.trans (hb2.mono hbel.size)⟩
        case measure => simp [intOf]; omega
    · obtain rfl : k = l.length := by omega
      go_wp2_with fail
      go_ret
      exact ⟨-1, rfl, by rw [HS.out, List.drop_length]; rfl, hbel⟩
theorem containsBig_any (A : Option Addr) (c : Nat) (l : List Bt) (w : World) (hlen : l.length ≤ 100000) (hS : Slc Bt.enc 2 w w.heap.size A l) :
    Calls Tryd.prog 111 #[.slice A l.length c, .func (.func 112) #[] #[]] w fun e w' => e = .returned (.bool (l.any fun x => !tok x)) ∧ Below w.heap.size w w' := by
  go_enter Tryd.func111, Tryd.ntmps111
  go_wp2_with fail
  refine (indexBig_any A c l _ hlen hS).mono ?_
  rintro e w2 ⟨r, rfl, hr, hb2⟩
  have HR := hide hr
  clear hr
  go_wp2_with fail
  go_ret
  exact ⟨ret_bool HR.out, hb2⟩
theorem big_all {w : World} {base : Nat} {os : List Bt} {P : List Bat} (h : OutIn w base os P) : (!(os.any fun x => !tok x)) = P.all fun b => decide (b.t ≤ 1000) := by
  rw [Bool.eq_iff_iff]
  simp only [Bool.not_eq_true', List.any_eq_false, all_at, decide_eq_true_eq, tok, Bool.not_not, Bool.not_eq_true, decide_eq_false_iff_not]
  constructor
  · intro h1 i p hp
    obtain ⟨b, hb⟩ : ∃ b, os[i]? = some b := ⟨_, List.getElem?_eq_getElem (by rw [h.len]; exact (List.getElem?_eq_some_iff.1 hp).1)⟩
    have := h1 b (List.mem_of_getElem? hb)
    have := (h.in_ i b p hb hp).1
    omega
  · intro h1 b hb
    obtain ⟨i, hi⟩ := List.getElem?_of_mem hb
    obtain ⟨p, hp⟩ : ∃ p, P[i]? = some p := ⟨_, List.getElem?_eq_getElem (by rw [← h.len]; exact (List.getElem?_eq_some_iff.1 hi).1)⟩
    have := h1 i p hp
    have := (h.in_ i b p hi hp).1
    omega
set_option maxRecDepth 100000 in
set_option maxHeartbeats 4000000 in
theorem canonical_any (A : Option Addr) (c : Nat) (bs : List Bt) (pl : List Bat) (w : World) (hP : PlanAt w A bs pl) (hn : pl.length ≤ 1000) (hpb : ∀ b ∈ pl, (1 ≤ b.t ∧ b.t ≤ 1000) ∧ b.ps.length ≤ 1000 ∧ ∀ p ∈ b.ps, 0 ≤ p) :
    Calls Tryd.prog 85 #[.slice A pl.length c] w (CanonPost pl w) := by
  rw [← hP.len]
  have hbn : bs.length ≤ 1000 := by rw [hP.len]; exact hn
  have HPB := hide hpb
  clear hpb
  go_enter Tryd.func85, Tryd.ntmps85
  go_wp2_with fail
  refine (cloneBt_any A c bs _ (by omega) hP.row).mono ?_
  rintro e W ⟨A1, c1, rfl, hB, hS1, hO1⟩
  clear hS1
  go_wp2_with fail
  refine (sortAll_any hP (fun b hb => by have := (HPB.out b hb).2.1; omega) A1 c1 W hB hO1 (by omega)).mono ?_
  rintro e W0 ⟨rfl, hb0, bs', s, hQ, hperm, hsort⟩
  replace hB := hB.trans (hb0.mono (Nat.le_refl _))
  clear hb0 hO1
  have HF := hide (foldB_perm hperm)
  have hsl : bs'.length = bs.length := by rw [hQ.len, hP.len]; exact hperm.length_eq
  have HSL := hide hsl
  have HSB : Hid (∀ b ∈ s, (1 ≤ b.t ∧ b.t ≤ 1000) ∧ b.ps.length ≤ 1000 ∧ ∀ p ∈ b.ps, 0 ≤ p) := fun b hb => HPB.out b (hperm.subset hb)
  have HSO := hide hsort
  have hsn : s.length = bs.length := by rw [← hQ.len]; exact hsl
  have HSN := hide hsn
  clear hsl hperm hsort hsn
  obtain ⟨W, hW⟩ : ∃ W, W = W0 := ⟨_, rfl⟩
  have hL : Below W0.heap.size W0 W := by rw [hW]; exact Below.refl _ _
  rw [← hW]
  clear hW
  have hO : Own W W0.heap.size 73 2 Bt.enc (.slice none 0 0) [] := Own.nil_
  have hI : OutIn W W0.heap.size [] (foldB (s.take 0)) := OutIn.nil_ _ _
  go_wp2_with fail
  go_loopw [4, 15] (fun v y W => ∃ (i : Nat) (os : List Bt), y = .int .i64 i ∧ i ≤ bs.length ∧ Own W W0.heap.size 73 2 Bt.enc v os ∧ OutIn W W0.heap.size os (foldB (s.take i)) ∧ Below W0.heap.size W0 W) (fun v y _ => bs.length - (intOf y).toNat)
  case atStart => exact ⟨0, [], rfl, Nat.zero_le _, hO, hI, hL⟩
  case round =>
    clear hO hI hL
    obtain ⟨W, rfl⟩ : ∃ W : World, W = wr := ⟨_, rfl⟩
    obtain ⟨i, os, rfl, hi, hO, hI, hL⟩ := hrel
    obtain ⟨Ao, co, rfl, hSo⟩ := hO.form fun _ => rfl
    have hol : os.length ≤ 1000 := by
      have h1 := hI.len
      have h2 := foldB_len (s.take i)
      simp at h2
      omega
    by_cases hlt : i < bs.length
    · obtain ⟨p, b, off, A', c', hp, hA, hbl, d0, d1, hQ0⟩ := plan_at hQ (show i < s.length by rw [HSN.out]; exact hlt)
      replace d0 := (hL.cell (p := ⟨b, off + i * 2, none⟩) hbl).trans d0
      replace d1 := (hL.cell (p := ⟨b, off + i * 2 + 1, none⟩) hbl).trans d1
      have hii : (i : Int) < (bs.length : Int) := by omega
      have HX := hide hp
      obtain ⟨hpt, hpl, hp0⟩ := HSB.out p (List.mem_of_getElem? hp)
      have HP0 := hide hp0
      have hLs := hL.size
      clear hp hp0 hSo
      subst hA
      go_upto_region 7 with fail
      have hm := Blk.new W 73 #[.int .i64 p.t, .slice A' p.ps.length c']
      replace hO := hO.alloc (.cells #[.int .i64 p.t, .slice A' p.ps.length c'] 73)
      replace hI := hI.below ((Below.refl _ W).alloc (Nat.le_refl _) (.cells #[.int .i64 p.t, .slice A' p.ps.length c'] 73))
      replace hL := hL.trans (((Below.refl _ W).alloc (Nat.le_refl _) (.cells #[.int .i64 p.t, .slice A' p.ps.length c'] 73)).mono hL.size)
      have hsz_bx : (W.alloc (.cells #[.int .i64 p.t, .slice A' p.ps.length c'] 73)).heap.size = W.heap.size + 1 := by simp
      generalize hbx : W.heap.size = bx at *
      generalize W.alloc (.cells #[.int .i64 p.t, .slice A' p.ps.length c'] 73) = W at *
      clear hbx
      have m0 := hm.cell_ 0 rfl
      have m1 := hm.cell_ 1 rfl
      clear d0 d1
      cases he : emptyB p.ps
      case true =>
        have HPE : Hid ((p.ps.any fun x => !npos x) = false) := by show _ = _; rw [pos_empty HP0.out, he]; rfl
        have HS := hide (foldB_snoc HSO.out HX.out)
        have hI2 : OutIn W W0.heap.size os (foldB (s.take (i + 1))) := by rw [HS.out, if_pos he]; exact hI
        clear hI he
        go_wp2_with fail
        refine (containsPos_any A' c' p.ps _ (by omega) (hQ0.on hL)).mono ?_
        rintro e W ⟨rfl, hb⟩
        clear m0 m1
        replace hO := hO.below hb
        replace hL := hL.trans (hb.mono hL.size)
        replace hm := hm.below hb hm.lt
        replace hI2 := hI2.below hb
        clear hb
        have m0 := hm.cell_ 0 rfl
        have m1 := hm.cell_ 1 rfl
        rw [HPE.out]
        go_wp2_with fail
        go_roundw
        case rel => exact ⟨i + 1, os, by go_num, by omega, hO, hI2, hL⟩
        case measure => simp [intOf]; omega
      case false =>
        have HPE : Hid ((p.ps.any fun x => !npos x) = true) := by show _ = _; rw [pos_empty HP0.out, he]; rfl
        have HS : Hid (foldB (s.take (i + 1)) = appB (foldB (s.take i)) p) := by show _ = _; rw [foldB_snoc HSO.out HX.out, he]; rfl
        have hne0 : p.ps ≠ [] := by rintro h; rw [h] at he; simp [emptyB] at he
        clear he
        go_wp2_with fail
        refine (containsPos_any A' c' p.ps _ (by omega) (hQ0.on hL)).mono ?_
        rintro e W ⟨rfl, hb⟩
        clear m0 m1
        replace hO := hO.below hb
        replace hI := hI.below hb
        replace hL := hL.trans (hb.mono hL.size)
        replace hm := hm.below hb hm.lt
        clear hb
        have m0 := hm.cell_ 0 rfl
        have m1 := hm.cell_ 1 rfl
        rw [HPE.out]
        by_cases hos : os = []
        · subst hos
          dsimp only [List.length_nil]
          go_upto_region 10 with fail
          rw [show (((0 : Nat) : Int) - 1) = -1 from rfl]
          go_wp2_with fail
          refine wp_region_quiet (C := fun w' => ∃ u : Since W, w' = u.w) (by kernel_rfl) (by kernel_rfl) (Since.start W) ?_
          dsimp only
          have y_m0 := Since.cell m0
          have y_m1 := Since.cell m1
          clear m0 m1
          repeat (go_big_quiet_step ((fail)))
          refine wpQuiet_nil ?_
          rintro W ⟨⟨_, hb⟩, rfl⟩
          try dsimp only at hb ⊢
          clear y_m0 y_m1
          replace hO := hO.below hb
          replace hI := hI.below hb
          replace hL := hL.trans (hb.mono hL.size)
          replace hm := hm.below hb hm.lt
          clear hb
          have m0 := hm.cell_ 0 rfl
          have m1 := hm.cell_ 1 rfl
          go_upto_region 8 with fail
          have HNE : Hid (p.ps ≠ []) := hne0
          have HAP : Hid (foldB (s.take (i + 1)) = foldB (s.take i) ++ [p]) := by
            show _ = _
            rw [HS.out, List.length_eq_zero_iff.1 (hI.len.symm)]; rfl
          have HT := hide (hQ0.on hL)
          have hLz := hL.size
          go_region_law (first | (refine step_own_app1 _ _ rfl rfl et_batch (y := (⟨p.t, A9, p.ps.length, c9⟩ : Bt)) (hOx.alloc _) rfl rfl ((Blk.new w1 73 #[.int .i64 p.t, .slice A9 p.ps.length c9]).slc1 rfl) (fun _ => rfl) bt_one (by simp <;> omega) (by simp <;> omega) ?_; intro v' W' hO' hg' hv') | (go_simp; go_at_call 92; (with_reducible refine (cloneInt_any A' c' p.ps _ (by omega) (HT.out.on (Below.refl _ _).drew)).mono ?_); rintro e w1 ⟨A9, c9, rfl, hb1, S9, O9⟩; have hOx := (hO.drew).below hb1; have hz1 : W0.heap.size ≤ w1.heap.size := Nat.le_trans hLz hb1.size; have hm1 := hm.drew.below hb1 hm.lt; have q0 := hm1.cell_ 0 rfl))
          all_goals
            have hne9 : p.ps ≠ [] := HNE.out
            obtain ⟨hI', hbl'⟩ := OutIn.app hI hO hLz ((Below.refl W.heap.size W).drew.trans hb1) hne9 (y := (⟨p.t, A9, p.ps.length, c9⟩ : Bt)) rfl rfl ((O9 hne9).mono_base hLz) hg'
            have hL' := hL.trans hbl'
            rw [← HAP.out] at hI'
            clear hI hO hL hm m0 m1 hg' hv' hbl' hb1 S9 O9 hOx hm1 q0 HT
            go_wp2_with fail
            go_roundw
            case rel => exact ⟨i + 1, _, by go_num, by omega, hO', hI', hL'⟩
            case measure => simp [intOf]; omega
        · obtain ⟨q, hq⟩ : ∃ q, os.length = q + 1 := ⟨os.length - 1, by have := List.length_pos_iff.2 hos; omega⟩
          obtain ⟨x, hx⟩ : ∃ x, os[q]? = some x := ⟨_, List.getElem?_eq_getElem (by omega)⟩
          obtain ⟨px, hpx⟩ : ∃ px, (foldB (s.take i))[q]? = some px := ⟨_, List.getElem?_eq_getElem (by rw [← hI.len]; omega)⟩
          obtain ⟨k1, k2, k3, k4⟩ := hI.in_ q x px hx hpx
          have hpxt := foldB_tb (pl := s.take i) (fun b hb => by have := (HSB.out b (List.mem_of_mem_take hb)).1; omega) (by have := HSN.out; simp; omega) px (List.mem_of_getElem? hpx)
          have hpxl : px.ps.length ≤ 1000 := by
            rcases foldl_keys ⟨px, List.mem_of_getElem? hpx, rfl⟩ with ⟨z, hz, ez⟩ | ⟨z, hz, _⟩
            · rw [← ez]; exact (HSB.out z (List.mem_of_mem_take (List.mem_filter.1 hz).1)).2.1
            · cases hz
          have HAT := hide (appB_at (p := p) hpx (by rw [← hI.len]; exact hq))
          obtain ⟨tx, Ax, nx, cx⟩ := x
          dsimp only at k1 k2 k4
          subst k1 k2
          have HQX := hide (And.intro hx hpx)
          have HEN : Hid (∀ (w : World) (js : List Value), Blk w 0 73 (os.flatMap Bt.enc ++ js).toArray → True) := fun _ _ _ => trivial
          obtain ⟨g, js, rfl, hge, hG⟩ := own_blkF hO hos
          have T1 := hide (k4.slc fun _ => rfl)
          have T2 := hide (hQ0.on hL)
          have HG0 : Hid ((os.flatMap Bt.enc ++ js).toArray[q * 2]? = some (.int .i64 px.t)) := blkF_get (f := Bt.enc) (n := 2) (fun _ => rfl) hx (j := 0) rfl
          have HG1 : Hid ((os.flatMap Bt.enc ++ js).toArray[q * 2 + 1]? = some (.slice Ax px.ps.length cx)) := blkF_get (f := Bt.enc) (n := 2) (fun _ => rfl) hx (j := 1) rfl
          have hqi : (q : Int) < (os.length : Int) := by omega
          have hq0 : (0 : Int) ≤ (q : Int) := by omega
          rw [show ((os.length : Int) - 1) = (q : Int) by omega]
          clear hq hx hpx k3 k4 HEN hos
          go_upto_region 10 with fail
          have g0 := hG.cell_ (q * 2) HG0.out
          have g1 := hG.cell_ (q * 2 + 1) HG1.out
          by_cases heq : px.ps = p.ps
          · have HEQ : Hid (eqL px.ps p.ps = true) := decide_eq_true heq
            have HAP : Hid (foldB (s.take (i + 1)) = (foldB (s.take i)).set q ⟨px.t + p.t, px.ps⟩) := by show _ = _; rw [HS.out, HAT.out, if_pos heq]
            clear heq
            go_wp2_with fail
            refine wp_region_quiet (C := fun w' => ∃ u : Since W, w' = u.w) (by kernel_rfl) (by kernel_rfl) (Since.start W) ?_
            dsimp only
            have y_m0 := Since.cell m0
            have y_m1 := Since.cell m1
            have y_g0 := Since.cell g0
            have y_g1 := Since.cell g1
            clear m0 m1
            repeat (go_big_quiet_step ((go_at_call 110; exact Since.calls ((equalL_any Ax cx px.ps A' c' p.ps _ (Slc.on T1.out (Since.h _)) (Slc.on T2.out (Since.h _)) (by omega)).mono fun e w' ⟨he, hb⟩ => ⟨by rw [he, HEQ.out], hb⟩))))
            refine wpQuiet_nil ?_
            rintro W ⟨⟨_, hb⟩, rfl⟩
            try dsimp only at hb ⊢
            replace g0 : W.cell? _ = _ := y_g0 ⟨W, hb⟩
            replace g1 : W.cell? _ = _ := y_g1 ⟨W, hb⟩
            clear y_m0 y_m1 y_g0 y_g1
            replace hO := hO.below hb
            replace hI := hI.below hb
            replace hL := hL.trans (hb.mono hL.size)
            replace hm := hm.below hb hm.lt
            replace hG := hG.below hb hG.lt
            clear hb
            have m0 := hm.cell_ 0 rfl
            have m1 := hm.cell_ 1 rfl
            go_upto_region 11 with fail
            have g0 := hG.cell_ (q * 2) HG0.out
            have HSZ : Hid (q * 2 < (os.flatMap Bt.enc ++ js).toArray.size) := (Array.getElem?_eq_some_iff.1 HG0.out).1
            go_wp2_with fail
            refine wp_region_quiet_tail (C := fun w' => ∃ u : Since W, w' = u.w) 10 (by kernel_rfl) (by kernel_rfl) (Since.start W) ?_
            simp only [List.take_succ_cons, List.take_zero, List.drop_succ_cons, List.drop_zero]
            have y_m0 := Since.cell m0
            have y_m1 := Since.cell m1
            have y_g0 := Since.cell g0
            clear m0 m1
            repeat (go_big_quiet_step ((fail)))
            refine wpQuiet_nil ?_
            rintro W ⟨⟨_, hb⟩, rfl⟩
            try dsimp only at hb ⊢
            replace g0 : W.cell? _ = _ := y_g0 ⟨W, hb⟩
            clear y_m0 y_m1 y_g0
            replace hO := hO.below hb
            replace hI := hI.below hb
            replace hL := hL.trans (hb.mono hL.size)
            replace hm := hm.below hb hm.lt
            replace hG := hG.below hb hG.lt
            clear hb
            have m0 := hm.cell_ 0 rfl
            have m1 := hm.cell_ 1 rfl
            refine wpList_store_at rfl 3 _ _ rfl (.int .i64 (px.t + p.t)) hG rfl rfl (by kernel_rfl) rfl HSZ.out rfl ?_
            intro W2 hG2 hcc
            rw [List.setIfInBounds_toArray, show q * 2 = q * 2 + 0 from rfl, flat_set (f := Bt.enc) (n := 2) (fun _ => rfl) (x' := ⟨px.t + p.t, Ax, px.ps.length, cx⟩) HQX.out.1 (by omega) rfl] at hG2
            have hO2 := own_putF (f := Bt.enc) (sz := 2) (fun _ => rfl) hO (List.length_set) hG hG2
            have hI2 := hI.put hcc hO HQX.out.1 HQX.out.2 (px.t + p.t)
            have hL2 := hL.trans (hcc.below1 hL.size hge)
            rw [← HAP.out] at hI2
            clear hI hO hL hm m0 m1 hG hG2 g0 hcc
            go_wp2_with fail
            go_roundw
            case rel => exact ⟨i + 1, _, by go_num, by omega, hO2, hI2, hL2⟩
            case measure => simp [intOf]; omega
          · have HEQ : Hid (eqL px.ps p.ps = false) := decide_eq_false heq
            have HAP : Hid (foldB (s.take (i + 1)) = foldB (s.take i) ++ [p]) := by show _ = _; rw [HS.out, HAT.out, if_neg heq]
            have HNE : Hid (p.ps ≠ []) := hne0
            clear heq
            go_wp2_with fail
            refine wp_region_quiet (C := fun w' => ∃ u : Since W, w' = u.w) (by kernel_rfl) (by kernel_rfl) (Since.start W) ?_
            dsimp only
            have y_m0 := Since.cell m0
            have y_m1 := Since.cell m1
            have y_g0 := Since.cell g0
            have y_g1 := Since.cell g1
            clear m0 m1
            repeat (go_big_quiet_step ((go_at_call 110; exact Since.calls ((equalL_any Ax cx px.ps A' c' p.ps _ (Slc.on T1.out (Since.h _)) (Slc.on T2.out (Since.h _)) (by omega)).mono fun e w' ⟨he, hb⟩ => ⟨by rw [he, HEQ.out], hb⟩))))
            refine wpQuiet_nil ?_
            rintro W ⟨⟨_, hb⟩, rfl⟩
            try dsimp only at hb ⊢
            replace g0 : W.cell? _ = _ := y_g0 ⟨W, hb⟩
            replace g1 : W.cell? _ = _ := y_g1 ⟨W, hb⟩
            clear y_m0 y_m1 y_g0 y_g1
            replace hO := hO.below hb
            replace hI := hI.below hb
            replace hL := hL.trans (hb.mono hL.size)
            replace hm := hm.below hb hm.lt
            replace hG := hG.below hb hG.lt
            clear hb
            have m0 := hm.cell_ 0 rfl
            have m1 := hm.cell_ 1 rfl
            go_upto_region 8 with fail
            clear hG
            have HT := hide (hQ0.on hL)
            have hLz := hL.size
            go_region_law (first | (refine step_own_app1 _ _ rfl rfl et_batch (y := (⟨p.t, A9, p.ps.length, c9⟩ : Bt)) (hOx.alloc _) rfl rfl ((Blk.new w1 73 #[.int .i64 p.t, .slice A9 p.ps.length c9]).slc1 rfl) (fun _ => rfl) bt_one (by simp <;> omega) (by simp <;> omega) ?_; intro v' W' hO' hg' hv') | (go_simp; go_at_call 92; (with_reducible refine (cloneInt_any A' c' p.ps _ (by omega) (HT.out.on (Below.refl _ _).drew)).mono ?_); rintro e w1 ⟨A9, c9, rfl, hb1, S9, O9⟩; have hOx := (hO.drew).below hb1; have hz1 : W0.heap.size ≤ w1.heap.size := Nat.le_trans hLz hb1.size; have hm1 := hm.drew.below hb1 hm.lt; have q0 := hm1.cell_ 0 rfl))
            all_goals
              have hne9 : p.ps ≠ [] := HNE.out
              obtain ⟨hI', hbl'⟩ := OutIn.app hI hO hLz ((Below.refl W.heap.size W).drew.trans hb1) hne9 (y := (⟨p.t, A9, p.ps.length, c9⟩ : Bt)) rfl rfl ((O9 hne9).mono_base hLz) hg'
              have hL' := hL.trans hbl'
              rw [← HAP.out] at hI'
              clear hI hO hL hm m0 m1 hg' hv' hbl' hb1 S9 O9 hOx hm1 q0 HT
              go_wp2_with fail
              go_roundw
              case rel => exact ⟨i + 1, _, by go_num, by omega, hO', hI', hL'⟩
              case measure => simp [intOf]; omega
    · obtain rfl : i = bs.length := by omega
      have HE : Hid (foldB (s.take bs.length) = foldB pl) := by show _ = _; rw [← HF.out, ← HSN.out, List.take_length]
      rw [HE.out] at hI
      have HBA := hide (big_all hI)
      go_wp2_with fail
      refine (containsBig_any Ao co os _ (by omega) hSo).mono ?_
      rintro e W2 ⟨rfl, hb2⟩
      have HW := hide (And.intro (hB.trans ((hL.trans (hb2.mono hL.size)).mono hB.size)) ((hI.below hb2).plan (hSo.on hb2)))
      have HLN := hide hI.len
      go_wp2_with fail
      go_ret2
      exact ⟨Ao, co, os, by rw [← HBA.out, ← HLN.out]; rfl, HW.out.1, HW.out.2⟩
end Go.Proofs.YtecaaimaeaocbaaDoor
