/- Parts of the proofs of this seat: KCanon, KCanApi, KCanQ, KTogether, KTogW. Each part says what it proves; no condition beyond those stated there. -/
import Derived.Deep.RegionLaw
import Derived.Test.YtkcfalehebacpaaDoorB9
import Derived.Test.YtkcfalehebacpaaDoorB13

/- canonical of the program: the walk. -/
namespace Go.Proofs.YtkcfalehebacpaaDoor
open Go Go.RowKit
theorem step_own_app1 {α : Type} {P : Program} {ops : Array Oper} {o : Oper} {a : Act} {K : Act → World → Prop} {Q : Exit → Act → World → Prop} {E : Prop} {w : World} {base : Nat} {e : TypeId} {sz : Nat} {f : α → List Value} {v : Value} {xs : List α} {A2 : Option Addr} {c2 B2 : Nat} {y : α} (s x : Operand) {t : TypeId} (hgd : o.guard = none)
    (ho : o.op = .call { callee := .builtin .append, args := #[s, x], argTypes := #[t, t] }) (he : ElemT P t e sz) (hown : Own w base e sz f v xs) (hs : a.eval s = v) (hx : a.eval x = .slice A2 1 c2) (h2 : Slc f sz w B2 A2 [y])
    (hf : ∀ x, (f x).length = sz) (h1c : ∀ x, ∀ u ∈ f x, u.oneCell' = true) (hlen : xs.length + 1 ≤ 1000000000) (hbase : base ≤ w.heap.size)
    (h : ∀ v' w', Own w' base e sz f v' (xs ++ [y]) → w.grownBy w' v.ownBlock → (∀ b, v'.ownBlock = some b → w.heap.size ≤ b ∨ v.ownBlock = some b) → K (a.put o.dst v') w') : if Region.wanted o (yielded ops a.tmps) = true then Oper.wp P o a w K Q else E := by
  have hw : Region.wanted o (yielded ops a.tmps) = true := by simp [Region.wanted, hgd]
  rw [if_pos hw]
  obtain ⟨v', w', hr, hO, hg, hv⟩ := run_app_own (P := P) (ty := o.type) he hown h2 (m := 1) rfl (c2 := c2) hf h1c hlen hbase
  unfold Oper.wp
  rw [exec_app ho hs hx hr]
  exact h v' w' hO hg hv
theorem foldl_len : ∀ (l out : List Bat), (l.foldl insB out).length ≤ out.length + l.length
  | [], out => by simp
  | b :: l, out => by
    have h1 := foldl_len l (insB out b)
    have h2 : ∀ out : List Bat, (insB out b).length ≤ out.length + 1 := fun out => by
      induction out with
      | nil => simp [insB]
      | cons x r ih =>
        rw [insB]
        split
        · simp; omega
        · split <;> simp
    have := h2 out
    rw [List.foldl_cons, List.length_cons]; omega
theorem foldB_len (pl : List Bat) : (foldB pl).length ≤ pl.length := by
  have h := foldl_len (pl.filter fun b => !emptyB b.ps) []
  have h2 := List.length_filter_le (fun b : Bat => !emptyB b.ps) pl
  unfold foldB
  simp at h
  omega
/-- the sort of the cloned plan -/
theorem sortAll_any {w0 : World} {A : Option Addr} {bs : List Bt} {pl : List Bat} (h : PlanAt w0 A bs pl) (hp : ∀ b ∈ pl, b.ps.length ≤ 100000) (A1 : Option Addr) (c1 : Nat) (w : World) (hb : Below w0.heap.size w0 w) (hO : bs ≠ [] → Own w w0.heap.size 43 2 Bt.enc (.slice A1 bs.length c1) bs) (hn : bs.length ≤ 100000) :
    Calls Tryd.prog 33 #[.slice A1 bs.length c1, .func (.func 34) #[] #[]] w fun e w' => e = .returned (.tuple #[]) ∧ Below w0.heap.size w w' ∧ ∃ bs' pl', PlanAt w' A1 bs' pl' ∧ pl'.Perm pl ∧ pl'.Pairwise fun x y => 0 ≤ cmpL x.ps y.ps := by
  by_cases hne : bs = []
  · subst hne
    have hpl : pl = [] := List.length_eq_zero_iff.1 h.len.symm
    subst hpl
    refine (sort0_any A1 c1 w).mono fun e w' ⟨he, hw⟩ => ⟨he, ?_, [], [], ⟨?_, rfl, fun i b p hb => by simp at hb⟩, List.Perm.refl _, List.Pairwise.nil⟩
    · subst hw; exact Below.refl _ _
    · exact fun i x hx => by simp at hx
  · obtain ⟨g, c', hv, hg1, hg2⟩ := (hO hne).at_ (List.length_pos_iff.2 hne)
    injection hv with e1 _ e3
    subst e1 e3
    exact sortB_any h hp w hb (hO hne) hn hg1 hg2
def CanonPost (pl : List Bat) (w : World) (e : Ending) (w' : World) : Prop :=
  ∃ A' c' os, e = .returned (.tuple #[.slice A' (foldB pl).length c', .bool ((foldB pl).all fun b => decide (b.t ≤ 1000))]) ∧ Below w.heap.size w w' ∧ PlanAt w' A' os (foldB pl)
theorem bt_one (x : Bt) : ∀ u ∈ Bt.enc x, u.oneCell' = true := fun u hu => by
  simp [Bt.enc] at hu
  rcases hu with rfl | rfl <;> rfl
theorem OutIn.app {W w1 W' : World} {base : Nat} {os : List Bt} {P : List Bat} {p : Bat} {v : Value} {y : Bt} {o : Obj} (hI : OutIn W base os P) (hO : Own W base 43 2 Bt.enc v os) (hz : base ≤ W.heap.size) (hb : Below W.heap.size W w1) (hne : p.ps ≠ []) (h1 : y.t = p.t) (h2 : y.n = p.ps.length)
    (O9 : Own w1 base 3 1 intEnc (.slice y.A y.n y.c) p.ps) (hg : (w1.alloc o).grownBy W' v.ownBlock) : OutIn W' base (os ++ [y]) (P ++ [p]) ∧ Below base W W' := by
  have hb2 : Below W.heap.size W (w1.alloc o) := hb.alloc hb.size o
  have hO2 := hO.below hb2
  refine ⟨((hI.below hb2).grown hO2 hg).snoc h1 h2 hne (own_kept (O9.alloc o) hg fun k hk hv => own_ne_own (O9.alloc o) hO2 (by decide) k hk hv), ?_⟩
  exact (hb2.mono hz).trans (grownv_below hg (Nat.le_trans hz hb2.size) fun k hk => (own_ge hO k hk).1)
theorem appB_at {P : List Bat} {q : Nat} {px p : Bat} (h : P[q]? = some px) (hl : P.length = q + 1) : appB P p = if px.ps = p.ps then P.set q ⟨px.t + p.t, px.ps⟩ else P ++ [p] := by
  obtain ⟨P0, z, rfl⟩ : ∃ P0 z, P = P0 ++ [z] := by
    have hne : P ≠ [] := by rintro rfl; simp at hl
    exact ⟨P.dropLast, P.getLast hne, (List.dropLast_concat_getLast hne).symm⟩
  have hq : P0.length = q := by simp at hl; exact hl
  subst hq
  rw [List.getElem?_append_right (Nat.le_refl _), Nat.sub_self] at h
  simp at h
  subst h
  unfold appB
  rw [List.getLast?_append]
  simp only [List.getLast?_singleton, Option.some_or, List.dropLast_concat]
  rw [List.set_append_right _ _ (Nat.le_refl _), Nat.sub_self]
  rfl
theorem insB_tb {M : Int} : ∀ {out : List Bat} {b : Bat}, (∀ x ∈ out, 0 ≤ x.t ∧ x.t ≤ M) → 0 ≤ M → (0 ≤ b.t ∧ b.t ≤ 1000) → ∀ x ∈ insB out b, 0 ≤ x.t ∧ x.t ≤ M + 1000
  | [], b, _, hM, hb, x, hx => by
    rw [insB, List.mem_singleton] at hx
    subst hx; omega
  | y :: out, b, h, hM, hb, x, hx => by
    have hy := h y (List.mem_cons_self ..)
    rw [insB] at hx
    split at hx
    · rcases List.mem_cons.1 hx with rfl | hx
      · omega
      · exact insB_tb (fun z hz => h z (List.mem_cons_of_mem _ hz)) hM hb x hx
    · split at hx
      · rcases List.mem_cons.1 hx with rfl | hx
        · dsimp only; omega
        · have := h x (List.mem_cons_of_mem _ hx); omega
      · rcases List.mem_cons.1 hx with rfl | hx
        · omega
        · have := h x hx; omega
theorem foldl_tb : ∀ {l out : List Bat} {M : Int}, (∀ x ∈ out, 0 ≤ x.t ∧ x.t ≤ M) → 0 ≤ M → (∀ b ∈ l, 0 ≤ b.t ∧ b.t ≤ 1000) → ∀ x ∈ l.foldl insB out, 0 ≤ x.t ∧ x.t ≤ M + 1000 * l.length
  | [], _, _, h, _, _, x, hx => by have := h x hx; simp; exact this
  | b :: l, out, M, h, hM, hl, x, hx => by
    have := foldl_tb (l := l) (out := insB out b) (M := M + 1000) (insB_tb h hM (hl b (List.mem_cons_self ..))) (by omega) (fun z hz => hl z (List.mem_cons_of_mem _ hz)) x hx
    rw [List.length_cons]; push_cast; omega
theorem foldB_tb {pl : List Bat} (h : ∀ b ∈ pl, 0 ≤ b.t ∧ b.t ≤ 1000) (hn : pl.length ≤ 1000) : ∀ x ∈ foldB pl, 0 ≤ x.t ∧ x.t ≤ 1000000 := fun x hx => by
  have h2 := List.length_filter_le (fun b : Bat => !emptyB b.ps) pl
  have := foldl_tb (l := pl.filter fun b => !emptyB b.ps) (out := []) (M := 0) (by simp) (Int.le_refl _) (fun b hb => h b (List.mem_filter.1 hb).1) x hx
  omega
theorem OutIn.put {W W2 : World} {base base' g n c q : Nat} {os : List Bt} {P : List Bat} {x : Bt} {px : Bat} (h : OutIn W base os P) (hc : Chg (fun k => k = g) W W2) (hO : Own W base' 43 2 Bt.enc (.slice (some ⟨g, 0, none⟩) n c) os) (hx : os[q]? = some x) (hp : P[q]? = some px) (t : Int) : OutIn W2 base (os.set q ⟨t, x.A, x.n, x.c⟩) (P.set q ⟨t, px.ps⟩) := by
  have hg : W.grownBy W2 (some g) := ⟨hc.os, hc.tape, hc.output, hc.size, fun k hk hne => hc.block k hk fun e => hne (by rw [e])⟩
  have hk : ∀ (i : Nat) b p, os[i]? = some b → P[i]? = some p → b.t = p.t ∧ b.n = p.ps.length ∧ p.ps ≠ [] ∧ Own W2 base 3 1 intEnc (.slice b.A b.n b.c) p.ps := fun i b p h1 h2 => by
    obtain ⟨a1, a2, a3, a4⟩ := h.in_ i b p h1 h2
    exact ⟨a1, a2, a3, own_kept a4 hg fun k hk hv => own_ne_own a4 hO (by decide) k hk hv⟩
  refine ⟨by rw [List.length_set, List.length_set, h.len], fun i b p h1 h2 => ?_⟩
  rw [List.getElem?_set] at h1 h2
  by_cases hi : q = i
  · subst hi
    rw [if_pos rfl, if_pos (List.getElem?_eq_some_iff.1 hx).1] at h1
    rw [if_pos rfl, if_pos (List.getElem?_eq_some_iff.1 hp).1] at h2
    injection h1 with h1
    injection h2 with h2
    subst h1 h2
    obtain ⟨_, a2, a3, a4⟩ := hk q x px hx hp
    exact ⟨rfl, a2, a3, a4⟩
  · rw [if_neg hi] at h1 h2
    exact hk i b p h1 h2
/-- a batch of more than 1000 -/
def tok (b : Bt) : Bool := !decide (1000 < b.t)
theorem big1_any (x : Bt) (w : World) : Calls Tryd.prog 41 #[.agg #[.int .i64 x.t, .slice x.A x.n x.c]] w fun e w' => e = .returned (.bool (!tok x)) ∧ Below w.heap.size w w' := by
  have HV : Hid (tok x = !decide (1000 < x.t)) := rfl
  have hB := (Below.refl w.heap.size w).alloc (Nat.le_refl _) (.cells #[.int .i64 x.t, .slice x.A x.n x.c] 43)
  by_cases h : 1000 < x.t
  · have HV2 : Hid ((!tok x) = true) := by show _ = _; rw [HV.out, decide_eq_true h]; rfl
    go_enter Tryd.func41, Tryd.ntmps41
    go_wp2_with fail
    go_ret
    exact ⟨ret_bool HV2.out.symm, hB⟩
  · have HV2 : Hid ((!tok x) = false) := by show _ = _; rw [HV.out, decide_eq_false h]; rfl
    go_enter Tryd.func41, Tryd.ntmps41
    go_wp2_with fail
    go_ret
    exact ⟨ret_bool HV2.out.symm, hB⟩
set_option maxHeartbeats 1000000 in
theorem indexBig_any (A : Option Addr) (c : Nat) (l : List Bt) (w : World) (hlen : l.length ≤ 100000) (hS : Slc Bt.enc 2 w w.heap.size A l) :
    Calls Tryd.prog 50 #[.slice A l.length c, .func (.func 41) #[] #[]] w (IxPost (l.any fun x => !tok x) w) := by
  go_enter Tryd.func50, Tryd.ntmps50
  go_wp2_with fail
  go_loopw [8] (fun i wr => ∃ k : Nat, k ≤ l.length ∧ i = .int .i64 k ∧ Hid ((l.any fun x => !tok x) = (l.drop k).any (fun x => !tok x)) ∧ Below w.heap.size w wr) (fun i _ => l.length - (intOf i).toNat)
  case atStart => exact ⟨0, Nat.zero_le _, rfl, hide rfl, Below.refl _ _⟩
  case round =>
    obtain ⟨k, hk, rfl, HS, hbel⟩ := hrel
    by_cases hlt : k < l.length
    · obtain ⟨x, b, off, hx, hA, hb, d0, d1⟩ := bt_at (hS.below hbel) hlt
      have hki : (k : Int) < (l.length : Int) := by omega
      subst hA
      have HX := hide hx
      clear hx
      go_wp2_with fail
      refine (big1_any x _).mono ?_
      rintro e w2 ⟨rfl, hb2⟩
      clear d0 d1
      cases hok : tok x
      · go_wp2_with fail
        go_ret
        exact ⟨k, rfl, by rw [HS.out, any_drop HX.out, hok]; simp, hbel.trans (hb2.mono hbel.size)⟩
      · go_wp2_with fail
        go_roundw
        case rel => exact ⟨k + 1, by omega, by go_num, hide (by rw [HS.out, any_drop HX.out, hok]; rfl), hbel.trans (hb2.mono hbel.size)⟩
        case measure => simp [intOf]; omega
    · obtain rfl : k = l.length := by omega
      go_wp2_with fail
      go_ret
      exact ⟨-1, rfl, by rw [HS.out, List.drop_length]; rfl, hbel⟩
theorem containsBig_any (A : Option Addr) (c : Nat) (l : List Bt) (w : World) (hlen : l.length ≤ 100000) (hS : Slc Bt.enc 2 w w.heap.size A l) :
    Calls Tryd.prog 40 #[.slice A l.length c, .func (.func 41) #[] #[]] w fun e w' => e = .returned (.bool (l.any fun x => !tok x)) ∧ Below w.heap.size w w' := by
  go_enter Tryd.func40, Tryd.ntmps40
  go_wp2_with fail
  refine (indexBig_any A c l _ hlen hS).mono ?_
  rintro e w2 ⟨r, rfl, hr, hb2⟩
  have HR := hide hr
  clear hr
  go_wp2_with fail
  go_ret
  exact ⟨ret_bool HR.out, hb2⟩
theorem big_all {w : World} {base : Nat} {os : List Bt} {P : List Bat} (h : OutIn w base os P) : (!(os.any fun x => !tok x)) = P.all fun b => decide (b.t ≤ 1000) := by
  rw [Bool.eq_iff_iff]
  simp only [Bool.not_eq_true', List.any_eq_false, all_at, decide_eq_true_eq, tok, Bool.not_not, Bool.not_eq_true, decide_eq_false_iff_not]
  constructor
  · intro h1 i p hp
    obtain ⟨b, hb⟩ : ∃ b, os[i]? = some b := ⟨_, List.getElem?_eq_getElem (by rw [h.len]; exact (List.getElem?_eq_some_iff.1 hp).1)⟩
    have := h1 b (List.mem_of_getElem? hb)
    have := (h.in_ i b p hb hp).1
    omega
  · intro h1 b hb
    obtain ⟨i, hi⟩ := List.getElem?_of_mem hb
    obtain ⟨p, hp⟩ : ∃ p, P[i]? = some p := ⟨_, List.getElem?_eq_getElem (by rw [← h.len]; exact (List.getElem?_eq_some_iff.1 hi).1)⟩
    have := h1 i p hp
    have := (h.in_ i b p hi hp).1
    omega
set_option maxRecDepth 100000 in
set_option maxHeartbeats 4000000 in
theorem canonical_any (A : Option Addr) (c : Nat) (bs : List Bt) (pl : List Bat) (w : World) (hP : PlanAt w A bs pl) (hn : pl.length ≤ 1000) (hpb : ∀ b ∈ pl, (1 ≤ b.t ∧ b.t ≤ 1000) ∧ b.ps.length ≤ 1000 ∧ ∀ p ∈ b.ps, 0 ≤ p) :
    Calls Tryd.prog 20 #[.slice A pl.length c] w (CanonPost pl w) := by
  rw [← hP.len]
  have hbn : bs.length ≤ 1000 := by rw [hP.len]; exact hn
  have HPB := hide hpb
  clear hpb
  go_enter Tryd.func20, Tryd.ntmps20
  go_wp2_with fail
  refine (cloneBt_any A c bs _ (by omega) hP.row).mono ?_
  rintro e W ⟨A1, c1, rfl, hB, hS1, hO1⟩
  clear hS1
  go_wp2_with fail
  refine (sortAll_any hP (fun b hb => by have := (HPB.out b hb).2.1; omega) A1 c1 W hB hO1 (by omega)).mono ?_
  rintro e W0 ⟨rfl, hb0, bs', s, hQ, hperm, hsort⟩
  replace hB := hB.trans (hb0.mono (Nat.le_refl _))
  clear hb0 hO1
  have HF := hide (foldB_perm hperm)
  have hsl : bs'.length = bs.length := by rw [hQ.len, hP.len]; exact hperm.length_eq
  have HSL := hide hsl
  have HSB : Hid (∀ b ∈ s, (1 ≤ b.t ∧ b.t ≤ 1000) ∧ b.ps.length ≤ 1000 ∧ ∀ p ∈ b.ps, 0 ≤ p) := fun b hb => HPB.out b (hperm.subset hb)
  have HSO := hide hsort
  have hsn : s.length = bs.length := by rw [← hQ.len]; exact hsl
  have HSN := hide hsn
  clear hsl hperm hsort hsn
  obtain ⟨W, hW⟩ : ∃ W, W = W0 := ⟨_, rfl⟩
  have hL : Below W0.heap.size W0 W := by rw [hW]; exact Below.refl _ _
  rw [← hW]
  clear hW
  have hO : Own W W0.heap.size 43 2 Bt.enc (.slice none 0 0) [] := Own.nil_
  have hI : OutIn W W0.heap.size [] (foldB (s.take 0)) := OutIn.nil_ _ _
  go_wp2_with fail
  go_loopw [4, 15] (fun v y W => ∃ (i : Nat) (os : List Bt), y = .int .i64 i ∧ i ≤ bs.length ∧ Own W W0.heap.size 43 2 Bt.enc v os ∧ OutIn W W0.heap.size os (foldB (s.take i)) ∧ Below W0.heap.size W0 W) (fun v y _ => bs.length - (intOf y).toNat)
  case atStart => exact ⟨0, [], rfl, Nat.zero_le _, hO, hI, hL⟩
  case round =>
    clear hO hI hL
    obtain ⟨W, rfl⟩ : ∃ W : World, W = wr := ⟨_, rfl⟩
    obtain ⟨i, os, rfl, hi, hO, hI, hL⟩ := hrel
    obtain ⟨Ao, co, rfl, hSo⟩ := hO.form fun _ => rfl
    have hol : os.length ≤ 1000 := by
      have h1 := hI.len
      have h2 := foldB_len (s.take i)
      simp at h2
      omega
    by_cases hlt : i < bs.length
    · obtain ⟨p, b, off, A', c', hp, hA, hbl, d0, d1, hQ0⟩ := plan_at hQ (show i < s.length by rw [HSN.out]; exact hlt)
      replace d0 := (hL.cell (p := ⟨b, off + i * 2, none⟩) hbl).trans d0
      replace d1 := (hL.cell (p := ⟨b, off + i * 2 + 1, none⟩) hbl).trans d1
      have hii : (i : Int) < (bs.length : Int) := by omega
      have HX := hide hp
      obtain ⟨hpt, hpl, hp0⟩ := HSB.out p (List.mem_of_getElem? hp)
      have HP0 := hide hp0
      have hLs := hL.size
      clear hp hp0 hSo
      subst hA
      go_upto_region 7 with fail
      have hm := Blk.new W 43 #[.int .i64 p.t, .slice A' p.ps.length c']
      replace hO := hO.alloc (.cells #[.int .i64 p.t, .slice A' p.ps.length c'] 43)
      replace hI := hI.below ((Below.refl _ W).alloc (Nat.le_refl _) (.cells #[.int .i64 p.t, .slice A' p.ps.length c'] 43))
      replace hL := hL.trans (((Below.refl _ W).alloc (Nat.le_refl _) (.cells #[.int .i64 p.t, .slice A' p.ps.length c'] 43)).mono hL.size)
      have hsz_bx : (W.alloc (.cells #[.int .i64 p.t, .slice A' p.ps.length c'] 43)).heap.size = W.heap.size + 1 := by simp
      generalize hbx : W.heap.size = bx at *
      generalize W.alloc (.cells #[.int .i64 p.t, .slice A' p.ps.length c'] 43) = W at *
      clear hbx
      have m0 := hm.cell_ 0 rfl
      have m1 := hm.cell_ 1 rfl
      clear d0 d1
      cases he : emptyB p.ps
      case true =>
        have HPE : Hid ((p.ps.any fun x => !npos x) = false) := by show _ = _; rw [pos_empty HP0.out, he]; rfl
        have HS := hide (foldB_snoc HSO.out HX.out)
        have hI2 : OutIn W W0.heap.size os (foldB (s.take (i + 1))) := by rw [HS.out, if_pos he]; exact hI
        clear hI he
        go_wp2_with fail
        refine (containsPos_any A' c' p.ps _ (by omega) (hQ0.on hL)).mono ?_
        rintro e W ⟨rfl, hb⟩
        clear m0 m1
        replace hO := hO.below hb
        replace hL := hL.trans (hb.mono hL.size)
        replace hm := hm.below hb hm.lt
        replace hI2 := hI2.below hb
        clear hb
        have m0 := hm.cell_ 0 rfl
        have m1 := hm.cell_ 1 rfl
        rw [HPE.out]
        go_wp2_with fail
        go_roundw
        case rel => exact ⟨i + 1, os, by go_num, by omega, hO, hI2, hL⟩
        case measure => simp [intOf]; omega
      case false =>
        have HPE : Hid ((p.ps.any fun x => !npos x) = true) := by show _ = _; rw [pos_empty HP0.out, he]; rfl
        have HS : Hid (foldB (s.take (i + 1)) = appB (foldB (s.take i)) p) := by show _ = _; rw [foldB_snoc HSO.out HX.out, he]; rfl
        have hne0 : p.ps ≠ [] := by rintro h; rw [h] at he; simp [emptyB] at he
        clear he
        go_wp2_with fail
        refine (containsPos_any A' c' p.ps _ (by omega) (hQ0.on hL)).mono ?_
        rintro e W ⟨rfl, hb⟩
        clear m0 m1
        replace hO := hO.below hb
        replace hI := hI.below hb
        replace hL := hL.trans (hb.mono hL.size)
        replace hm := hm.below hb hm.lt
        clear hb
        have m0 := hm.cell_ 0 rfl
        have m1 := hm.cell_ 1 rfl
        rw [HPE.out]
        by_cases hos : os = []
        · subst hos
          dsimp only [List.length_nil]
          go_upto_region 10 with fail
          rw [show (((0 : Nat) : Int) - 1) = -1 from rfl]
          go_wp2_with fail
          refine wp_region_quiet (C := fun w' => ∃ u : Since W, w' = u.w) (by kernel_rfl) (by kernel_rfl) (Since.start W) ?_
          dsimp only
          have y_m0 := Since.cell m0
          have y_m1 := Since.cell m1
          clear m0 m1
          repeat (go_big_quiet_step ((fail)))
          refine wpQuiet_nil ?_
          rintro W ⟨⟨_, hb⟩, rfl⟩
          try dsimp only at hb ⊢
          clear y_m0 y_m1
          replace hO := hO.below hb
          replace hI := hI.below hb
          replace hL := hL.trans (hb.mono hL.size)
          replace hm := hm.below hb hm.lt
          clear hb
          have m0 := hm.cell_ 0 rfl
          have m1 := hm.cell_ 1 rfl
          go_upto_region 8 with fail
          have HNE : Hid (p.ps ≠ []) := hne0
          have HAP : Hid (foldB (s.take (i + 1)) = foldB (s.take i) ++ [p]) := by
            show _ = _
            rw [HS.out, List.length_eq_zero_iff.1 (hI.len.symm)]; rfl
          have HT := hide (hQ0.on hL)
          have hLz := hL.size
          go_region_law (first | (refine step_own_app1 _ _ rfl rfl et_batch (y := (⟨p.t, A9, p.ps.length, c9⟩ : Bt)) (hOx.alloc _) rfl rfl ((Blk.new w1 43 #[.int .i64 p.t, .slice A9 p.ps.length c9]).slc1 rfl) (fun _ => rfl) bt_one (by simp <;> omega) (by simp <;> omega) ?_; intro v' W' hO' hg' hv') | (go_simp; go_at_call 39; (with_reducible refine (cloneInt_any A' c' p.ps _ (by omega) (HT.out.on (Below.refl _ _).drew)).mono ?_); rintro e w1 ⟨A9, c9, rfl, hb1, S9, O9⟩; have hOx := (hO.drew).below hb1; have hz1 : W0.heap.size ≤ w1.heap.size := Nat.le_trans hLz hb1.size; have hm1 := hm.drew.below hb1 hm.lt; have q0 := hm1.cell_ 0 rfl))
          all_goals
            have hne9 : p.ps ≠ [] := HNE.out
            obtain ⟨hI', hbl'⟩ := OutIn.app hI hO hLz ((Below.refl W.heap.size W).drew.trans hb1) hne9 (y := (⟨p.t, A9, p.ps.length, c9⟩ : Bt)) rfl rfl ((O9 hne9).mono_base hLz) hg'
            have hL' := hL.trans hbl'
            rw [← HAP.out] at hI'
            clear hI hO hL hm m0 m1 hg' hv' hbl' hb1 S9 O9 hOx hm1 q0 HT
            go_wp2_with fail
            go_roundw
            case rel => exact ⟨i + 1, _, by go_num, by omega, hO', hI', hL'⟩
            case measure => simp [intOf]; omega
        · obtain ⟨q, hq⟩ : ∃ q, os.length = q + 1 := ⟨os.length - 1, by have := List.length_pos_iff.2 hos; omega⟩
          obtain ⟨x, hx⟩ : ∃ x, os[q]? = some x := ⟨_, List.getElem?_eq_getElem (by omega)⟩
          obtain ⟨px, hpx⟩ : ∃ px, (foldB (s.take i))[q]? = some px := ⟨_, List.getElem?_eq_getElem (by rw [← hI.len]; omega)⟩
          obtain ⟨k1, k2, k3, k4⟩ := hI.in_ q x px hx hpx
          have hpxt := foldB_tb (pl := s.take i) (fun b hb => by have := (HSB.out b (List.mem_of_mem_take hb)).1; omega) (by have := HSN.out; simp; omega) px (List.mem_of_getElem? hpx)
          have hpxl : px.ps.length ≤ 1000 := by
            rcases foldl_keys ⟨px, List.mem_of_getElem? hpx, rfl⟩ with ⟨z, hz, ez⟩ | ⟨z, hz, _⟩
            · rw [← ez]; exact (HSB.out z (List.mem_of_mem_take (List.mem_filter.1 hz).1)).2.1
            · cases hz
          have HAT := hide (appB_at (p := p) hpx (by rw [← hI.len]; exact hq))
          obtain ⟨tx, Ax, nx, cx⟩ := x
          dsimp only at k1 k2 k4
          subst k1 k2
          have HQX := hide (And.intro hx hpx)
          have HEN : Hid (∀ (w : World) (js : List Value), Blk w 0 43 (os.flatMap Bt.enc ++ js).toArray → True) := fun _ _ _ => trivial
          obtain ⟨g, js, rfl, hge, hG⟩ := own_blkF hO hos
          have T1 := hide (k4.slc fun _ => rfl)
          have T2 := hide (hQ0.on hL)
          have HG0 : Hid ((os.flatMap Bt.enc ++ js).toArray[q * 2]? = some (.int .i64 px.t)) := blkF_get (f := Bt.enc) (n := 2) (fun _ => rfl) hx (j := 0) rfl
          have HG1 : Hid ((os.flatMap Bt.enc ++ js).toArray[q * 2 + 1]? = some (.slice Ax px.ps.length cx)) := blkF_get (f := Bt.enc) (n := 2) (fun _ => rfl) hx (j := 1) rfl
          have hqi : (q : Int) < (os.length : Int) := by omega
          have hq0 : (0 : Int) ≤ (q : Int) := by omega
          rw [show ((os.length : Int) - 1) = (q : Int) by omega]
          clear hq hx hpx k3 k4 HEN hos
          go_upto_region 10 with fail
          have g0 := hG.cell_ (q * 2) HG0.out
          have g1 := hG.cell_ (q * 2 + 1) HG1.out
          by_cases heq : px.ps = p.ps
          · have HEQ : Hid (eqL px.ps p.ps = true) := decide_eq_true heq
            have HAP : Hid (foldB (s.take (i + 1)) = (foldB (s.take i)).set q ⟨px.t + p.t, px.ps⟩) := by show _ = _; rw [HS.out, HAT.out, if_pos heq]
            clear heq
            go_wp2_with fail
            refine wp_region_quiet (C := fun w' => ∃ u : Since W, w' = u.w) (by kernel_rfl) (by kernel_rfl) (Since.start W) ?_
            dsimp only
            have y_m0 := Since.cell m0
            have y_m1 := Since.cell m1
            have y_g0 := Since.cell g0
            have y_g1 := Since.cell g1
            clear m0 m1
            repeat (go_big_quiet_step ((go_at_call 38; exact Since.calls ((equalL_any Ax cx px.ps A' c' p.ps _ (Slc.on T1.out (Since.h _)) (Slc.on T2.out (Since.h _)) (by omega)).mono fun e w' ⟨he, hb⟩ => ⟨by rw [he, HEQ.out], hb⟩))))
            refine wpQuiet_nil ?_
            rintro W ⟨⟨_, hb⟩, rfl⟩
            try dsimp only at hb ⊢
            replace g0 : W.cell? _ = _ := y_g0 ⟨W, hb⟩
            replace g1 : W.cell? _ = _ := y_g1 ⟨W, hb⟩
            clear y_m0 y_m1 y_g0 y_g1
            replace hO := hO.below hb
            replace hI := hI.below hb
            replace hL := hL.trans (hb.mono hL.size)
            replace hm := hm.below hb hm.lt
            replace hG := hG.below hb hG.lt
            clear hb
            have m0 := hm.cell_ 0 rfl
            have m1 := hm.cell_ 1 rfl
            go_upto_region 11 with fail
            have g0 := hG.cell_ (q * 2) HG0.out
            have HSZ : Hid (q * 2 < (os.flatMap Bt.enc ++ js).toArray.size) := (Array.getElem?_eq_some_iff.1 HG0.out).1
            go_wp2_with fail
            refine wp_region_quiet_tail (C := fun w' => ∃ u : Since W, w' = u.w) 10 (by kernel_rfl) (by kernel_rfl) (Since.start W) ?_
            simp only [List.take_succ_cons, List.take_zero, List.drop_succ_cons, List.drop_zero]
            have y_m0 := Since.cell m0
            have y_m1 := Since.cell m1
            have y_g0 := Since.cell g0
            clear m0 m1
            repeat (go_big_quiet_step ((fail)))
            refine wpQuiet_nil ?_
            rintro W ⟨⟨_, hb⟩, rfl⟩
            try dsimp only at hb ⊢
            replace g0 : W.cell? _ = _ := y_g0 ⟨W, hb⟩
            clear y_m0 y_m1 y_g0
            replace hO := hO.below hb
            replace hI := hI.below hb
            replace hL := hL.trans (hb.mono hL.size)
            replace hm := hm.below hb hm.lt
            replace hG := hG.below hb hG.lt
            clear hb
            have m0 := hm.cell_ 0 rfl
            have m1 := hm.cell_ 1 rfl
            refine wpList_store_at rfl 3 _ _ rfl (.int .i64 (px.t + p.t)) hG rfl rfl (by kernel_rfl) rfl HSZ.out rfl ?_
            intro W2 hG2 hcc
            rw [List.setIfInBounds_toArray, show q * 2 = q * 2 + 0 from rfl, flat_set (f := Bt.enc) (n := 2) (fun _ => rfl) (x' := ⟨px.t + p.t, Ax, px.ps.length, cx⟩) HQX.out.1 (by omega) rfl] at hG2
            have hO2 := own_putF (f := Bt.enc) (sz := 2) (fun _ => rfl) hO (List.length_set) hG hG2
            have hI2 := hI.put hcc hO HQX.out.1 HQX.out.2 (px.t + p.t)
            have hL2 := hL.trans (hcc.below1 hL.size hge)
            rw [← HAP.out] at hI2
            clear hI hO hL hm m0 m1 hG hG2 g0 hcc
            go_wp2_with fail
            go_roundw
            case rel => exact ⟨i + 1, _, by go_num, by omega, hO2, hI2, hL2⟩
            case measure => simp [intOf]; omega
          · have HEQ : Hid (eqL px.ps p.ps = false) := decide_eq_false heq
            have HAP : Hid (foldB (s.take (i + 1)) = foldB (s.take i) ++ [p]) := by show _ = _; rw [HS.out, HAT.out, if_neg heq]
            have HNE : Hid (p.ps ≠ []) := hne0
            clear heq
            go_wp2_with fail
            refine wp_region_quiet (C := fun w' => ∃ u : Since W, w' = u.w) (by kernel_rfl) (by kernel_rfl) (Since.start W) ?_
            dsimp only
            have y_m0 := Since.cell m0
            have y_m1 := Since.cell m1
            have y_g0 := Since.cell g0
            have y_g1 := Since.cell g1
            clear m0 m1
            repeat (go_big_quiet_step ((go_at_call 38; exact Since.calls ((equalL_any Ax cx px.ps A' c' p.ps _ (Slc.on T1.out (Since.h _)) (Slc.on T2.out (Since.h _)) (by omega)).mono fun e w' ⟨he, hb⟩ => ⟨by rw [he, HEQ.out], hb⟩))))
            refine wpQuiet_nil ?_
            rintro W ⟨⟨_, hb⟩, rfl⟩
            try dsimp only at hb ⊢
            replace g0 : W.cell? _ = _ := y_g0 ⟨W, hb⟩
            replace g1 : W.cell? _ = _ := y_g1 ⟨W, hb⟩
            clear y_m0 y_m1 y_g0 y_g1
            replace hO := hO.below hb
            replace hI := hI.below hb
            replace hL := hL.trans (hb.mono hL.size)
            replace hm := hm.below hb hm.lt
            replace hG := hG.below hb hG.lt
            clear hb
            have m0 := hm.cell_ 0 rfl
            have m1 := hm.cell_ 1 rfl
            go_upto_region 8 with fail
            clear hG
            have HT := hide (hQ0.on hL)
            have hLz := hL.size
            go_region_law (first | (refine step_own_app1 _ _ rfl rfl et_batch (y := (⟨p.t, A9, p.ps.length, c9⟩ : Bt)) (hOx.alloc _) rfl rfl ((Blk.new w1 43 #[.int .i64 p.t, .slice A9 p.ps.length c9]).slc1 rfl) (fun _ => rfl) bt_one (by simp <;> omega) (by simp <;> omega) ?_; intro v' W' hO' hg' hv') | (go_simp; go_at_call 39; (with_reducible refine (cloneInt_any A' c' p.ps _ (by omega) (HT.out.on (Below.refl _ _).drew)).mono ?_); rintro e w1 ⟨A9, c9, rfl, hb1, S9, O9⟩; have hOx := (hO.drew).below hb1; have hz1 : W0.heap.size ≤ w1.heap.size := Nat.le_trans hLz hb1.size; have hm1 := hm.drew.below hb1 hm.lt; have q0 := hm1.cell_ 0 rfl))
            all_goals
              have hne9 : p.ps ≠ [] := HNE.out
              obtain ⟨hI', hbl'⟩ := OutIn.app hI hO hLz ((Below.refl W.heap.size W).drew.trans hb1) hne9 (y := (⟨p.t, A9, p.ps.length, c9⟩ : Bt)) rfl rfl ((O9 hne9).mono_base hLz) hg'
              have hL' := hL.trans hbl'
              rw [← HAP.out] at hI'
              clear hI hO hL hm m0 m1 hg' hv' hbl' hb1 S9 O9 hOx hm1 q0 HT
              go_wp2_with fail
              go_roundw
              case rel => exact ⟨i + 1, _, by go_num, by omega, hO', hI', hL'⟩
              case measure => simp [intOf]; omega
    · obtain rfl : i = bs.length := by omega
      have HE : Hid (foldB (s.take bs.length) = foldB pl) := by show _ = _; rw [← HF.out, ← HSN.out, List.take_length]
      rw [HE.out] at hI
      have HBA := hide (big_all hI)
      go_wp2_with fail
      refine (containsBig_any Ao co os _ (by omega) hSo).mono ?_
      rintro e W2 ⟨rfl, hb2⟩
      have HW := hide (And.intro (hB.trans ((hL.trans (hb2.mono hL.size)).mono hB.size)) ((hI.below hb2).plan (hSo.on hb2)))
      have HLN := hide hI.len
      go_wp2_with fail
      go_ret2
      exact ⟨Ao, co, os, by rw [← HBA.out, ← HLN.out]; rfl, HW.out.1, HW.out.2⟩
end Go.Proofs.YtkcfalehebacpaaDoor

/- Canonical of the program: the walk. -/
namespace Go.Proofs.YtkcfalehebacpaaDoor
open Go Go.RowKit
def cnE (L K : Int) (l : List Ask) (pl : List Bat) : Int := if chkE L K l pl = 0 then (if (foldB pl).all (fun b => decide (b.t ≤ 1000)) then 0 else 2) else chkE L K l pl
def cnP (L K : Int) (l : List Ask) (pl : List Bat) : List Bat := if cnE L K l pl = 0 then foldB pl else []
def ApiCanonPost (L K : Int) (l : List Ask) (pl : List Bat) (w : World) (e : Ending) (w' : World) : Prop :=
  ∃ A' c' os, e = .returned (.tuple #[.slice A' (cnP L K l pl).length c', .int .i64 (cnE L K l pl)]) ∧ Below w.heap.size w w' ∧ PlanAt w' A' os (cnP L K l pl)
theorem PlanAt.nil_ (w : World) : PlanAt w none [] [] := ⟨fun i x h => by simp at h, rfl, fun i b p h => by simp at h⟩
theorem canon_ok {L K : Int} {l : List Ask} {pl : List Bat} (h : chkE L K l pl = 0) : pl.length ≤ 1000 ∧ ∀ b ∈ pl, (1 ≤ b.t ∧ b.t ≤ 1000) ∧ b.ps.length ≤ 1000 ∧ ∀ p ∈ b.ps, 0 ≤ p := by
  obtain ⟨h1, h2, h3⟩ := chk_zero h
  refine ⟨shaped_few h2, fun b hb => ?_⟩
  obtain ⟨i, hi⟩ := List.getElem?_of_mem hb
  obtain ⟨a1, a2⟩ := shaped_at h2 hi
  refine ⟨a1, ?_, fun p hp => (fits_ok (h3 i b hi) p hp).1⟩
  have := (validK_iff.1 h1).few
  omega
end Go.Proofs.YtkcfalehebacpaaDoor

/- CutCanonical: the plain law. A plan that is mixed and split has the same canonical plan; canonical of canonical is itself. -/
namespace Go.Proofs.YtkcfalehebacpaaDoor
open Go Go.RowKit
theorem chk_iff {L K : Int} {l : List Ask} {pl : List Bat} : chkE L K l pl = 0 ↔ validK L K l = true ∧ shapedP l.length pl = true ∧ (pl.all (fun b => fitsB L K l b.ps)) = true ∧ madeB pl l = true := by
  unfold chkE
  cases validK L K l <;> cases shapedP l.length pl <;> cases pl.all (fun b => fitsB L K l b.ps) <;> cases madeB pl l <;> simp
theorem shapedP_iff {n : Nat} {pl : List Bat} : shapedP n pl = true ↔ pl.length ≤ 1000 ∧ ∀ b ∈ pl, (1 ≤ b.t ∧ b.t ≤ 1000) ∧ b.ps.length = n := by
  unfold shapedP
  simp only [Bool.and_eq_true, decide_eq_true_eq, List.all_eq_true, inB_iff]
theorem totI_cons (b : Bat) (pl : List Bat) (j : Nat) : totI (b :: pl) j = b.t * b.ps.getD j 0 + totI pl j := by
  unfold totI; rw [List.map_cons, List.sum_cons]
theorem rollsI_cons (b : Bat) (pl : List Bat) : rollsI (b :: pl) = b.t + rollsI pl := by
  unfold rollsI; rw [List.map_cons, List.sum_cons]
theorem totI_insB (j : Nat) : ∀ (out : List Bat) (b : Bat), totI (insB out b) j = totI out j + b.t * b.ps.getD j 0
  | [], b => by rw [insB, totI_cons]; exact Int.add_comm _ _
  | x :: out, b => by
    rcases cmpL_cases x.ps b.ps with h | h | h
    · rw [insB_gt h, totI_cons, totI_cons, totI_insB j out b]; omega
    · rw [insB_eq h, totI_cons, totI_cons, ← h]; dsimp only; rw [Int.add_mul]; omega
    · rw [insB_lt h, totI_cons]; omega
theorem rollsI_insB : ∀ (out : List Bat) (b : Bat), rollsI (insB out b) = rollsI out + b.t
  | [], b => by rw [insB, rollsI_cons]; exact Int.add_comm _ _
  | x :: out, b => by
    rcases cmpL_cases x.ps b.ps with h | h | h
    · rw [insB_gt h, rollsI_cons, rollsI_cons, rollsI_insB out b]; omega
    · rw [insB_eq h, rollsI_cons, rollsI_cons]; dsimp only; omega
    · rw [insB_lt h, rollsI_cons]; omega
theorem empty_getD {ps : List Int} (h : emptyB ps = true) (j : Nat) : ps.getD j 0 = 0 := by
  unfold emptyB at h
  rw [List.getD_eq_getElem?_getD]
  cases e : ps[j]? with
  | none => rfl
  | some v =>
    have := List.all_eq_true.1 h v (List.mem_of_getElem? e)
    simpa using this
theorem totI_fold (j : Nat) : ∀ (l out : List Bat), totI (l.foldl insB out) j = totI out j + totI l j
  | [], out => by simp [totI]
  | b :: l, out => by rw [List.foldl_cons, totI_fold j l, totI_insB, totI_cons]; omega
theorem rollsI_fold : ∀ (l out : List Bat), rollsI (l.foldl insB out) = rollsI out + rollsI l
  | [], out => by simp [rollsI]
  | b :: l, out => by rw [List.foldl_cons, rollsI_fold l, rollsI_insB, rollsI_cons]; omega
/-- the rolls that are cut into no pieces -/
def zeroI (pl : List Bat) : Int := rollsI (pl.filter fun b => emptyB b.ps)
theorem totI_filter (j : Nat) : ∀ pl : List Bat, totI (pl.filter fun b => !emptyB b.ps) j = totI pl j
  | [] => rfl
  | b :: pl => by
    rw [List.filter_cons, totI_cons]
    cases e : emptyB b.ps
    · rw [if_pos (by rfl), totI_cons, totI_filter j pl]
    · rw [if_neg (by decide), totI_filter j pl, empty_getD e]; omega
theorem zeroI_cons (b : Bat) (pl : List Bat) : zeroI (b :: pl) = (if emptyB b.ps then b.t else 0) + zeroI pl := by
  unfold zeroI
  rw [List.filter_cons]
  cases e : emptyB b.ps
  · rw [if_neg (by decide), if_neg (by decide), Int.zero_add]
  · rw [if_pos rfl, if_pos rfl, rollsI_cons]
theorem zeroI_snoc {pl : List Bat} {i : Nat} {b : Bat} (h : pl[i]? = some b) : zeroI (pl.take (i + 1)) = zeroI (pl.take i) + if emptyB b.ps then b.t else 0 := by
  unfold zeroI rollsI
  rw [List.take_add_one, h, Option.toList_some, List.filter_append, List.map_append, List.sum_append]
  cases e : emptyB b.ps <;> simp [e]
theorem rollsI_filter : ∀ pl : List Bat, rollsI (pl.filter fun b => !emptyB b.ps) + zeroI pl = rollsI pl
  | [] => rfl
  | b :: pl => by
    rw [List.filter_cons, rollsI_cons, zeroI_cons]
    have ih := rollsI_filter pl
    cases e : emptyB b.ps
    · rw [if_pos (by rfl), rollsI_cons, if_neg (by decide)]; omega
    · rw [if_neg (by decide), if_pos rfl]; omega
theorem totI_foldB (pl : List Bat) (j : Nat) : totI (foldB pl) j = totI pl j := by
  unfold foldB
  rw [totI_fold, totI_filter]; simp [totI]
theorem rollsI_foldB (pl : List Bat) : rollsI (foldB pl) + zeroI pl = rollsI pl := by
  have h : rollsI (foldB pl) = rollsI (pl.filter fun b => !emptyB b.ps) := by
    unfold foldB
    rw [rollsI_fold]; simp [rollsI]
  rw [h, rollsI_filter]
theorem perm_sumI {l m : List Int} (h : l.Perm m) : l.sum = m.sum := by
  induction h with
  | nil => rfl
  | cons x _ ih => rw [List.sum_cons, List.sum_cons, ih]
  | swap x y l => rw [List.sum_cons, List.sum_cons, List.sum_cons, List.sum_cons]; omega
  | trans _ _ h1 h2 => exact h1.trans h2
theorem rollsI_perm {l m : List Bat} (h : l.Perm m) : rollsI l = rollsI m := perm_sumI (h.map _)
theorem zeroI_perm {l m : List Bat} (h : l.Perm m) : zeroI l = zeroI m := rollsI_perm (h.filter _)
theorem totI_perm {l m : List Bat} (h : l.Perm m) (j : Nat) : totI l j = totI m j := perm_sumI (h.map _)
theorem madeB_of {pl pl' : List Bat} {l : List Ask} (h : ∀ j, totI pl' j = totI pl j) : madeB pl' l = madeB pl l := by
  unfold madeB askB
  simp only [h]
theorem chk_perm {L K : Int} {l : List Ask} {pl pl' : List Bat} (h : chkE L K l pl = 0) (hp : pl.Perm pl') : chkE L K l pl' = 0 := by
  obtain ⟨h1, h2, h3, h4⟩ := chk_iff.1 h
  obtain ⟨s1, s2⟩ := shapedP_iff.1 h2
  refine chk_iff.2 ⟨h1, shapedP_iff.2 ⟨by rw [← hp.length_eq]; exact s1, fun b hb => s2 b (hp.symm.subset hb)⟩, List.all_eq_true.2 fun b hb => List.all_eq_true.1 h3 b (hp.symm.subset hb), ?_⟩
  rw [madeB_of fun j => (totI_perm hp j).symm]; exact h4
theorem insB_pos : ∀ {out : List Bat} {b : Bat}, (∀ x ∈ out, 1 ≤ x.t) → 1 ≤ b.t → ∀ x ∈ insB out b, 1 ≤ x.t
  | [], b, _, hb, x, hx => by
    rw [insB, List.mem_singleton] at hx
    subst hx; exact hb
  | y :: out, b, h, hb, x, hx => by
    have hy := h y (List.mem_cons_self ..)
    rw [insB] at hx
    split at hx
    · rcases List.mem_cons.1 hx with rfl | hx
      · exact hy
      · exact insB_pos (fun z hz => h z (List.mem_cons_of_mem _ hz)) hb x hx
    · split at hx
      · rcases List.mem_cons.1 hx with rfl | hx
        · dsimp only; omega
        · exact h x (List.mem_cons_of_mem _ hx)
      · rcases List.mem_cons.1 hx with rfl | hx
        · exact hb
        · exact h x hx
theorem foldl_pos : ∀ {l out : List Bat}, (∀ x ∈ out, 1 ≤ x.t) → (∀ b ∈ l, 1 ≤ b.t) → ∀ x ∈ l.foldl insB out, 1 ≤ x.t
  | [], _, h, _, x, hx => h x hx
  | b :: l, out, h, hl, x, hx => foldl_pos (l := l) (out := insB out b) (insB_pos h (hl b (List.mem_cons_self ..))) (fun z hz => hl z (List.mem_cons_of_mem _ hz)) x hx
theorem foldB_key {pl : List Bat} {x : Bat} (h : x ∈ foldB pl) : ∃ z ∈ pl, z.ps = x.ps ∧ emptyB x.ps = false := by
  rcases foldl_keys ⟨x, h, rfl⟩ with ⟨z, hz, ez⟩ | ⟨z, hz, _⟩
  · obtain ⟨h1, h2⟩ := List.mem_filter.1 hz
    refine ⟨z, h1, ez, ?_⟩
    rw [← ez]
    simpa using h2
  · cases hz
theorem fold_chk {L K : Int} {l : List Ask} {pl : List Bat} (h : chkE L K l pl = 0) (hs : ((foldB pl).all fun b => decide (b.t ≤ 1000)) = true) : chkE L K l (foldB pl) = 0 := by
  obtain ⟨h1, h2, h3, h4⟩ := chk_iff.1 h
  obtain ⟨s1, s2⟩ := shapedP_iff.1 h2
  refine chk_iff.2 ⟨h1, shapedP_iff.2 ⟨Nat.le_trans (foldB_len pl) s1, fun b hb => ?_⟩, List.all_eq_true.2 fun b hb => ?_, ?_⟩
  · obtain ⟨z, hz, ez, _⟩ := foldB_key hb
    refine ⟨⟨foldl_pos (by simp) (fun y hy => (s2 y (List.mem_filter.1 hy).1).1.1) b hb, ?_⟩, by rw [← ez]; exact (s2 z hz).2⟩
    have := List.all_eq_true.1 hs b hb
    simpa using this
  · obtain ⟨z, hz, ez, _⟩ := foldB_key hb
    rw [← ez]
    exact List.all_eq_true.1 h3 z hz
  · rw [madeB_of fun j => totI_foldB pl j]; exact h4
theorem insB_end : ∀ {out : List Bat} {b : Bat}, (∀ x ∈ out, 0 < cmpL x.ps b.ps) → insB out b = out ++ [b]
  | [], _, _ => rfl
  | x :: out, b, h => by
    rw [insB_gt (h x (List.mem_cons_self ..)), insB_end fun y hy => h y (List.mem_cons_of_mem _ hy)]; rfl
theorem foldl_of_fall : ∀ (l out : List Bat), Fall (out ++ l) → l.foldl insB out = out ++ l
  | [], out, _ => by simp
  | b :: l, out, h => by
    have h1 : ∀ x ∈ out, 0 < cmpL x.ps b.ps := fun x hx => (List.pairwise_append.1 h).2.2 x hx b (List.mem_cons_self ..)
    rw [List.foldl_cons, insB_end h1, foldl_of_fall l (out ++ [b]) (by rw [List.append_assoc]; exact h), List.append_assoc]; rfl
theorem foldB_fall (pl : List Bat) : Fall (foldB pl) := foldl_fall List.Pairwise.nil _
theorem foldB_twice (pl : List Bat) : foldB (foldB pl) = foldB pl := by
  have h : (foldB pl).filter (fun b => !emptyB b.ps) = foldB pl := List.filter_eq_self.2 fun b hb => by
    obtain ⟨_, _, _, h⟩ := foldB_key hb
    rw [h]; rfl
  show ((foldB pl).filter fun b => !emptyB b.ps).foldl insB [] = foldB pl
  rw [h]
  exact foldl_of_fall (foldB pl) [] (foldB_fall pl)
def splitB (b : Bat) : List Bat := if 1 < b.t then [⟨1, b.ps⟩, ⟨b.t - 1, b.ps⟩] else [b]
def splitL (pl : List Bat) : List Bat := pl.flatMap splitB
theorem splitB_two {b : Bat} (h : 1 < b.t) : splitB b = [⟨1, b.ps⟩, ⟨b.t - 1, b.ps⟩] := if_pos h
theorem splitB_one {b : Bat} (h : ¬ 1 < b.t) : splitB b = [b] := if_neg h
theorem splitL_snoc {pl : List Bat} {i : Nat} {b : Bat} (h : pl[i]? = some b) : splitL (pl.take (i + 1)) = splitL (pl.take i) ++ splitB b := by
  unfold splitL
  rw [List.take_add_one, h, Option.toList_some, List.flatMap_append]; simp
theorem splitL_cons (b : Bat) (pl : List Bat) : splitL (b :: pl) = splitB b ++ splitL pl := List.flatMap_cons
theorem splitL_len (pl : List Bat) : (splitL pl).length ≤ 2 * pl.length := by
  induction pl with
  | nil => simp [splitL]
  | cons b pl ih =>
    have : (splitB b).length ≤ 2 := by unfold splitB; split <;> simp
    rw [splitL_cons, List.length_append, List.length_cons]; omega
theorem insB_two (a c : Int) (ps : List Int) : ∀ out : List Bat, insB (insB out ⟨a, ps⟩) ⟨c, ps⟩ = insB out ⟨a + c, ps⟩
  | [] => by
    show insB [⟨a, ps⟩] ⟨c, ps⟩ = [⟨a + c, ps⟩]
    rw [insB_eq (x := ⟨a, ps⟩) (b := ⟨c, ps⟩) rfl]
  | x :: out => by
    rcases cmpL_cases x.ps ps with h | h | h
    · rw [insB_gt (b := ⟨a, ps⟩) h, insB_gt (b := ⟨c, ps⟩) h, insB_gt (b := ⟨a + c, ps⟩) h, insB_two a c ps out]
    · rw [insB_eq (b := ⟨a, ps⟩) h, insB_eq (x := ⟨x.t + a, x.ps⟩) (b := ⟨c, ps⟩) h, insB_eq (b := ⟨a + c, ps⟩) h, Int.add_assoc]
    · rw [insB_lt (b := ⟨a, ps⟩) h, insB_eq (x := ⟨a, ps⟩) (b := ⟨c, ps⟩) rfl, insB_lt (b := ⟨a + c, ps⟩) h]
theorem foldl_split : ∀ (pl out : List Bat), ((splitL pl).filter fun b => !emptyB b.ps).foldl insB out = (pl.filter fun b => !emptyB b.ps).foldl insB out
  | [], _ => rfl
  | b :: pl, out => by
    rw [splitL_cons, List.filter_append, List.foldl_append, foldl_split pl, List.filter_cons]
    by_cases h : 1 < b.t
    · rw [splitB_two h]
      cases e : emptyB b.ps
      · simp only [List.filter_cons, List.filter_nil, e, Bool.not_false, if_true, List.foldl_cons, List.foldl_nil]
        rw [insB_two, show (1 : Int) + (b.t - 1) = b.t by omega]
      · simp [List.filter_cons, e]
    · rw [splitB_one h]
      cases e : emptyB b.ps <;> simp [List.filter_cons, e]
theorem foldB_split (pl : List Bat) : foldB (splitL pl) = foldB pl := foldl_split pl []
theorem totI_append (a b : List Bat) (j : Nat) : totI (a ++ b) j = totI a j + totI b j := by
  unfold totI; rw [List.map_append, List.sum_append]
theorem totI_split (j : Nat) : ∀ pl : List Bat, totI (splitL pl) j = totI pl j
  | [] => rfl
  | b :: pl => by
    rw [splitL_cons, totI_append, totI_split j pl, totI_cons]
    by_cases h : 1 < b.t
    · rw [splitB_two h, totI_cons, totI_cons, show totI [] j = 0 from rfl]
      dsimp only
      rw [Int.sub_mul]; omega
    · rw [splitB_one h, totI_cons, show totI [] j = 0 from rfl]; omega
theorem split_mem {pl : List Bat} {x : Bat} (h : x ∈ splitL pl) : ∃ b ∈ pl, x.ps = b.ps ∧ (1 ≤ b.t → 1 ≤ x.t ∧ x.t ≤ b.t) := by
  obtain ⟨b, hb, hx⟩ := List.mem_flatMap.1 h
  refine ⟨b, hb, ?_⟩
  by_cases h1 : 1 < b.t
  · rw [splitB_two h1] at hx
    simp only [List.mem_cons, List.not_mem_nil, or_false] at hx
    rcases hx with rfl | rfl
    · exact ⟨rfl, fun h => ⟨Int.le_refl _, h⟩⟩
    · exact ⟨rfl, fun h => by dsimp only; omega⟩
  · rw [splitB_one h1, List.mem_singleton] at hx
    subst hx
    exact ⟨rfl, fun h => ⟨h, Int.le_refl _⟩⟩
theorem chk_split {L K : Int} {l : List Ask} {pl : List Bat} (h : chkE L K l pl = 0) (hn : pl.length ≤ 500) : chkE L K l (splitL pl) = 0 := by
  obtain ⟨h1, h2, h3, h4⟩ := chk_iff.1 h
  obtain ⟨s1, s2⟩ := shapedP_iff.1 h2
  have h5 := splitL_len pl
  refine chk_iff.2 ⟨h1, shapedP_iff.2 ⟨by omega, fun x hx => ?_⟩, List.all_eq_true.2 fun x hx => ?_, ?_⟩
  · obtain ⟨b, hb, e, k⟩ := split_mem hx
    obtain ⟨k1, k2⟩ := s2 b hb
    have := k k1.1
    exact ⟨⟨by omega, by omega⟩, by rw [e]; exact k2⟩
  · obtain ⟨b, hb, e, _⟩ := split_mem hx
    rw [e]
    exact List.all_eq_true.1 h3 b hb
  · rw [madeB_of fun j => totI_split j pl]; exact h4
/-- mixed and split: the same canonical plan -/
theorem canon_split {L K : Int} {l : List Ask} {pl m : List Bat} (h : chkE L K l pl = 0) (hn : pl.length ≤ 500) (hp : pl.Perm m) : cnE L K l (splitL m) = cnE L K l pl ∧ cnP L K l (splitL m) = cnP L K l pl := by
  have e := chk_split (chk_perm h hp) (by rw [← hp.length_eq]; exact hn)
  have f : foldB (splitL m) = foldB pl := (foldB_split m).trans (foldB_perm hp).symm
  have c : cnE L K l (splitL m) = cnE L K l pl := by
    unfold cnE
    rw [f, if_pos e, if_pos h]
  refine ⟨c, ?_⟩
  unfold cnP
  rw [c, f]
theorem cn_two {L K : Int} {l : List Ask} {pl : List Bat} (h : chkE L K l pl = 0) : cnE L K l pl = 0 ∨ cnE L K l pl = 2 := by
  unfold cnE
  rw [if_pos h]
  cases (foldB pl).all fun b => decide (b.t ≤ 1000) <;> simp
/-- canonical of canonical, and its rolls -/
theorem canon_again {L K : Int} {l : List Ask} {pl : List Bat} (h : chkE L K l pl = 0) (h0 : cnE L K l pl = 0) : cnP L K l pl = foldB pl ∧ chkE L K l (cnP L K l pl) = 0 ∧ cnE L K l (cnP L K l pl) = 0 ∧ cnP L K l (cnP L K l pl) = cnP L K l pl ∧ rlE L K l (cnP L K l pl) + zeroI pl = rlE L K l pl := by
  have e : cnP L K l pl = foldB pl := by unfold cnP; rw [if_pos h0]
  have hs : ((foldB pl).all fun b => decide (b.t ≤ 1000)) = true := by
    unfold cnE at h0
    rw [if_pos h] at h0
    by_cases hb : ((foldB pl).all fun b => decide (b.t ≤ 1000)) = true
    · exact hb
    · rw [if_neg hb] at h0; omega
  have hc := fold_chk h hs
  have h2 : cnE L K l (foldB pl) = 0 := by
    unfold cnE
    rw [if_pos hc, foldB_twice, if_pos hs]
  refine ⟨e, by rw [e]; exact hc, by rw [e]; exact h2, ?_, ?_⟩
  · rw [e]
    unfold cnP
    rw [if_pos h2, foldB_twice]
  · rw [e]
    unfold rlE
    rw [if_pos hc, if_pos h, rollsI_foldB]
/-- no pieces: their sum is 0 -/
theorem sum_empty {ps : List Int} (h : ∀ p ∈ ps, 0 ≤ p) : decide (ps.sum = 0) = emptyB ps := by
  have key : ∀ ps : List Int, (∀ p ∈ ps, 0 ≤ p) → 0 ≤ ps.sum ∧ (ps.sum = 0 ↔ ∀ p ∈ ps, p = 0) := by
    intro ps
    induction ps with
    | nil => intro _; simp
    | cons p ps ih =>
      intro h
      obtain ⟨i1, i2⟩ := ih fun q hq => h q (List.mem_cons_of_mem _ hq)
      have h0 := h p (List.mem_cons_self ..)
      rw [List.sum_cons]
      refine ⟨by omega, fun hs q hq => ?_, fun hq => ?_⟩
      · rcases List.mem_cons.1 hq with rfl | hq
        · omega
        · exact i2.1 (by omega) q hq
      · have h1 := hq p (List.mem_cons_self ..)
        have h2 := i2.2 fun q hq2 => hq q (List.mem_cons_of_mem _ hq2)
        omega
  unfold emptyB
  rw [Bool.eq_iff_iff, decide_eq_true_eq, List.all_eq_true]
  simp only [decide_eq_true_eq]
  exact (key ps h).2
theorem sum_snoc {ps : List Int} {i : Nat} {p : Int} (h : ps[i]? = some p) : (ps.take (i + 1)).sum = (ps.take i).sum + p := by
  rw [List.take_add_one, h, Option.toList_some, List.sum_append]; simp
theorem sum_low : ∀ {ps : List Int}, (∀ p ∈ ps, 0 ≤ p ∧ p ≤ 50) → 0 ≤ ps.sum ∧ ps.sum ≤ 50 * ps.length
  | [], _ => by simp
  | p :: ps, h => by
    have ih := sum_low (ps := ps) fun q hq => h q (List.mem_cons_of_mem _ hq)
    have := h p (List.mem_cons_self ..)
    rw [List.sum_cons, List.length_cons]; push_cast; omega
end Go.Proofs.YtkcfalehebacpaaDoor

/- together of the reference: the walk. -/
namespace Go.Proofs.YtkcfalehebacpaaDoor
open Go Go.RowKit
theorem slice_toA (A : Option Addr) (n c k : Nat) (hk : k ≤ c) (w : World) :
    (Instr.sliceAt 26 (.slice A n c) none (some (.int .i64 k)) none).run Tryd.prog w = .ok (.slice A k c) w := by
  obtain ⟨i, z, bytes, ht, hi, hz, hsize, _⟩ := et_batch
  have hel : Tryd.prog.elem 26 = 43 := by simp [Program.elem, ht]
  rw [← hel] at ht hi
  rw [run_sliceAt_slice _ _ _ _ _ _ ht, run_slice_h _ _ _ _ _ ht _ _ (by omega) (by omega)]
  have hso : (sizeOf (Tryd.prog.elem 26)).run Tryd.prog w = .ok 2 w := by kernel_rfl
  rw [hso]
  cases A <;> simp [Result.andThen, sliced, Addr.add]
theorem step_own_app {α : Type} {P : Program} {ops : Array Oper} {o : Oper} {a : Act} {K : Act → World → Prop} {Q : Exit → Act → World → Prop} {E : Prop} {w : World} {base : Nat} {e : TypeId} {sz : Nat} {f : α → List Value} {v : Value} {xs ys : List α} {A2 : Option Addr} {m c2 B2 : Nat} (s x : Operand) {t : TypeId} (hgd : o.guard = none)
    (ho : o.op = .call { callee := .builtin .append, args := #[s, x], argTypes := #[t, t] }) (he : ElemT P t e sz) (hown : Own w base e sz f v xs) (hs : a.eval s = v) (hx : a.eval x = .slice A2 m c2) (h2 : Slc f sz w B2 A2 ys) (hm : ys.length = m)
    (hf : ∀ x, (f x).length = sz) (h1c : ∀ x, ∀ u ∈ f x, u.oneCell' = true) (hlen : xs.length + m ≤ 1000000000) (hbase : base ≤ w.heap.size)
    (h : ∀ v' w', Own w' base e sz f v' (xs ++ ys) → Below base w w' → w.grownBy w' v.ownBlock → K (a.put o.dst v') w') : if Region.wanted o (yielded ops a.tmps) = true then Oper.wp P o a w K Q else E := by
  have hw : Region.wanted o (yielded ops a.tmps) = true := by simp [Region.wanted, hgd]
  rw [if_pos hw]
  obtain ⟨v', w', hr, hO, hg, hv⟩ := run_app_own (P := P) (ty := o.type) he hown h2 hm (c2 := c2) hf h1c hlen hbase
  unfold Oper.wp
  rw [exec_app ho hs hx hr]
  exact h v' w' hO ⟨hg.os, hg.tape, hg.output, hg.size, fun k hk => hg.block k (Nat.lt_of_lt_of_le hk hbase) fun he => by have := (World.ownsRow.lt hown k he.symm).1; omega⟩ hg
theorem ins_step0 {P : List Bat} {p : Bat} : insB P p = P.take 0 ++ insB (P.drop 0) p := by simp
theorem ins_next {P : List Bat} {p px : Bat} {j : Nat} (h : insB P p = P.take j ++ insB (P.drop j) p) (hx : P[j]? = some px) (hc : 0 < cmpL px.ps p.ps) : insB P p = P.take (j + 1) ++ insB (P.drop (j + 1)) p := by
  obtain ⟨h1, h2⟩ := List.getElem?_eq_some_iff.1 hx
  rw [h, List.drop_eq_getElem_cons h1, h2, insB_gt hc, List.take_add_one, hx, Option.toList_some, List.append_assoc]; rfl
theorem ins_here {P : List Bat} {p px : Bat} {j : Nat} (h : insB P p = P.take j ++ insB (P.drop j) p) (hx : P[j]? = some px) (hc : cmpL px.ps p.ps = 0) : insB P p = P.set j ⟨px.t + p.t, px.ps⟩ := by
  obtain ⟨h1, h2⟩ := List.getElem?_eq_some_iff.1 hx
  rw [h, List.drop_eq_getElem_cons h1, h2, insB_eq (cmpL_zero hc), List.set_eq_take_append_cons_drop, if_pos h1]
theorem ins_below {P : List Bat} {p px : Bat} {j : Nat} (h : insB P p = P.take j ++ insB (P.drop j) p) (hx : P[j]? = some px) (hc : cmpL px.ps p.ps < 0) : insB P p = P.take j ++ (p :: P.drop j) := by
  obtain ⟨h1, h2⟩ := List.getElem?_eq_some_iff.1 hx
  have := cmpL_swap px.ps p.ps
  rw [h, List.drop_eq_getElem_cons h1, h2, insB_lt (by omega)]
theorem ins_last {P : List Bat} {p : Bat} {j : Nat} (h : insB P p = P.take j ++ insB (P.drop j) p) (hj : j = P.length) : insB P p = P.take j ++ (p :: P.drop j) := by
  subst hj
  rw [h, List.drop_length]; rfl
end Go.Proofs.YtkcfalehebacpaaDoor

/- together of the reference: the walk. -/
namespace Go.Proofs.YtkcfalehebacpaaDoor
open Go Go.RowKit
def TogPost (pl : List Bat) (w : World) (e : Ending) (w' : World) : Prop :=
  ∃ A' c' os, e = .returned (.slice A' (foldB pl).length c') ∧ Below w.heap.size w w' ∧ PlanAt w' A' os (foldB pl)
theorem OutIn.ins {w : World} {base : Nat} {os : List Bt} {pl : List Bat} (h : OutIn w base os pl) {j : Nat} (hj : j ≤ os.length) {b : Bt} {p : Bat} (h1 : b.t = p.t) (h2 : b.n = p.ps.length) (h3 : p.ps ≠ []) (h4 : Own w base 3 1 intEnc (.slice b.A b.n b.c) p.ps) : OutIn w base (os.take j ++ [b] ++ os.drop j) (pl.take j ++ (p :: pl.drop j)) := by
  have hjp : j ≤ pl.length := by rw [← h.len]; exact hj
  have e1 : (os.take j).length = j := by simp; omega
  have e2 : (pl.take j).length = j := by simp; omega
  rw [List.append_assoc, List.singleton_append]
  refine ⟨by simp [h.len], fun i b' p' hb hp => ?_⟩
  rcases Nat.lt_or_ge i j with hi | hi
  · rw [List.getElem?_append_left (by omega), List.getElem?_take, if_pos hi] at hb hp
    exact h.in_ i b' p' hb hp
  · rw [List.getElem?_append_right (by omega), e1] at hb
    rw [List.getElem?_append_right (by omega), e2] at hp
    rcases Nat.eq_or_lt_of_le hi with hi2 | hi2
    · rw [← hi2, Nat.sub_self] at hb hp
      simp at hb hp
      subst hb hp
      exact ⟨h1, h2, h3, h4⟩
    · obtain ⟨k, hk⟩ : ∃ k, i - j = k + 1 := ⟨i - j - 1, by omega⟩
      rw [hk, List.getElem?_cons_succ, List.getElem?_drop] at hb hp
      exact h.in_ _ b' p' hb hp
end Go.Proofs.YtkcfalehebacpaaDoor
