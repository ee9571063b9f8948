/- Parts of the proofs of this seat: Lots, ExpiresP. Each part says what it proves; no condition beyond those stated there. -/
import Derived.Test.YtnejacogflkmmaaM4
import Derived.Test.YtnejacogflkmmaaM19
import Derived.Test.YtnejacogflkmmaaM32

/- Lots: the walk. -/
namespace Go.Proofs.Ytnejacogflkmmaa
open Go Go.RowKit
noncomputable def lotsL (s : SS) (n : Need) (day : Int) : List Int := if needB n day then lotsF s n day (ordF s n) else []
def lotsE (n : Need) (day : Int) : Int := if needB n day then 0 else 2
def LotsPost (s : SS) (n : Need) (day : Int) (w : World) (e : Ending) (w' : World) : Prop :=
  ∃ A c, e = .returned (.tuple #[.slice A (lotsL s n day).length c, .int .i64 (lotsE n day)]) ∧ Slc intEnc 1 w' w'.heap.size A (lotsL s n day) ∧ Below w.heap.size w w' ∧ ∀ ad, A = some ad → w.heap.size ≤ ad.block
theorem lotsF_take {s : SS} {n : Need} {day : Int} {ls : List Int} {i : Nat} {lot : Int} (h : ls[i]? = some lot) : lotsF s n day (ls.take (i + 1)) = lotsF s n day (ls.take i) ++ if (cutAllF n lot day n.count.toNat s).isSome then [lot] else [] := by
  unfold lotsF
  rw [List.take_add_one, h, Option.toList_some, List.filter_append]
  congr 1
  by_cases hc : (cutAllF n lot day n.count.toNat s).isSome = true
  · rw [if_pos hc, List.filter_cons, if_pos hc]; rfl
  · rw [if_neg hc, List.filter_cons, if_neg hc]; rfl
def IsPtr (u : Value) : Prop := ∃ g, u = .pointer (some ⟨g, 0, none⟩)
def CopyOf (s : SS) (B : Nat) (u : Value) (w : World) : Prop := ∃ p2 : Fp, u = .pointer (some ⟨p2.g, 0, none⟩) ∧ StA w p2 s ∧ ∀ k, p2.has k → B ≤ k
def CutEnds (b : Bool) (u : Value) : Prop := ∃ A n c, u = .tuple #[.slice A n c, .bool b]
theorem cutAll_ends (p : Fp) (s : SS) (n : Need) (lot day : Int) (w : World) (hX : StA w p s) (hI : Inv s) (hF : Room s n.count.toNat) (hn : NeedOk n) (hd : 0 ≤ day ∧ day ≤ 100000) {b : Bool} (hc : (cutAllF n lot day n.count.toNat s).isSome = b) :
    Calls Try.prog 54 #[.pointer (some ⟨p.g, 0, none⟩), .agg #[.int .i64 n.grade, .int .i64 n.colour, .int .i64 n.width, .int .i64 n.length, .int .i64 n.count], .int .i64 lot, .int .i64 day] w fun e w' => (∃ u, e = .returned u ∧ CutEnds b u) ∧ Chg p.has w w' := by
  refine (cutAll_any p s n lot day w hX hI hF hn hd).mono ?_
  intro e w' h
  unfold CutAllPost at h
  cases hq : cutAllF n lot day n.count.toNat s with
  | none =>
    rw [hq] at h hc
    obtain rfl : false = b := hc
    exact ⟨⟨_, h.1, none, 0, 0, rfl⟩, h.2⟩
  | some q =>
    rw [hq] at h hc
    obtain rfl : true = b := hc
    obtain ⟨A, c, he, _, _, _, hC⟩ := h
    exact ⟨⟨_, he, A, _, c, rfl⟩, hC⟩
set_option maxRecDepth 100000 in
set_option maxHeartbeats 4000000 in
theorem lots_any (p : Fp) (s : SS) (n : Need) (day : Int) (w : World) (hX : StA w p s) (hI : Inv s) (hF : Room s 50) :
    Calls Try.prog 29 #[.pointer (some ⟨p.g, 0, none⟩), .agg #[.int .i64 n.grade, .int .i64 n.colour, .int .i64 n.width, .int .i64 n.length, .int .i64 n.count], .int .i64 day] w (LotsPost s n day w) := by
  have HI := hide hI
  have HF := hide hF
  have hn := Blk.new w 62 #[.int .i64 n.grade, .int .i64 n.colour, .int .i64 n.width, .int .i64 n.length, .int .i64 n.count]
  have hal := (Below.refl w.heap.size w).alloc (Nat.le_refl _) (.cells #[.int .i64 n.grade, .int .i64 n.colour, .int .i64 n.width, .int .i64 n.length, .int .i64 n.count] 62)
  have HLT : Hid (∀ k, p.has k → k < w.heap.size) := fun k hk => hX.lt hk
  replace hX := hX.below hal
  clear hI hF
  go_enter Try.func29, Try.ntmps29
  go_upto_region 1 with fail
  generalize w.alloc (.cells #[.int .i64 n.grade, .int .i64 n.colour, .int .i64 n.width, .int .i64 n.length, .int .i64 n.count] 62) = W at *
  obtain ⟨b0, hb0⟩ : ∃ b, w.heap.size = b := ⟨_, rfl⟩
  rw [hb0] at hn ⊢
  have HB0 := hide hb0
  clear hb0
  have c5 := hX.blk.cell_ 5 (v := .bool true) rfl
  have y0 := hn.cell_ 0 rfl
  have y1 := hn.cell_ 1 rfl
  have y2 := hn.cell_ 2 rfl
  have y3 := hn.cell_ 3 rfl
  have y4 := hn.cell_ 4 rfl
  cases hv : needB n day with
  | false =>
    have H1 : Hid (lotsL s n day = [] ∧ lotsE n day = 2) := by
      show _ ∧ _
      unfold lotsL lotsE; rw [hv]; exact ⟨rfl, rfl⟩
    go_wp2_with fail
    refine (none_any p.g _ c5).mono ?_
    rintro e W' ⟨rfl, rfl⟩
    go_wp2_with fail
    refine (validNeed_is n day _ hv).mono ?_
    rintro e W2 ⟨rfl, hb2⟩
    have hX2 := hX.below hb2
    have hC2 : Below w.heap.size w W2 := hal.trans (hb2.mono hal.size)
    clear c5 y0 y1 y2 y3 y4 hv hX hn hal hb2
    go_wp2_with fail
    go_ret2
    exact ⟨none, 0, by rw [H1.out.1, H1.out.2]; rfl, by rw [H1.out.1]; exact Slc.nil_, hC2, fun ad h => by cases h⟩
  | true =>
    have HV := hide hv
    go_wp2_with fail
    refine (none_any p.g _ c5).mono ?_
    rintro e W' ⟨rfl, rfl⟩
    go_wp2_with fail
    refine (validNeed_is n day _ hv).mono ?_
    rintro e W2 ⟨rfl, hb2⟩
    replace hX := hX.below hb2
    replace hn := hn.below hb2 hn.lt
    have hB := hal.trans (hb2.mono hal.size)
    clear c5 y0 y1 y2 y3 y4 hv hal hb2
    obtain ⟨W, rfl⟩ : ∃ X : World, X = W2 := ⟨_, rfl⟩
    have y0 := hn.cell_ 0 rfl
    have y1 := hn.cell_ 1 rfl
    have y2 := hn.cell_ 2 rfl
    have y3 := hn.cell_ 3 rfl
    have y4 := hn.cell_ 4 rfl
    go_wp2_with fail
    refine (ordered_any p s n _ hX HI.out HF.out.few).mono ?_
    rintro e W2 ⟨AL, cL, rfl, hL, hb2, _⟩
    replace hX := hX.below hb2
    replace hn := hn.below hb2 hn.lt
    replace hB := hB.trans (hb2.mono hB.size)
    clear y0 y1 y2 y3 y4 hb2
    obtain ⟨ls, hls⟩ : ∃ ls, ordF s n = ls := ⟨_, rfl⟩
    have HLS := hide hls
    have hll : ls.length ≤ 1000000 := by rw [← hls]; unfold ordF; rw [sortK_len]; exact Nat.le_trans (lots_len s n) HF.out.few.lo
    rw [hls] at hL ⊢
    clear hls
    obtain ⟨w2, rfl⟩ : ∃ X : World, X = W2 := ⟨_, rfl⟩
    have HX := hide hX
    have HNB := hide hn
    have HB := hide hB
    have HN := hide (needB_ok HV.out).1
    have HD := hide (needB_ok HV.out).2
    have HR : Hid (Room s n.count.toNat) := HF.out.less (by have := HN.out.c; omega)
    clear hX hn hB
    have hw0 : w.heap.size ≤ w2.heap.size := HB.out.size
    have HW0 := hide hw0
    clear hw0
    go_upto_region 5 with fail
    go_loopw [8, 25] (fun v z wr => ∃ (i : Nat), z = .int .i64 i ∧ i ≤ ls.length ∧ Own wr w2.heap.size 3 1 intEnc v (lotsF s n day (ls.take i)) ∧ Below w2.heap.size w2 wr) (fun _ z _ => ls.length - (intOf z).toNat)
    case atStart => exact ⟨0, rfl, Nat.zero_le _, Own.nil_, Below.refl _ _⟩
    case round =>
      obtain ⟨W, rfl⟩ : ∃ X : World, X = wr := ⟨_, rfl⟩
      obtain ⟨i, rfl, hi, hO, hB⟩ := hrel
      have hBs := hB.size
      by_cases hlt : i < ls.length
      · obtain ⟨lot, bK, oK, hk, hA, hbK, d0⟩ := ints_at' (hL.below hB) hlt
        have hii : (i : Int) < (ls.length : Int) := by omega
        have ei : IntKind.i64.wrap ((i : Int) + 1) = ((i + 1 : Nat) : Int) := by rw [IntWalk.i64_in _ (by omega)]; push_cast; rfl
        have HXW := hide (HX.out.below hB)
        have HNW := hide (HNB.out.below hB HNB.out.lt)
        have HT0 := hide (lotsF_take (s := s) (n := n) (day := day) hk)
        have hll2 : (lotsF s n day (ls.take i)).length ≤ 1000000 := Nat.le_trans (List.length_filter_le _ _) (by rw [List.length_take]; omega)
        obtain ⟨b, hcb⟩ : ∃ b, (cutAllF n lot day n.count.toNat s).isSome = b := ⟨_, rfl⟩
        have HCB := hide hcb
        subst hA
        clear hk hcb
        go_upto_region 7 with fail
        clear d0
        refine wp_region_callcx (argsi := #[.pointer (some ⟨p.g, 0, none⟩)]) 1 5 [0, 2, 3, 4] (CopyOf s W.heap.size) IsPtr (fun u => #[u, .agg #[.int .i64 n.grade, .int .i64 n.colour, .int .i64 n.width, .int .i64 n.length, .int .i64 n.count], .int .i64 lot, .int .i64 day]) (fun u z _ => (∃ A n c, u = .slice A n c) ∧ z = .bool b) (.tmp 35) (.tmp 29) (.tmp 29) (.tmp 36) (by kernel_rfl) (by kernel_rfl) (by kernel_rfl) (by kernel_rfl) (by decide) (fun _ _ _ _ _ h => h) (fun u w w' hb ⟨p2, h1, h2, h3⟩ => ⟨p2, h1, h2.below hb, h3⟩) (fun u w ⟨p2, h1, _⟩ => ⟨_, h1⟩) ⟨.pointer (some ⟨0, 0, none⟩), 0, rfl⟩ rfl rfl rfl rfl rfl rfl rfl rfl rfl rfl rfl rfl rfl rfl rfl rfl rfl rfl (fun _ _ => rfl) (fun _ _ => rfl) ?_
        apply Exists.intro
        refine ⟨fun W1 hc => ?_, ?_⟩
        · have hn1 := HNW.out.below hc HNW.out.lt
          have y0 := Since.cell (hn1.cell_ 0 rfl)
          have y1 := Since.cell (hn1.cell_ 1 rfl)
          have y2 := Since.cell (hn1.cell_ 2 rfl)
          have y3 := Since.cell (hn1.cell_ 3 rfl)
          have y4 := Since.cell (hn1.cell_ 4 rfl)
          clear hn1
          dsimp only [pick, List.filterMap, List.getElem?_cons_succ, List.getElem?_cons_zero]
          repeat (go_big_quiet_step (fail))
          exact wpQuiet_nil rfl
        refine ⟨by simp [Act.eval], rfl, fun w1 hb1 => ?_, fun ui ⟨g0, hu0⟩ => ?_⟩
        · refine (copy_any p s w1 (HXW.out.below hb1)).mono ?_
          rintro e w3 ⟨p2, rfl, hX2, hnew, hb3⟩
          exact ⟨_, rfl, ⟨p2, rfl, hX2, fun k hk => Nat.le_trans hb1.size (hnew k hk)⟩, hb3⟩
        subst hu0
        refine ⟨by simp [Act.eval, Act.put], rfl, fun w1 hb1 ⟨p2, hu0, hX2, hnew⟩ => ?_, fun u0 => ⟨rfl, rfl, fun u1 => ⟨rfl, rfl, fun u2 => ⟨rfl, rfl, fun u3 => ⟨rfl, rfl⟩⟩⟩⟩, fun u z w8 hb8 ⟨⟨A8, n8, c8, hu⟩, hz⟩ => ?_⟩
        · rw [hu0]
          refine (cutAll_ends p2 s n lot day w1 hX2 HI.out HR.out HN.out HD.out HCB.out).mono ?_
          rintro e w3 ⟨⟨u, rfl, A8, n8, c8, rfl⟩, hC3⟩
          exact ⟨_, _, rfl, ⟨⟨A8, n8, c8, rfl⟩, rfl⟩, hb1.trans (hC3.to_below hb1.size fun k hk hp => by have := hnew k hp; omega)⟩
        subst hu hz
        have hO2 := hO.below hb8
        have hB4 := hB.trans (hb8.mono hBs)
        have hsz8 : w2.heap.size ≤ w8.heap.size := Nat.le_trans hBs hb8.size
        clear hO hB hBs hb8 HXW HNW
        obtain ⟨W, rfl⟩ : ∃ X : World, X = w8 := ⟨_, rfl⟩
        dsimp only [Act.put]
        simp only [List.setIfInBounds_toArray, List.set_cons_succ, List.set_cons_zero, List.drop_succ_cons, List.drop_zero]
        cases b with
        | true =>
          have HT : Hid (lotsF s n day (ls.take (i + 1)) = lotsF s n day (ls.take i) ++ [lot]) := by show _ = _; rw [HT0.out, HCB.out]; rfl
          clear HT0 HCB
          go_wp2_with (at_builtin; refine wpList_app_own (base := w2.heap.size) (f := intEnc) (ys := [lot]) _ _ rfl rfl et_ints (hO2.alloc _) rfl rfl ((Blk.new W 3 #[.int .i64 lot]).slc1 rfl) rfl (fun _ => rfl) intEnc_one (by simp <;> omega) (by simp <;> omega) ?_; intro v6 W6 hO6 hb6 hg6)
          have hal := (Below.refl W.heap.size W).alloc (Nat.le_refl _) (.cells #[.int .i64 lot] 3)
          replace hB4 := (hB4.trans (hal.mono hB4.size)).trans hb6
          clear hal hb6 hg6
          clear hO2
          go_roundw
          case rel => exact ⟨i + 1, by go_num, by omega, by rw [HT.out]; exact hO6, hB4⟩
          case measure => simp [intOf]; omega
        | false =>
          have HT : Hid (lotsF s n day (ls.take (i + 1)) = lotsF s n day (ls.take i)) := by show _ = _; rw [HT0.out, HCB.out]; simp
          clear HT0 HCB
          go_wp2_with fail
          have hO3 := hO2
          clear hO2
          go_roundw
          case rel => exact ⟨i + 1, by go_num, by omega, by rw [HT.out]; exact hO3, hB4⟩
          case measure => simp [intOf]; omega
      · obtain rfl : i = ls.length := by omega
        rw [List.take_length] at hO
        have HE : Hid (lotsL s n day = lotsF s n day ls ∧ lotsE n day = 0) := by
          show _ ∧ _
          unfold lotsL lotsE; rw [HV.out, HLS.out]; exact ⟨rfl, rfl⟩
        obtain ⟨A, c, rfl, hsl⟩ := hO.form (fun _ => rfl)
        have HOF := hide (hO.from_ HW0.out)
        have hB9 := HB.out.trans (hB.mono HW0.out)
        clear hO
        go_wp2_with fail
        go_ret2
        exact ⟨A, c, by rw [HE.out.1, HE.out.2]; rfl, by rw [HE.out.1]; exact hsl, hB9, HOF.out⟩
end Go.Proofs.Ytnejacogflkmmaa

/- What Expire leaves: plain. -/
namespace Go.Proofs.Ytnejacogflkmmaa
theorem ord_same {s t : SS} (h : Same s t) (n : Need) : ordF t n = ordF s n := by
  have h1 : madeF t = madeF s := by funext l; unfold madeF; rw [h.lo]
  have h2 : lotsOfF t n = lotsOfF s n := by
    have h3 : lotOk t n = lotOk s n := by funext l; unfold lotOk; rw [h.lo]
    unfold lotsOfF; rw [h.lo, h3]
  unfold ordF; rw [h1, h2]
theorem lots_exp {s : SS} (h : Inv s) {n : Need} {d0 D : Int} (hd : d0 ≤ D) : lotsL (expS s d0) n D = lotsL s n D := by
  unfold lotsL
  cases hv : needB n D with
  | false => rfl
  | true =>
    obtain ⟨a1, a2, a3, a4, _⟩ := exp_all h d0
    show lotsF (expS s d0) n D (ordF (expS s d0) n) = lotsF s n D (ordF s n)
    rw [ord_same a2]
    unfold lotsF
    refine List.filter_congr fun lot _ => ?_
    refine expire_same h a1 (needB_ok hv).1 a2.ru a2.la (fun j x hx => ((a4 j x).1 hx).1) fun j x hx hu => (a4 j x).2 ⟨hx, ?_⟩
    unfold useF at hu
    simp only [Bool.and_eq_true, Bool.not_eq_true'] at hu
    have h2 := hu.2
    unfold oldF at h2 ⊢
    rw [decide_eq_false_iff_not] at h2 ⊢
    omega
theorem filter_two {α : Type} (p : α → Bool) : ∀ l : List α, (l.filter p).length + (l.filter fun x => !p x).length = l.length
  | [] => rfl
  | x :: l => by
    have ih := filter_two p l
    rw [List.filter_cons, List.filter_cons]
    cases p x <;> simp <;> omega
theorem exp_len {s : SS} (h : Inv s) (d : Int) : (expL s d).length + (itemsL (expS s d)).length = (itemsL s).length := by
  obtain ⟨_, _, _, _, a5⟩ := exp_all h d
  rw [a5]
  unfold expL
  rw [List.length_map]
  exact filter_two _ _
theorem filter_at {α : Type} (p : α → Bool) : ∀ (l : List α) (i : Nat) (x : α), l[i]? = some x → p x = true → (l.filter p)[((l.take i).filter p).length]? = some x
  | [], i, x, h, _ => by simp at h
  | y :: l, 0, x, h, hp => by
    simp at h; subst h
    rw [List.filter_cons, if_pos hp]; rfl
  | y :: l, i + 1, x, h, hp => by
    have ih := filter_at p l i x (by simpa using h) hp
    rw [List.take_succ_cons, List.filter_cons, List.filter_cons]
    by_cases hy : p y = true
    · rw [if_pos hy, if_pos hy]; simpa using ih
    · rw [if_neg hy, if_neg hy]; exact ih
theorem gone_at {s : SS} {d : Int} {i : Nat} {x : Sheet} (h : (itemsL s)[i]? = some x) (ho : oldF s.rules x d = true) : (expL s d)[(((itemsL s).take i).filter fun x => oldF s.rules x d).length]? = some x.id := by
  unfold expL
  rw [List.getElem?_map, filter_at (fun x => oldF s.rules x d) _ i x h ho]; rfl
theorem u64_bd (n : Int) : 0 ≤ (IntKind.u64.wrap n).tmod 400 ∧ (IntKind.u64.wrap n).tmod 400 < 400 := by
  have h0 : 0 ≤ IntKind.u64.wrap n := by
    unfold IntKind.wrap
    simp
    exact Int.emod_nonneg _ (by decide)
  exact ⟨Int.tmod_nonneg _ h0, Int.tmod_lt_of_pos _ (by decide)⟩
end Go.Proofs.Ytnejacogflkmmaa
