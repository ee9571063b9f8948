/- Parts of the proofs of this seat: TakeP, Take. Each part says what it proves; no condition beyond those stated there. -/
import Derived.Test.YtpeokpnjnmgloaaM15
import Derived.Test.YtpeokpnjnmgloaaM21
import Derived.Test.YtpeokpnjnmgloaaM23

/- Take of the store: plain. -/
namespace Go.Proofs.Ytpeokpnjnmgloaa
noncomputable def takeFrom (s : SS) (n : Need) (day : Int) : List Int → Option (SS × List Piece)
  | [] => none
  | lot :: r => match cutAllF n lot day n.count.toNat s with
    | some q => some q
    | none => takeFrom s n day r
noncomputable def takeF (s : SS) (n : Need) (day : Int) : Option (SS × List Piece) := takeFrom s n day (ordF s n)
noncomputable def takeS (s : SS) (n : Need) (day : Int) : SS := if needB n day then match takeF s n day with | some q => q.1 | none => s else s
noncomputable def takeE (s : SS) (n : Need) (day : Int) : Int := if needB n day then match takeF s n day with | some _ => 0 | none => 24 else 2
noncomputable def takeL (s : SS) (n : Need) (day : Int) : List Piece := if needB n day then match takeF s n day with | some q => q.2 | none => [] else []
theorem takeFrom_some {s : SS} {n : Need} {day : Int} : ∀ {ls : List Int} {q : SS × List Piece}, takeFrom s n day ls = some q → ∃ lot ∈ ls, cutAllF n lot day n.count.toNat s = some q
  | [], q, h => by cases h
  | lot :: r, q, h => by
    unfold takeFrom at h
    cases hc : cutAllF n lot day n.count.toNat s with
    | some q2 => rw [hc] at h; injection h with h; subst h; exact ⟨lot, by simp, hc⟩
    | none =>
      rw [hc] at h
      obtain ⟨l2, h1, h2⟩ := takeFrom_some (ls := r) h
      exact ⟨l2, List.mem_cons_of_mem _ h1, h2⟩
theorem from_next {s : SS} {n : Need} {day : Int} {ls : List Int} {i : Nat} {lot : Int} (h : ls[i]? = some lot) (hc : cutAllF n lot day n.count.toNat s = none) : takeFrom s n day (ls.drop i) = takeFrom s n day (ls.drop (i + 1)) := by
  have hi := (List.getElem?_eq_some_iff.1 h).1
  rw [List.drop_eq_getElem_cons hi, (List.getElem?_eq_some_iff.1 h).2]
  show (match cutAllF n lot day n.count.toNat s with | some q => some q | none => takeFrom s n day (ls.drop (i + 1))) = _
  rw [hc]
theorem from_here {s : SS} {n : Need} {day : Int} {ls : List Int} {i : Nat} {lot : Int} {q : SS × List Piece} (h : ls[i]? = some lot) (hc : cutAllF n lot day n.count.toNat s = some q) : takeFrom s n day (ls.drop i) = some q := by
  have hi := (List.getElem?_eq_some_iff.1 h).1
  rw [List.drop_eq_getElem_cons hi, (List.getElem?_eq_some_iff.1 h).2]
  show (match cutAllF n lot day n.count.toNat s with | some q => some q | none => takeFrom s n day (ls.drop (i + 1))) = _
  rw [hc]
theorem take_inv {s : SS} (h : Inv s) (n : Need) (day : Int) : Inv (takeS s n day) ∧ Ext s (takeS s n day) := by
  unfold takeS
  split
  · rename_i hv
    cases hq : takeF s n day with
    | none => exact ⟨h, Ext.refl s⟩
    | some q =>
      obtain ⟨lot, _, hc⟩ := takeFrom_some hq
      exact cutAll_inv (needB_ok hv).1 h (l := q.2) (by rw [hc])
  · exact ⟨h, Ext.refl s⟩
theorem take_room {s : SS} {r : Nat} (h : Room s (r + 50)) (n : Need) (day : Int) : Room (takeS s n day) r := by
  unfold takeS
  split
  · rename_i hv
    cases hq : takeF s n day with
    | none => exact h.less (by omega)
    | some q =>
      obtain ⟨lot, _, hc⟩ := takeFrom_some hq
      have := (needB_ok hv).1.c
      exact room_all (k := n.count.toNat) (r := r) (s' := q.1) (l := q.2) (h.less (by omega)) (by rw [hc])
  · exact h.less (by omega)
end Go.Proofs.Ytpeokpnjnmgloaa

/- Take: the walk. -/
namespace Go.Proofs.Ytpeokpnjnmgloaa
open Go Go.RowKit
theorem cutAll_none (p : Fp) (s : SS) (n : Need) (lot day : Int) (w : World) (hX : StA w p s) (hI : Inv s) (hF : Room s n.count.toNat) (hn : NeedOk n) (hd : 0 ≤ day ∧ day ≤ 100000) (hc : cutAllF n lot day n.count.toNat s = none) :
    Calls Try.prog 32 #[.pointer (some ⟨p.g, 0, none⟩), .agg #[.int .i64 n.grade, .int .i64 n.colour, .int .i64 n.width, .int .i64 n.length, .int .i64 n.count], .int .i64 lot, .int .i64 day] w fun e w' => e = .returned (.tuple #[.slice none 0 0, .bool false]) ∧ Chg p.has w w' := by
  refine (cutAll_any p s n lot day w hX hI hF hn hd).mono ?_
  intro e w' h
  unfold CutAllPost at h
  rw [hc] at h
  exact h
theorem cutAll_some (p : Fp) (s : SS) (n : Need) (lot day : Int) (w : World) (hX : StA w p s) (hI : Inv s) (hF : Room s n.count.toNat) (hn : NeedOk n) (hd : 0 ≤ day ∧ day ≤ 100000) {s' : SS} {l : List Piece} (hc : cutAllF n lot day n.count.toNat s = some (s', l)) :
    Calls Try.prog 32 #[.pointer (some ⟨p.g, 0, none⟩), .agg #[.int .i64 n.grade, .int .i64 n.colour, .int .i64 n.width, .int .i64 n.length, .int .i64 n.count], .int .i64 lot, .int .i64 day] w fun e w' => ∃ A c, e = .returned (.tuple #[.slice A l.length c, .bool true]) ∧ Slc Piece.enc 8 w' w'.heap.size A l ∧ (∀ ad, A = some ad → w.heap.size ≤ ad.block) ∧ StA w' p s' ∧ Chg p.has w w' := by
  refine (cutAll_any p s n lot day w hX hI hF hn hd).mono ?_
  intro e w' h
  unfold CutAllPost at h
  rw [hc] at h
  exact h
theorem StA.move {w w' : World} {p2 : Fp} {s2 : SS} {g : Nat} {cs : Array Value} (h : StA w p2 s2) (hB : Blk w' g 58 (storeCells_ s2 p2.ri p2.rp p2.rq p2.rl)) (hc : Chg (fun k => k = g) w w') (hg : Blk w g 58 cs) : StA w' ⟨g, p2.ri, p2.rp, p2.rq, p2.rl⟩ s2 := by
  obtain ⟨MI, hm, hz⟩ := h.items
  have hS : ∀ k, k = g → NoSpan w k := fun k hk => by subst hk; exact NoSpan.blk hg (by decide)
  exact ⟨hB, ⟨MI, hm.chg hc (hm.blk_ne hg), hz.imp fun x v hv => hv.chg hc hS⟩, h.pieces.chg hc (h.pieces.blk_ne hg), h.parent.chg hc (h.parent.blk_ne hg), h.lots.chg hc (h.lots.blk_ne hg), h.ne⟩
def TakePost (p : Fp) (s : SS) (n : Need) (day : Int) (w : World) (e : Ending) (w' : World) : Prop :=
  ∃ p' A c, e = .returned (.tuple #[.slice A (takeL s n day).length c, .int .i64 (takeE s n day)]) ∧ Stp w p (takeS s n day) w' p' ∧ Slc Piece.enc 8 w' w'.heap.size A (takeL s n day) ∧ ∀ ad, A = some ad → w.heap.size ≤ ad.block ∧ ¬ p'.has ad.block
theorem take_post0 {p : Fp} {s : SS} {n : Need} {day : Int} {w w' : World} {e : Ending} {er : Int} (h1 : takeL s n day = []) (h2 : takeE s n day = er) (h3 : takeS s n day = s) (he : e = .returned (.tuple #[.slice none 0 0, .int .i64 er])) (hX : StA w' p s) (hC : Chg p.has w w') : TakePost p s n day w e w' := by
  refine ⟨p, none, 0, by rw [h1, h2]; exact he, by rw [h3]; exact .mk1 hX hC, by rw [h1]; exact Slc.nil_, fun ad h => by cases h⟩
set_option maxRecDepth 100000 in
set_option maxHeartbeats 4000000 in
theorem take_any (p : Fp) (s : SS) (n : Need) (day : Int) (w : World) (hX : StA w p s) (hI : Inv s) (hF : Room s 50) :
    Calls Try.prog 19 #[.pointer (some ⟨p.g, 0, none⟩), .agg #[.int .i64 n.grade, .int .i64 n.colour, .int .i64 n.width, .int .i64 n.length, .int .i64 n.count], .int .i64 day] w (TakePost p s n day w) := by
  have HI := hide hI
  have HF := hide hF
  have hn := Blk.new w 38 #[.int .i64 n.grade, .int .i64 n.colour, .int .i64 n.width, .int .i64 n.length, .int .i64 n.count]
  have hal := (Below.refl w.heap.size w).alloc (Nat.le_refl _) (.cells #[.int .i64 n.grade, .int .i64 n.colour, .int .i64 n.width, .int .i64 n.length, .int .i64 n.count] 38)
  have HLT : Hid (∀ k, p.has k → k < w.heap.size) := fun k hk => hX.lt hk
  replace hX := hX.below hal
  clear hI hF
  go_enter Try.func19, Try.ntmps19
  go_upto_region 1 with fail
  generalize w.alloc (.cells #[.int .i64 n.grade, .int .i64 n.colour, .int .i64 n.width, .int .i64 n.length, .int .i64 n.count] 38) = W at *
  obtain ⟨b0, hb0⟩ : ∃ b, w.heap.size = b := ⟨_, rfl⟩
  rw [hb0] at hn ⊢
  have HB0 := hide hb0
  clear hb0
  have c5 := hX.blk.cell_ 5 (v := .bool true) rfl
  have y0 := hn.cell_ 0 rfl
  have y1 := hn.cell_ 1 rfl
  have y2 := hn.cell_ 2 rfl
  have y3 := hn.cell_ 3 rfl
  have y4 := hn.cell_ 4 rfl
  cases hv : needB n day with
  | false =>
    have H1 : Hid (takeL s n day = [] ∧ takeE s n day = 2 ∧ takeS s n day = s) := by
      show _ ∧ _ ∧ _
      unfold takeL takeE takeS; rw [hv]; exact ⟨rfl, rfl, rfl⟩
    go_wp2_with fail
    refine (none_any p.g _ c5).mono ?_
    rintro e W' ⟨rfl, rfl⟩
    go_wp2_with fail
    refine (validNeed_is n day _ hv).mono ?_
    rintro e W2 ⟨rfl, hb2⟩
    have hX2 := hX.below hb2
    have hC2 : Chg p.has w W2 := .of_below (hal.trans (hb2.mono hal.size))
    clear c5 y0 y1 y2 y3 y4 hv hX hn hal hb2
    go_wp2_with fail
    go_ret2
    exact take_post0 H1.out.1 H1.out.2.1 H1.out.2.2 rfl hX2 hC2
  | true =>
    have HV := hide hv
    go_wp2_with fail
    refine (none_any p.g _ c5).mono ?_
    rintro e W' ⟨rfl, rfl⟩
    go_wp2_with fail
    refine (validNeed_is n day _ hv).mono ?_
    rintro e W2 ⟨rfl, hb2⟩
    replace hX := hX.below hb2
    replace hn := hn.below hb2 hn.lt
    have hB := hal.trans (hb2.mono hal.size)
    clear c5 y0 y1 y2 y3 y4 hv hal hb2
    obtain ⟨W, rfl⟩ : ∃ X : World, X = W2 := ⟨_, rfl⟩
    have y0 := hn.cell_ 0 rfl
    have y1 := hn.cell_ 1 rfl
    have y2 := hn.cell_ 2 rfl
    have y3 := hn.cell_ 3 rfl
    have y4 := hn.cell_ 4 rfl
    go_wp2_with fail
    refine (ordered_any p s n _ hX HI.out HF.out.few).mono ?_
    rintro e W2 ⟨AL, cL, rfl, hL, hb2, _⟩
    replace hX := hX.below hb2
    replace hn := hn.below hb2 hn.lt
    replace hB := hB.trans (hb2.mono hB.size)
    clear y0 y1 y2 y3 y4 hb2
    obtain ⟨ls, hls⟩ : ∃ ls, ordF s n = ls := ⟨_, rfl⟩
    have HLS := hide hls
    have hll : ls.length ≤ 1000000 := by rw [← hls]; unfold ordF; rw [sortK_len]; exact Nat.le_trans (lots_len s n) HF.out.few.lo
    rw [hls] at hL ⊢
    clear hls
    obtain ⟨w2, rfl⟩ : ∃ X : World, X = W2 := ⟨_, rfl⟩
    have HX := hide hX
    have HNB := hide hn
    have HB := hide hB
    have HN := hide (needB_ok HV.out).1
    have HD := hide (needB_ok HV.out).2
    have HR : Hid (Room s n.count.toNat) := HF.out.less (by have := HN.out.c; omega)
    clear hX hn hB
    have hw0 : w.heap.size ≤ w2.heap.size := HB.out.size
    have HW0 := hide hw0
    clear hw0
    go_upto_region 4 with fail
    go_loopw [25] (fun z wr => ∃ (i : Nat), z = .int .i64 i ∧ i ≤ ls.length ∧ Hid (takeFrom s n day (ls.drop i) = takeF s n day) ∧ Below w2.heap.size w2 wr) (fun z _ => ls.length - (intOf z).toNat)
    case atStart => exact ⟨0, rfl, Nat.zero_le _, (by show _ = _; unfold takeF; rw [HLS.out]; rfl : Hid _), Below.refl _ _⟩
    case round =>
      obtain ⟨W, rfl⟩ : ∃ X : World, X = wr := ⟨_, rfl⟩
      obtain ⟨i, rfl, hi, HTF, hB⟩ := hrel
      have hBs := hB.size
      by_cases hlt : i < ls.length
      · obtain ⟨lot, bK, oK, hk, hA, hbK, d0⟩ := ints_at' (hL.below hB) hlt
        have hii : (i : Int) < (ls.length : Int) := by omega
        have ei : IntKind.i64.wrap ((i : Int) + 1) = ((i + 1 : Nat) : Int) := by rw [IntWalk.i64_in _ (by omega)]; push_cast; rfl
        have hXW := HX.out.below hB
        have HK := hide hk
        subst hA
        clear hk
        go_wp2_with fail
        refine (copy_any p s W hXW).mono ?_
        rintro e W3 ⟨p2, rfl, hX2, hnew, hb3⟩
        have hX3 := hXW.below hb3
        have hn3 := (HNB.out.below hB HNB.out.lt).below hb3 (Nat.lt_of_lt_of_le HNB.out.lt hBs)
        have hB3 := hB.trans (hb3.mono hBs)
        have HNEW : Hid (∀ k, p2.has k → w2.heap.size ≤ k) := fun k hk => Nat.le_trans hBs (hnew k hk)
        have HP2 : Hid (∀ k, p2.has k → k < W3.heap.size) := fun k hk => hX2.lt hk
        clear d0 hXW hnew hb3 hB hBs
        have y0 := hn3.cell_ 0 rfl
        have y1 := hn3.cell_ 1 rfl
        have y2 := hn3.cell_ 2 rfl
        have y3 := hn3.cell_ 3 rfl
        have y4 := hn3.cell_ 4 rfl
        cases hc : cutAllF n lot day n.count.toNat s with
        | none =>
          have HT : Hid (takeFrom s n day (ls.drop (i + 1)) = takeF s n day) := by show _ = _; rw [← from_next HK.out hc]; exact HTF.out
          have HCN := hide hc
          clear hc
          go_wp2_with fail
          refine (cutAll_none p2 s n lot day W3 hX2 HI.out HR.out HN.out HD.out HCN.out).mono ?_
          rintro e W4 ⟨rfl, hc4⟩
          have hB4 : Below w2.heap.size w2 W4 := hB3.trans (hc4.to_below hB3.size fun k hk hp => by have := HNEW.out k hp; omega)
          clear y0 y1 y2 y3 y4 hX2 hX3 hn3 hB3 hc4
          go_wp2_with fail
          go_roundw
          case rel => exact ⟨i + 1, by go_num, by omega, HT, hB4⟩
          case measure => simp [intOf]; omega
        | some q =>
          obtain ⟨s2, l⟩ := q
          have HTQ : Hid (takeF s n day = some (s2, l)) := by show _ = _; rw [← HTF.out]; exact from_here HK.out hc
          have HCN := hide hc
          clear hc
          go_wp2_with fail
          refine (cutAll_some p2 s n lot day W3 hX2 HI.out HR.out HN.out HD.out HCN.out).mono ?_
          rintro e W4 ⟨A, c, rfl, hS4, hA4, hX4, hc4⟩
          have hgl : p.g < w.heap.size := HLT.out _ (by simp [Fp.has])
          have hB4 : Below w2.heap.size w2 W4 := hB3.trans (hc4.to_below hB3.size fun k hk hp => by have := HNEW.out k hp; omega)
          have hg4 := hX3.blk.chg hc4 (fun hh => by have := HNEW.out _ hh; have := HW0.out; omega)
          have z0 := hX4.blk.cell_ 0 rfl
          have z1 := hX4.blk.cell_ 1 rfl
          have z2 := hX4.blk.cell_ 2 rfl
          have z3 := hX4.blk.cell_ 3 rfl
          have z4 := hX4.blk.cell_ 4 rfl
          have z5 := hX4.blk.cell_ 5 rfl
          have z6 := hX4.blk.cell_ 6 rfl
          have z7 := hX4.blk.cell_ 7 rfl
          have z8 := hX4.blk.cell_ 8 rfl
          have z9 := hX4.blk.cell_ 9 rfl
          have z10 := hX4.blk.cell_ 10 rfl
          have z11 := hX4.blk.cell_ 11 rfl
          have z12 := hX4.blk.cell_ 12 rfl
          have HS4 := hide hS4
          have HA4 := hide hA4
          have HX4 := hide hX4
          have HG4 := hide hg4
          have hsz34 := hc4.size
          have hsz23 := hB3.size
          clear y0 y1 y2 y3 y4 hX2 hX3 hn3 hB3 hc4 hS4 hA4 hX4 hg4
          go_wp2_with (refine wpList_store_blk rfl 58 _ _ rfl #[.int .i64 s2.rules.minWidth, .int .i64 s2.rules.minLength, .int .i64 s2.rules.l0, .int .i64 s2.rules.l1, .int .i64 s2.rules.l2, .bool true, .map (some p2.ri), .map (some p2.rp), .map (some p2.rq), .map (some p2.rl), .int .i64 s2.last, .int .i64 s2.received, .int .i64 s2.waste] HG4.out rfl rfl (by kernel_rfl) rfl (by simp [Value.oneCell']) ?_; intro W5 hB5 hc5; clear z0 z1 z2 z3 z4 z5 z6 z7 z8 z9 z10 z11 z12)
          go_ret2
          have hB6 : Below w.heap.size w W4 := HB.out.trans (hB4.mono HW0.out)
          have e1 : takeL s n day = l ∧ takeE s n day = 0 ∧ takeS s n day = s2 := by
            unfold takeL takeE takeS; rw [HV.out, HTQ.out]; exact ⟨rfl, rfl, rfl⟩
          refine ⟨⟨p.g, p2.ri, p2.rp, p2.rq, p2.rl⟩, A, c, by rw [e1.1, e1.2.1]; rfl, ⟨?_, rfl, ?_, ?_⟩, ?_, ?_⟩
          · rw [e1.2.2]; exact HX4.out.move hB5 hc5 HG4.out
          · intro k hk
            rcases hk with hk | hk | hk | hk | hk
            · left; rw [show k = p.g from hk]; simp [Fp.has]
            all_goals right; exact Nat.le_trans HW0.out (HNEW.out k (by rw [show k = _ from hk]; simp [Fp.has]))
          · exact (Chg.of_below hB6).trans (hc5.mono fun k _ hk => by rw [hk]; simp [Fp.has])
          · rw [e1.1]
            exact (HS4.out.chgA hc5 (Nat.le_refl _) fun ad h hk => by have h1 := HA4.out ad h; have hk' : ad.block = p.g := hk; have := HW0.out; omega).more hc5.size
          · intro ad h
            have h1 := HA4.out ad h
            refine ⟨by have := HW0.out; omega, ?_⟩
            rintro (hk | hk | hk | hk | hk)
            · have hk' : ad.block = p.g := hk
              have := HW0.out; omega
            all_goals
              have := HP2.out ad.block (by rw [show ad.block = _ from hk]; simp [Fp.has])
              omega
      · obtain rfl : i = ls.length := by omega
        have HTQ : Hid (takeF s n day = none) := by show _ = _; rw [← HTF.out, List.drop_length]; rfl
        have hXW := HX.out.below hB
        have hCW : Chg p.has w W := .of_below (HB.out.trans (hB.mono HW0.out))
        go_wp2_with fail
        go_ret2
        have e1 : takeL s n day = [] ∧ takeE s n day = 24 ∧ takeS s n day = s := by
          unfold takeL takeE takeS; rw [HV.out, HTQ.out]; exact ⟨rfl, rfl, rfl⟩
        exact take_post0 e1.1 e1.2.1 e1.2.2 rfl hXW hCW
end Go.Proofs.Ytpeokpnjnmgloaa
