/- Parts of the proofs of this seat: KClone, KDear, KPrices, KAwake, KBatch, KRefPrices, KLaw1, KFits, KCheckP, KLeast, KCanonP, KCompare, KSame, KCheck, KRefCheck, KRolls, KWaste, KFew, KMoreP, KLaw4. Each part says what it proves; no condition beyond those stated there. -/
import Derived.Deep.DeepCutAuto
import Derived.Test.YtkcfalehebacpaaDoorB1
import Derived.Test.YtkcfalehebacpaaDoorB5
import Derived.Test.YtkcfalehebacpaaDoorB6
import Derived.Test.YtkcfalehebacpaaDoorB7
import Derived.Test.YtkcfalehebacpaaDoorB8

/- slices.Clone of numbers. -/
namespace Go.Proofs.YtkcfalehebacpaaDoor
open Go Go.RowKit
theorem et_ints : ElemT Tryd.prog 25 3 1 := elemT_mk Tryd.underlying25 (z := .int .i64 0) (bytes := 8) (by kernel_rfl) rfl (by omega) (by omega)
theorem intEnc_len (n : Int) : (intEnc n).length = 1 := rfl
theorem intEnc_one (n : Int) : ∀ u ∈ intEnc n, u.oneCell' = true := fun u hu => by simp [intEnc] at hu; subst hu; rfl
def ClonePost {α : Type} (t : TypeId) (f : α → List Value) (sz : Nat) (l : List α) (w : World) (e : Ending) (w' : World) : Prop :=
  ∃ A' c', e = .returned (.slice A' l.length c') ∧ Below w.heap.size w w' ∧ Slc f sz w' w'.heap.size A' l ∧ (l ≠ [] → Own w' w.heap.size t sz f (.slice A' l.length c') l)
set_option maxRecDepth 100000 in
theorem cloneInt_any (A : Option Addr) (c : Nat) (l : List Int) (w : World) (hl : l.length ≤ 100000) (hS : Slc intEnc 1 w w.heap.size A l) :
    Calls Tryd.prog 39 #[.slice A l.length c] w (ClonePost 3 intEnc 1 l w) := by
  have q22 : ∀ (w : World) (a : Option Addr) (n c n' c' : Nat), (binOp .eql 25 (.slice a n c) (.slice none n' c')).run Tryd.prog w = .ok (.bool a.isNone) w := fun w a n c n' c' => Lib.run_eql_slice_nil w _ _ a n c n' c' Tryd.underlying25
  cases A with
  | none =>
    have hn : l = [] := by
      cases l with
      | nil => rfl
      | cons x r => obtain ⟨b, off, h, _⟩ := hS 0 x rfl; cases h
    subst hn
    go_enter Tryd.func39, Tryd.ntmps39
    go_wp2_with fail
    go_ret
    exact ⟨none, 0, rfl, Below.refl _ _, Slc.nil_, fun h => absurd rfl h⟩
  | some a =>
    have HS := hide hS
    have hsz : (w.alloc (.cells #[] 3)).heap.size = w.heap.size + 1 := by simp
    have HSZ := hide hsz
    have HB0 := hide ((Below.refl w.heap.size w).alloc (Nat.le_refl _) (.cells #[] 3))
    clear hS hsz
    go_enter Tryd.func39, Tryd.ntmps39
    go_wp2_with (at_builtin; refine wpList_app_full (xs := []) (ys := l) (B1 := 0) (B2 := w.heap.size) _ _ rfl rfl et_ints rfl rfl Slc.nil_ rfl (HS.out.below HB0.out) rfl (Nat.zero_le _) intEnc_len intEnc_one (by omega) ?_; intro A' c' W' hb hS' hc' hO')
    go_ret
    have hb2 := HB0.out.trans (hb.mono HB0.out.size)
    refine ⟨A', c', by simp, hb2, by simpa using hS', fun hne => ?_⟩
    have h := (hO' hne).mono_base (b' := w.heap.size) HB0.out.size
    simpa using h
/-- a list that a call made, all of one-cell elements, as a block -/
theorem own_blk {α : Type} {g : α → Value} {w : World} {base : Nat} {e : TypeId} {A : Option Addr} {c : Nat} {l : List α} {n : Nat} (h : Own w base e 1 (fun x => [g x]) (.slice A n c) l) (hl : l ≠ []) : ∃ b js, A = some ⟨b, 0, none⟩ ∧ base ≤ b ∧ Blk w b e (l.map g ++ js).toArray := by
  rcases h.2 with ⟨_, h2⟩ | ⟨b, cap, cur, h1, h2, h3, _, _, _, h7⟩
  · exact absurd (List.length_eq_zero_iff.1 h2) hl
  · injection h1 with h1 _ _
    have e1 : ∀ l : List α, l.map g = l.flatMap fun x => [g x] := fun l => by
      induction l with
      | nil => rfl
      | cons x r ih => rw [List.map_cons, List.flatMap_cons, ih]; rfl
    have e2 : cur = (l.map g ++ cur.toList.drop (l.length * 1)).toArray := by
      rw [e1, ← h7, List.take_append_drop]
    refine ⟨b, cur.toList.drop (l.length * 1), h1, h2, ?_⟩
    show _ = _
    rw [h3]
    exact congrArg (fun x => some (Obj.cells x e (0, 0))) e2
def intJ (l : List Int) (js : List Value) : Array Value := (l.map (Value.int .i64) ++ js).toArray
def bools (l : List Bool) : Array Value := (l.map Value.bool).toArray
theorem intJ_get {l : List Int} {js : List Value} {i : Nat} {v : Int} (h : l[i]? = some v) : (intJ l js)[i]? = some (.int .i64 v) := by
  have hi := (List.getElem?_eq_some_iff.1 h).1
  unfold intJ
  rw [List.getElem?_toArray, List.getElem?_append_left (by simpa using hi), List.getElem?_map, h]; rfl
theorem intJ_set {l : List Int} {js : List Value} {i : Nat} (h : i < l.length) (v : Int) : (intJ l js).setIfInBounds i (.int .i64 v) = intJ (l.set i v) js := by
  unfold intJ
  rw [List.setIfInBounds_toArray, List.set_append_left _ _ (by simpa using h), List.map_set]
theorem intJ_lt {l : List Int} {js : List Value} {i : Nat} (h : i < l.length) : i < (intJ l js).size := by
  unfold intJ; simp; omega
theorem bools_get {l : List Bool} {i : Nat} {v : Bool} (h : l[i]? = some v) : (bools l)[i]? = some (.bool v) := by
  unfold bools; simp [h]
theorem bools_set {l : List Bool} {i : Nat} (v : Bool) : (bools l).setIfInBounds i (.bool v) = bools (l.set i v) := by
  unfold bools; rw [List.setIfInBounds_toArray, List.map_set]
theorem bools_lt {l : List Bool} {i : Nat} (h : i < l.length) : i < (bools l).size := by unfold bools; simpa using h
theorem map_flat : ∀ l : List Int, l.map (Value.int .i64) = l.flatMap intEnc
  | [] => rfl
  | x :: r => by rw [List.map_cons, List.flatMap_cons, map_flat r]; rfl
theorem intJ_own {w : World} {base : Nat} {A : Option Addr} {c : Nat} {l : List Int} {n : Nat} (h : Own w base 3 1 intEnc (.slice A n c) l) (hl : l ≠ []) : ∃ b js, A = some ⟨b, 0, none⟩ ∧ base ≤ b ∧ Blk w b 3 (intJ l js) := by
  rcases h.2 with ⟨_, h2⟩ | ⟨g, cap, cur, h1, h2, h3, _, _, _, h7⟩
  · exact absurd (List.length_eq_zero_iff.1 h2) hl
  · injection h1 with h1 _ _
    have e := map_flat l
    have e2 : cur = intJ l (cur.toList.drop (l.length * 1)) := by
      unfold intJ
      rw [e, ← h7, List.take_append_drop]
    refine ⟨g, cur.toList.drop (l.length * 1), h1, h2, ?_⟩
    show _ = _
    rw [h3]
    exact congrArg (fun x => some (Obj.cells x 3 (0, 0))) e2
theorem intJ_slc {w : World} {b : Nat} {l : List Int} {js : List Value} (h : Blk w b 3 (intJ l js)) : Slc intEnc 1 w w.heap.size (some ⟨b, 0, none⟩) l := fun i x hx => by
  refine ⟨b, 0, rfl, h.lt, fun j v hv => ?_⟩
  cases j with
  | zero =>
    simp [intEnc] at hv
    subst hv
    have := h.cell_ i (intJ_get hx)
    simpa using this
  | succ j => simp [intEnc] at hv
theorem cloneInt_n (A : Option Addr) (c : Nat) (l : List Int) (w : World) {n : Nat} (hn : l.length = n) (hl : l.length ≤ 100000) (hS : Slc intEnc 1 w w.heap.size A l) :
    Calls Tryd.prog 39 #[.slice A n c] w (ClonePost 3 intEnc 1 l w) := by
  subst hn; exact cloneInt_any A c l w hl hS
end Go.Proofs.YtkcfalehebacpaaDoor

/- dearest of package cut: the walk. -/
namespace Go.Proofs.YtkcfalehebacpaaDoor
open Go Go.RowKit
theorem mk_zeros (n : Nat) (hn : n ≤ 100000) (w : World) : (Instr.makeSlice 25 (.int .i64 n) (.int .i64 n)).run Tryd.prog w = .ok (.slice (some ⟨w.heap.size, 0, none⟩) n n) (w.alloc (.cells (intJ (List.replicate n 0) []) 3)) := by
  have := run_make1 (P := Tryd.prog) (bytes := 8) (z := .int .i64 0) Tryd.underlying25 (by kernel_rfl) rfl (by omega) n (by omega) w
  have e : (List.replicate n (Value.int .i64 0)).toArray = intJ (List.replicate n 0) [] := by unfold intJ; simp
  rw [← e]; exact this
theorem getD_of {l : List Int} {i : Nat} {v : Int} (h : l[i]? = some v) : l.getD i 0 = v := by rw [List.getD_eq_getElem?_getD, h]; rfl
set_option maxRecDepth 100000 in
set_option maxHeartbeats 8000000 in
theorem dearest_any (L K : Int) (A : Option Addr) (c : Nat) (l : List Ask) (AP : Option Addr) (cP : Nat) (ps : List Int) (w : World) (hS : Slc Ask.enc 2 w w.heap.size A l) (hP : Slc intEnc 1 w w.heap.size AP ps) (hv : VK L K l) (hpl : ps.length = l.length) (hpb : ∀ p ∈ ps, 0 ≤ p ∧ p ≤ 1000000) :
    Calls Tryd.prog 28 #[.agg #[.int .i64 L, .int .i64 K, .slice A l.length c], .slice AP ps.length cP] w fun e w' => e = .returned (.int .i64 (dearF L K l ps)) ∧ Below w.heap.size w w' := by
  obtain ⟨vL, vK, vF, vA⟩ := hv
  have HVA := hide vA
  have HPB := hide hpb
  have HPL := hide hpl
  clear vA hpb hpl
  obtain ⟨R, hR⟩ : ∃ R : Nat, (R : Int) = L + K := ⟨(L + K).toNat, by omega⟩
  have HD : Hid (dearF L K l ps = (bestL K l ps (List.replicate (R + 1) 0)).getD R 0) := by
    show _ = _
    unfold dearF
    rw [show (L + K).toNat = R by omega]
  have hR2 : R ≤ 1020 := by omega
  have hmk := mk_zeros (R + 1) (by omega)
  rw [show ((R + 1 : Nat) : Int) = L + K + 1 by omega] at hmk
  have hk := (Blk.new w 24 #[.int .i64 L, .int .i64 K, .slice A l.length c]).alloc (.cells (intJ (List.replicate (R + 1) 0) []) 3)
  have hb := Blk.new (w.alloc (.cells #[.int .i64 L, .int .i64 K, .slice A l.length c] 24)) 3 (intJ (List.replicate (R + 1) 0) [])
  rw [show (w.alloc (.cells #[.int .i64 L, .int .i64 K, .slice A l.length c] 24)).heap.size = w.heap.size + 1 by simp] at hb
  have hB := ((Below.refl w.heap.size w).alloc (Nat.le_refl _) (.cells #[.int .i64 L, .int .i64 K, .slice A l.length c] 24)).alloc (by simp) (.cells (intJ (List.replicate (R + 1) 0) []) 3)
  have c0 := (Blk.new w 24 #[.int .i64 L, .int .i64 K, .slice A l.length c]).cell_ 0 (v := .int .i64 L) rfl
  have c1 := (Blk.new w 24 #[.int .i64 L, .int .i64 K, .slice A l.length c]).cell_ 1 (v := .int .i64 K) rfl
  go_enter Tryd.func28, Tryd.ntmps28
  go_upto_region 2 with fail
  clear c0 c1 hmk
  generalize (w.alloc (.cells #[.int .i64 L, .int .i64 K, .slice A l.length c] 24)).alloc (.cells (intJ (List.replicate (R + 1) 0) []) 3) = W at *
  have HRR := hide hR
  clear hR
  have c0 := hk.cell_ 0 rfl
  have c1 := hk.cell_ 1 rfl
  have c2 := hk.cell_ 2 rfl
  go_wp2_with fail
  clear c0 c1 c2
  go_loopw [5, 22] (fun bv y W => ∃ (i g cap : Nat) (js : List Value) (b : List Int), bv = .slice (some ⟨g, 0, none⟩) (R + 1) cap ∧ y = .int .i64 i ∧ i ≤ l.length ∧ b.length = R + 1 ∧ w.heap.size < g ∧ Blk W g 3 (intJ b js) ∧ Hid (Low b (i * 50000000) ∧ bestL K l ps (List.replicate (R + 1) 0) = bestL K (l.drop i) (ps.drop i) b) ∧ Blk W w.heap.size 24 #[.int .i64 L, .int .i64 K, .slice A l.length c] ∧ Below w.heap.size w W) (fun bv y _ => l.length - (intOf y).toNat)
  case atStart => exact ⟨0, w.heap.size + 1, R + 1, [], List.replicate (R + 1) 0, rfl, rfl, Nat.zero_le _, by simp, by omega, hb, hide ⟨by simpa using low_zero (R + 1), rfl⟩, hk, hB⟩
  case round =>
    clear hk hB hb
    obtain ⟨W, rfl⟩ : ∃ W : World, W = wr := ⟨_, rfl⟩
    obtain ⟨i, g, cap, js, b, rfl, rfl, hi, hbl, hg, hbb, HT, hk, hB⟩ := hrel
    by_cases hlt : i < l.length
    · obtain ⟨⟨ln, cn⟩, bo, off, hx, hA, _, d0, d1⟩ := ask_at (hS.below hB) hlt
      have hii : (i : Int) < (l.length : Int) := by omega
      have hxo := HVA.out _ (List.mem_of_getElem? hx)
      dsimp only at d0 d1 hxo
      obtain ⟨cnt, rfl⟩ : ∃ cnt : Nat, cn = (cnt : Int) := ⟨cn.toNat, by omega⟩
      obtain ⟨p, bq, offq, hp, hAP, _, hcp⟩ := ints_at' (hP.below hB) (show i < ps.length by rw [HPL.out]; exact hlt)
      have hpo := HPB.out p (List.mem_of_getElem? hp)
      have hR := HRR.out
      obtain ⟨wd, hwd⟩ : ∃ wd : Nat, (wd : Int) = ln + K := ⟨(ln + K).toNat, by omega⟩
      have HST : Hid (bestL K (l.drop i) (ps.drop i) b = bestL K (l.drop (i + 1)) (ps.drop (i + 1)) (rowK b wd p cnt)) := by
        show _ = _
        rw [bestL_step hx hp, show (ln + K).toNat = wd by omega, Int.toNat_natCast]
      have hcnt2 : cnt ≤ 50 := by omega
      have hwd2 : 1 ≤ wd ∧ wd ≤ 1020 := by omega
      clear hR
      have hip : (i : Int) < (ps.length : Int) := by rw [HPL.out]; exact hii
      have HP := hide hp
      clear hx hp hcp
      subst hA hAP
      have c0 := hk.cell_ 0 rfl
      have c1 := hk.cell_ 1 rfl
      have c2 := hk.cell_ 2 rfl
      have q_c0 := (hk.alloc (.cells #[.int .i64 ln, .int .i64 cnt] 46)).cell_ 0 rfl
      have q_c1 := (hk.alloc (.cells #[.int .i64 ln, .int .i64 cnt] 46)).cell_ 1 rfl
      have q_c2 := (hk.alloc (.cells #[.int .i64 ln, .int .i64 cnt] 46)).cell_ 2 rfl
      go_upto_region 5 with fail
      clear q_c0 q_c1 q_c2
      clear c0 c1 c2
      have hm := Blk.new W 46 #[.int .i64 ln, .int .i64 cnt]
      replace hk := hk.alloc (.cells #[.int .i64 ln, .int .i64 cnt] 46)
      replace hbb := hbb.alloc (.cells #[.int .i64 ln, .int .i64 cnt] 46)
      have hsz_bx : (W.alloc (.cells #[.int .i64 ln, .int .i64 cnt] 46)).heap.size = W.heap.size + 1 := by simp
      have bxge := hB.size
      replace hB := hB.alloc hB.size (.cells #[.int .i64 ln, .int .i64 cnt] 46)
      generalize hbx : W.heap.size = bx at *
      generalize W.alloc (.cells #[.int .i64 ln, .int .i64 cnt] 46) = W at *
      clear hbx
      have c0 := hk.cell_ 0 rfl
      have c1 := hk.cell_ 1 rfl
      have c2 := hk.cell_ 2 rfl
      have m0 := hm.cell_ 0 rfl
      have m1 := hm.cell_ 1 rfl
      clear d0 d1
      go_upto_region 6 with fail
      rw [← hwd]
      have HWD := hide hwd
      clear hwd hxo
      have hgl : g < W.heap.size := hbb.lt
      have hbxl : bx < W.heap.size := hm.lt
      go_wp2_with fail
      refine (cloneInt_n (some ⟨g, 0, none⟩) cap b _ hbl (by omega) (intJ_slc hbb)).mono ?_
      rintro e W ⟨A9, c9, rfl, hb, S9, hO9⟩
      clear c0 c1 c2 m0 m1
      replace hk := hk.below hb hk.lt
      replace hbb := hbb.below hb hbb.lt
      replace hm := hm.below hb hm.lt
      replace hB := hB.trans (hb.mono hB.size)
      clear hb
      have c0 := hk.cell_ 0 rfl
      have c1 := hk.cell_ 1 rfl
      have c2 := hk.cell_ 2 rfl
      have m0 := hm.cell_ 0 rfl
      have m1 := hm.cell_ 1 rfl
      obtain ⟨g2, js2, rfl, hg2, hn⟩ := intJ_own (hO9 (by rintro rfl; simp at hbl)) (by rintro rfl; simp at hbl)
      have hg2a : g < g2 := by omega
      have hg2b : bx < g2 := by omega
      have hg2c : w.heap.size < g2 := by omega
      rw [hbl]
      clear S9 hO9 hg2 hgl hbxl hsz_bx
      go_wp2_with fail
      clear c0 c1 c2 m0 m1
      go_loopw [36] (fun y W => ∃ (r : Nat) (N : List Int), y = .int .i64 r ∧ r ≤ R + 1 ∧ N.length = R + 1 ∧ Hid (RowTo b wd p cnt r N) ∧ Blk W w.heap.size 24 #[.int .i64 L, .int .i64 K, .slice (some ⟨bo, off, none⟩) l.length c] ∧ Blk W g 3 (intJ b js) ∧ Blk W bx 46 #[.int .i64 ln, .int .i64 cnt] ∧ Blk W g2 3 (intJ N js2) ∧ Below w.heap.size w W) (fun y _ => R + 1 - (intOf y).toNat)
      case atStart => exact ⟨0, b, rfl, Nat.zero_le _, hbl, hide (RowTo.start rfl), hk, hbb, hm, hn, hB⟩
      case round =>
        clear hk hB hbb hm hn
        obtain ⟨W, rfl⟩ : ∃ W : World, W = wr := ⟨_, rfl⟩
        obtain ⟨r, N, rfl, hr, hNl, HN, hk, hbb, hm, hn, hB⟩ := hrel
        by_cases hrl : r < R + 1
        · have hri : (r : Int) < (R : Int) + 1 := by omega
          go_wp2_with fail
          go_loopw [11] (fun y W => ∃ (k : Nat) (kk : Int) (N : List Int), y = .int .i64 kk ∧ Hid (kk = (k : Int) + 1) ∧ (1 ≤ kk ∧ kk ≤ 51) ∧ k ≤ cnt ∧ N.length = R + 1 ∧ Hid (RowAtK b wd p cnt r k N) ∧ Blk W w.heap.size 24 #[.int .i64 L, .int .i64 K, .slice (some ⟨bo, off, none⟩) l.length c] ∧ Blk W g 3 (intJ b js) ∧ Blk W bx 46 #[.int .i64 ln, .int .i64 cnt] ∧ Blk W g2 3 (intJ N js2) ∧ Below w.heap.size w W) (fun y _ => cnt + 1 - (intOf y).toNat)
          case atStart => exact ⟨0, 1, N, rfl, hide rfl, ⟨by omega, by omega⟩, Nat.zero_le _, hNl, hide HN.out.at_, hk, hbb, hm, hn, hB⟩
          case round =>
            clear hk hB hbb hm hn HN hNl
            clear N
            obtain ⟨W, rfl⟩ : ∃ W : World, W = wr := ⟨_, rfl⟩
            obtain ⟨k, kk, N, rfl, HKK, hk1, hkc, hNl, HN, hk, hbb, hm, hn, hB⟩ := hrel
            have c0 := hk.cell_ 0 rfl
            have c1 := hk.cell_ 1 rfl
            have c2 := hk.cell_ 2 rfl
            have m0 := hm.cell_ 0 rfl
            have m1 := hm.cell_ 1 rfl
            by_cases hle : kk ≤ (cnt : Int)
            · obtain ⟨m, hm0, hm1, hm2⟩ : ∃ m : Nat, kk * (wd : Int) = (m : Int) ∧ m = (k + 1) * wd ∧ m ≤ 100000 := by
                refine ⟨(k + 1) * wd, ?_, rfl, ?_⟩
                · rw [HKK.out]; push_cast; rfl
                · have := HKK.out
                  calc (k + 1) * wd ≤ 51 * 1020 := Nat.mul_le_mul (by omega) (by omega)
                    _ ≤ 100000 := by omega
              have e1 : IntKind.i64.wrap (kk * (wd : Int)) = (m : Int) := by rw [hm0]; exact IntWalk.i64_in _ (by omega)
              have HM := hide hm1
              clear hm0 hm1
              by_cases hmr : m ≤ r
              · obtain ⟨q, hq⟩ : ∃ q : Nat, (r : Int) - (m : Int) = (q : Int) := ⟨r - m, by omega⟩
                have hmr' : (m : Int) ≤ (r : Int) := by omega
                have hqi : (q : Int) < (R : Int) + 1 := by omega
                obtain ⟨v0, hv0⟩ : ∃ v, N[r]? = some v := ⟨_, List.getElem?_eq_getElem (by omega)⟩
                obtain ⟨v2, hv2⟩ : ∃ v, b[q]? = some v := ⟨_, List.getElem?_eq_getElem (by omega)⟩
                obtain ⟨p', bq', offq', hp', hAP', _, hcp⟩ := ints_at' (hP.below hB) (show i < ps.length by omega)
                obtain ⟨rfl, rfl⟩ : bq = bq' ∧ offq = offq' := by simpa using hAP'
                obtain rfl : p' = p := by have h := HP.out; rw [hp'] at h; injection h
                obtain ⟨pp, hpp, hpp2⟩ : ∃ pp : Int, kk * p' = pp ∧ 0 ≤ pp ∧ pp ≤ 51000000 := by
                  refine ⟨_, rfl, Int.mul_nonneg (by omega) hpo.1, ?_⟩
                  calc kk * p' ≤ 51 * 1000000 := Int.mul_le_mul hk1.2 hpo.2 hpo.1 (by omega)
                    _ ≤ 51000000 := by omega
                have e4 : IntKind.i64.wrap (kk * p') = pp := by rw [hpp]; exact IntWalk.i64_in _ (by omega)
                have hv2b := HT.out.1 q v2 hv2
                have hv2c : 0 ≤ v2 ∧ v2 ≤ 500000000 := by omega
                have hv0e := HN.out r v0 hv0
                rw [if_neg (by omega), if_pos rfl] at hv0e
                have htk : topK b wd p' r (k + 1) = max v0 (v2 + pp) := by
                  rw [topK_more (by rw [← HM.out]; exact hmr), ← hv0e, ← HM.out, show r - m = q by omega, getD_of hv2, ← hpp, HKK.out]
                  push_cast; rfl
                have t8 := hbb.cell_ q (intJ_get hv2)
                have t9 := hn.cell_ r (intJ_get hv0)
                have HSZ := hide (intJ_lt (l := N) (js := js2) (i := r) (by omega))
                have HTK := hide htk
                have HNL := hide hNl
                clear hv0 hv2 hp' hAP' hpp hv2b hv0e htk hNl
                by_cases hmx : v0 < v2 + pp
                · have HN2 : Hid (RowAtK b wd p' cnt r (k + 1) (N.set r (v2 + pp))) := HN.out.set (by rw [HTK.out]; omega)
                  go_wp2_with fail
                  refine wp_region_quiet_tail (C := fun w' => ∃ u : Since W, w' = u.w) 23 (by kernel_rfl) (by kernel_rfl) (Since.start W) ?_
                  simp only [List.take_succ_cons, List.take_zero, List.drop_succ_cons, List.drop_zero]
                  have y_c0 := Since.cell c0
                  have y_c1 := Since.cell c1
                  have y_c2 := Since.cell c2
                  have y_m0 := Since.cell m0
                  have y_m1 := Since.cell m1
                  have y_t8 := Since.cell t8
                  have y_t9 := Since.cell t9
                  have y_hcp := Since.cell hcp
                  clear c0 c1 c2 m0 m1
                  repeat (go_big_quiet_step ((fail)))
                  refine wpQuiet_nil ?_
                  rintro W ⟨⟨_, hb⟩, rfl⟩
                  try dsimp only at hb ⊢
                  replace t8 : W.cell? _ = _ := y_t8 ⟨W, hb⟩
                  replace t9 : W.cell? _ = _ := y_t9 ⟨W, hb⟩
                  replace hcp : W.cell? _ = _ := y_hcp ⟨W, hb⟩
                  clear y_c0 y_c1 y_c2 y_m0 y_m1 y_t8 y_t9 y_hcp
                  replace hk := hk.below hb hk.lt
                  replace hbb := hbb.below hb hbb.lt
                  replace hm := hm.below hb hm.lt
                  replace hn := hn.below hb hn.lt
                  replace hB := hB.trans (hb.mono hB.size)
                  clear hb
                  have c0 := hk.cell_ 0 rfl
                  have c1 := hk.cell_ 1 rfl
                  have c2 := hk.cell_ 2 rfl
                  have m0 := hm.cell_ 0 rfl
                  have m1 := hm.cell_ 1 rfl
                  refine wpList_store_at rfl 3 _ _ rfl (.int .i64 (v2 + pp)) hn rfl rfl (by kernel_rfl) rfl HSZ.out rfl ?_
                  intro W2 hn2 hc2
                  rw [intJ_set (by rw [HNL.out]; exact hrl)] at hn2
                  clear c0 c1 c2 m0 m1
                  replace hk := hk.chg1 hc2 (by omega)
                  replace hbb := hbb.chg1 hc2 (by omega)
                  replace hm := hm.chg1 hc2 (by omega)
                  replace hB := hB.trans (hc2.below1 hB.size (by omega))
                  have HNL2 : Hid ((N.set r (v2 + pp)).length = R + 1) := by show _ = _; rw [List.length_set]; exact HNL.out
                  clear hn hc2 t8 t9 hcp
                  go_wp2_with fail
                  go_roundw
                  case rel => exact ⟨k + 1, kk + 1, N.set r (v2 + pp), rfl, hide (by rw [HKK.out]; push_cast; rfl), ⟨by omega, by omega⟩, by have := HKK.out; omega, HNL2.out, HN2, hk, hbb, hm, hn2, hB⟩
                  case measure => have := HKK.out; simp [intOf]; omega
                · have HN2 : Hid (RowAtK b wd p' cnt r (k + 1) (N.set r v0)) := HN.out.set (by rw [HTK.out]; omega)
                  go_wp2_with fail
                  refine wp_region_quiet_tail (C := fun w' => ∃ u : Since W, w' = u.w) 23 (by kernel_rfl) (by kernel_rfl) (Since.start W) ?_
                  simp only [List.take_succ_cons, List.take_zero, List.drop_succ_cons, List.drop_zero]
                  have y_c0 := Since.cell c0
                  have y_c1 := Since.cell c1
                  have y_c2 := Since.cell c2
                  have y_m0 := Since.cell m0
                  have y_m1 := Since.cell m1
                  have y_t8 := Since.cell t8
                  have y_t9 := Since.cell t9
                  have y_hcp := Since.cell hcp
                  clear c0 c1 c2 m0 m1
                  repeat (go_big_quiet_step ((fail)))
                  refine wpQuiet_nil ?_
                  rintro W ⟨⟨_, hb⟩, rfl⟩
                  try dsimp only at hb ⊢
                  replace t8 : W.cell? _ = _ := y_t8 ⟨W, hb⟩
                  replace t9 : W.cell? _ = _ := y_t9 ⟨W, hb⟩
                  replace hcp : W.cell? _ = _ := y_hcp ⟨W, hb⟩
                  clear y_c0 y_c1 y_c2 y_m0 y_m1 y_t8 y_t9 y_hcp
                  replace hk := hk.below hb hk.lt
                  replace hbb := hbb.below hb hbb.lt
                  replace hm := hm.below hb hm.lt
                  replace hn := hn.below hb hn.lt
                  replace hB := hB.trans (hb.mono hB.size)
                  clear hb
                  have c0 := hk.cell_ 0 rfl
                  have c1 := hk.cell_ 1 rfl
                  have c2 := hk.cell_ 2 rfl
                  have m0 := hm.cell_ 0 rfl
                  have m1 := hm.cell_ 1 rfl
                  refine wpList_store_at rfl 3 _ _ rfl (.int .i64 (v0)) hn rfl rfl (by kernel_rfl) rfl HSZ.out rfl ?_
                  intro W2 hn2 hc2
                  rw [intJ_set (by rw [HNL.out]; exact hrl)] at hn2
                  clear c0 c1 c2 m0 m1
                  replace hk := hk.chg1 hc2 (by omega)
                  replace hbb := hbb.chg1 hc2 (by omega)
                  replace hm := hm.chg1 hc2 (by omega)
                  replace hB := hB.trans (hc2.below1 hB.size (by omega))
                  have HNL2 : Hid ((N.set r (v0)).length = R + 1) := by show _ = _; rw [List.length_set]; exact HNL.out
                  clear hn hc2 t8 t9 hcp
                  go_wp2_with fail
                  go_roundw
                  case rel => exact ⟨k + 1, kk + 1, N.set r (v0), rfl, hide (by rw [HKK.out]; push_cast; rfl), ⟨by omega, by omega⟩, by have := HKK.out; omega, HNL2.out, HN2, hk, hbb, hm, hn2, hB⟩
                  case measure => have := HKK.out; simp [intOf]; omega
              · have HN2 := hide (HN.out.done (topK_stop (by rw [← HM.out]; omega) hkc))
                have hmr' : ¬ (m : Int) ≤ (r : Int) := by omega
                go_wp2_with fail
                go_roundw
                case rel => exact ⟨r + 1, N, by go_num, by omega, hNl, HN2, hk, hbb, hm, hn, hB⟩
                case measure => simp [intOf]; omega
            · obtain rfl : k = cnt := by have := HKK.out; omega
              have HN2 := hide (HN.out.done rfl)
              go_wp2_with fail
              go_roundw
              case rel => exact ⟨r + 1, N, by go_num, by omega, hNl, HN2, hk, hbb, hm, hn, hB⟩
              case measure => simp [intOf]; omega
        · obtain rfl : r = R + 1 := by omega
          have hall := HN.out.all (by rw [hNl, hbl]) hbl.symm
          subst hall
          have HT2 : Hid (Low (rowK b wd p cnt) (((i + 1 : Nat) : Int) * 50000000) ∧ bestL K l ps (List.replicate (R + 1) 0) = bestL K (l.drop (i + 1)) (ps.drop (i + 1)) (rowK b wd p cnt)) := by
            refine ⟨?_, by rw [HT.out.2, HST.out]⟩
            have := rowK_low (wd := wd) (cnt := cnt) HT.out.1 (by omega) hpo hcnt2
            rw [show (((i + 1 : Nat) : Int)) * 50000000 = (i : Int) * 50000000 + 50000000 by push_cast; omega]
            exact this
          go_wp2_with fail
          go_roundw
          case rel => exact ⟨i + 1, g2, c9, js2, rowK b wd p cnt, rfl, by go_num, by omega, hNl, hg2c, hn, HT2, hk, hB⟩
          case measure => simp [intOf]; omega
    · obtain rfl : i = l.length := by omega
      obtain ⟨v, hv⟩ : ∃ v, b[R]? = some v := ⟨_, List.getElem?_eq_getElem (by omega)⟩
      have HV : Hid (dearF L K l ps = v) := by
        show _ = _
        rw [HD.out, HT.out.2]
        have e := bestL_end (K := K) (l := l) (ps := ps) (b := b)
        rw [e]; exact getD_of hv
      have t9 := hbb.cell_ R (intJ_get hv)
      go_wp2_with fail
      go_ret
      exact ⟨ret_int HV.out.symm, hB⟩
end Go.Proofs.YtkcfalehebacpaaDoor

/- priced, Dearest, Bound of package cut: the walks. -/
namespace Go.Proofs.YtkcfalehebacpaaDoor
open Go Go.RowKit
def pricesB (ps : List Int) : Bool := ps.all fun p => inB 0 p 1000000
def pricedB (l : List Ask) (ps : List Int) : Bool := pricesB ps && decide (ps.length = l.length)
theorem pricedB_iff {l : List Ask} {ps : List Int} : pricedB l ps = true ↔ (∀ p ∈ ps, 0 ≤ p ∧ p ≤ 1000000) ∧ ps.length = l.length := by
  unfold pricedB pricesB
  simp only [Bool.and_eq_true, List.all_eq_true, inB_iff, decide_eq_true_eq]
def dE (L K : Int) (l : List Ask) (ps : List Int) : Int := if validK L K l then (if pricedB l ps then 0 else 2) else 40
def dD (L K : Int) (l : List Ask) (ps : List Int) : Int := if dE L K l ps = 0 then dearF L K l ps else 0
theorem dE_zero {L K : Int} {l : List Ask} {ps : List Int} (h : dE L K l ps = 0) : validK L K l = true ∧ pricedB l ps = true := by
  unfold dE at h
  split at h
  · split at h
    · exact ⟨by assumption, by assumption⟩
    · cases h
  · cases h
def addF (s : Int) (q : Ask × Int) : Int := s + q.1.cnt * q.2
def allTo (l : List Ask) (ps : List Int) (i : Nat) : Int := ((l.zip ps).take i).foldl addF 0
def allF (l : List Ask) (ps : List Int) : Int := allTo l ps l.length
def bB (L K : Int) (l : List Ask) (ps : List Int) : Int := if dE L K l ps = 0 ∧ dD L K l ps ≠ 0 then (allF l ps + dD L K l ps - 1) / dD L K l ps else 0
set_option maxRecDepth 100000 in
set_option maxHeartbeats 1000000 in
theorem priced_any (L K : Int) (A : Option Addr) (c : Nat) (l : List Ask) (AP : Option Addr) (cP : Nat) (ps : List Int) (w : World) (hP : Slc intEnc 1 w w.heap.size AP ps) (hl : ps.length ≤ 100000) :
    Calls Tryd.prog 27 #[.agg #[.int .i64 L, .int .i64 K, .slice A l.length c], .slice AP ps.length cP] w fun e w' => e = .returned (.bool (pricedB l ps)) ∧ Below w.heap.size w w' := by
  have HD : Hid (pricedB l ps = (ps.all (fun p => inB 0 p 1000000) && decide (ps.length = l.length))) := rfl
  have hk := Blk.new w 24 #[.int .i64 L, .int .i64 K, .slice A l.length c]
  have hB := (Below.refl w.heap.size w).alloc (Nat.le_refl _) (.cells #[.int .i64 L, .int .i64 K, .slice A l.length c] 24)
  go_enter Tryd.func27, Tryd.ntmps27
  go_upto_region 1 with fail
  generalize w.alloc (.cells #[.int .i64 L, .int .i64 K, .slice A l.length c] 24) = W at *
  have c0 := hk.cell_ 0 rfl
  have c1 := hk.cell_ 1 rfl
  have c2 := hk.cell_ 2 rfl
  go_wp2_with fail
  clear c0 c1 c2
  go_loopw [9] (fun y W => ∃ (i : Nat), y = .int .i64 i ∧ i ≤ ps.length ∧ Hid ((ps.all fun p => inB 0 p 1000000) = (ps.drop i).all fun p => inB 0 p 1000000) ∧ Blk W w.heap.size 24 #[.int .i64 L, .int .i64 K, .slice A l.length c] ∧ Below w.heap.size w W) (fun y _ => ps.length - (intOf y).toNat)
  case atStart => exact ⟨0, rfl, Nat.zero_le _, hide rfl, hk, hB⟩
  case round =>
    clear hk hB
    obtain ⟨W, rfl⟩ : ∃ W : World, W = wr := ⟨_, rfl⟩
    obtain ⟨i, rfl, hi, HA, hk, hB⟩ := hrel
    by_cases hlt : i < ps.length
    · obtain ⟨p, b, off, hp, hA, _, d0⟩ := ints_at' (hP.below hB) hlt
      have hii : (i : Int) < (ps.length : Int) := by omega
      have HX := hide hp
      clear hp
      subst hA
      have c0 := hk.cell_ 0 rfl
      have c1 := hk.cell_ 1 rfl
      have c2 := hk.cell_ 2 rfl
      cases q1 : inB 0 p 1000000
      case false =>
        have HV : Hid (pricedB l ps = false) := by show _ = _; rw [HD.out, HA.out, all_drop HX.out, q1]; rfl
        go_wp2_with fail
        refine (kwithin_is 0 p 1000000 _ q1).mono ?_
        rintro e W' ⟨rfl, rfl⟩
        clear q1
        go_wp2_with fail
        go_ret
        exact ⟨ret_bool HV.out.symm, hB⟩
      case true =>
        have HA2 : Hid ((ps.all fun p => inB 0 p 1000000) = (ps.drop (i + 1)).all fun p => inB 0 p 1000000) := by show _ = _; rw [HA.out, all_drop HX.out, q1, Bool.true_and]
        go_wp2_with fail
        refine (kwithin_is 0 p 1000000 _ q1).mono ?_
        rintro e W' ⟨rfl, rfl⟩
        clear q1
        go_wp2_with fail
        go_roundw
        case rel => exact ⟨i + 1, by go_num, by omega, HA2, hk, hB⟩
        case measure => simp [intOf]; omega
    · obtain rfl : i = ps.length := by omega
      have HV : Hid (pricedB l ps = decide (ps.length = l.length)) := by show _ = _; rw [HD.out, HA.out, List.drop_length]; rfl
      have c0 := hk.cell_ 0 rfl
      have c1 := hk.cell_ 1 rfl
      have c2 := hk.cell_ 2 rfl
      by_cases hq : ps.length = l.length
      · have hq2 : ((ps.length : Int) == (l.length : Int)) = true := by simp [hq]
        have HV2 : Hid (pricedB l ps = true) := by show _ = _; rw [HV.out]; exact decide_eq_true hq
        clear hq
        go_wp2_with fail
        go_ret
        exact ⟨ret_bool HV2.out.symm, hB⟩
      · have hq2 : ((ps.length : Int) == (l.length : Int)) = false := by simp; omega
        have HV2 : Hid (pricedB l ps = false) := by show _ = _; rw [HV.out]; exact decide_eq_false hq
        clear hq
        go_wp2_with fail
        go_ret
        exact ⟨ret_bool HV2.out.symm, hB⟩
set_option maxRecDepth 100000 in
set_option maxHeartbeats 1000000 in
theorem apiDear_any (L K : Int) (A : Option Addr) (c : Nat) (l : List Ask) (AP : Option Addr) (cP : Nat) (ps : List Int) (w : World) (hS : Slc Ask.enc 2 w w.heap.size A l) (hP : Slc intEnc 1 w w.heap.size AP ps) (hl : ps.length ≤ 100000) :
    Calls Tryd.prog 16 #[.agg #[.int .i64 L, .int .i64 K, .slice A l.length c], .slice AP ps.length cP] w fun e w' => e = .returned (.tuple #[.int .i64 (dD L K l ps), .int .i64 (dE L K l ps)]) ∧ Below w.heap.size w w' := by
  have hk := Blk.new w 24 #[.int .i64 L, .int .i64 K, .slice A l.length c]
  have hB := (Below.refl w.heap.size w).alloc (Nat.le_refl _) (.cells #[.int .i64 L, .int .i64 K, .slice A l.length c] 24)
  go_enter Tryd.func16, Tryd.ntmps16
  go_upto_region 1 with fail
  generalize w.alloc (.cells #[.int .i64 L, .int .i64 K, .slice A l.length c] 24) = W at *
  have c0 := hk.cell_ 0 rfl
  have c1 := hk.cell_ 1 rfl
  have c2 := hk.cell_ 2 rfl
  go_wp2_with fail
  refine (kvalid_any L K A c l _ (hS.on hB)).mono ?_
  rintro e W ⟨rfl, hb⟩
  clear c0 c1 c2
  replace hk := hk.below hb hk.lt
  replace hB := hB.trans (hb.mono hB.size)
  clear hb
  have c0 := hk.cell_ 0 rfl
  have c1 := hk.cell_ 1 rfl
  have c2 := hk.cell_ 2 rfl
  cases hv : validK L K l
  case false =>
    have HE : Hid (dE L K l ps = 40) := by show _ = _; unfold dE; rw [hv]; rfl
    have HV : Hid (dD L K l ps = 0) := by show _ = _; unfold dD; rw [if_neg (by rw [HE.out]; omega)]
    clear hv
    go_wp2_with fail
    go_ret2
    exact ⟨by rw [HE.out, HV.out]; rfl, hB⟩
  have HVK := hide hv
  clear hv
  go_wp2_with fail
  refine (priced_any L K A c l AP cP ps _ (hP.on hB) hl).mono ?_
  rintro e W ⟨rfl, hb⟩
  clear c0 c1 c2
  replace hk := hk.below hb hk.lt
  replace hB := hB.trans (hb.mono hB.size)
  clear hb
  have c0 := hk.cell_ 0 rfl
  have c1 := hk.cell_ 1 rfl
  have c2 := hk.cell_ 2 rfl
  cases hp : pricedB l ps
  case false =>
    have HE : Hid (dE L K l ps = 2) := by show _ = _; unfold dE; rw [HVK.out, hp]; rfl
    have HV : Hid (dD L K l ps = 0) := by show _ = _; unfold dD; rw [if_neg (by rw [HE.out]; omega)]
    clear hp
    go_wp2_with fail
    go_ret2
    exact ⟨by rw [HE.out, HV.out]; rfl, hB⟩
  have HE : Hid (dE L K l ps = 0) := by show _ = _; unfold dE; rw [HVK.out, hp]; rfl
  have HV : Hid (dD L K l ps = dearF L K l ps) := by show _ = _; unfold dD; rw [if_pos HE.out]
  have HPI := hide (pricedB_iff.1 hp)
  clear hp
  go_wp2_with fail
  refine (dearest_any L K A c l AP cP ps _ (hS.on hB) (hP.on hB) (validK_iff.1 HVK.out) HPI.out.2 HPI.out.1).mono ?_
  rintro e W ⟨rfl, hb⟩
  clear c0 c1 c2
  replace hk := hk.below hb hk.lt
  replace hB := hB.trans (hb.mono hB.size)
  clear hb
  have c0 := hk.cell_ 0 rfl
  have c1 := hk.cell_ 1 rfl
  have c2 := hk.cell_ 2 rfl
  go_wp2_with fail
  go_ret2
  exact ⟨by rw [HE.out, HV.out]; rfl, hB⟩
theorem allTo_snoc {l : List Ask} {ps : List Int} {i : Nat} {a : Ask} {p : Int} (ha : l[i]? = some a) (hp : ps[i]? = some p) : allTo l ps (i + 1) = allTo l ps i + a.cnt * p := by
  have h : (l.zip ps)[i]? = some (a, p) := by rw [List.getElem?_zip_eq_some]; exact ⟨ha, hp⟩
  unfold allTo
  rw [List.take_add_one, h, Option.toList_some, List.foldl_append]; rfl
theorem allTo_low {l : List Ask} {ps : List Int} (hl : ∀ a ∈ l, 0 ≤ a.cnt ∧ a.cnt ≤ 50) (hp : ∀ p ∈ ps, 0 ≤ p ∧ p ≤ 1000000) : ∀ i : Nat, 0 ≤ allTo l ps i ∧ allTo l ps i ≤ i * 50000000
  | 0 => by unfold allTo; simp
  | i + 1 => by
    have ih := allTo_low hl hp i
    cases h : (l.zip ps)[i]? with
    | none =>
      have e : allTo l ps (i + 1) = allTo l ps i := by unfold allTo; rw [List.take_add_one, h]; simp
      rw [e]; push_cast; omega
    | some q =>
      obtain ⟨a, p⟩ := q
      obtain ⟨h1, h2⟩ := List.getElem?_zip_eq_some.1 h
      have h1 : l[i]? = some a := h1
      have h2 : ps[i]? = some p := h2
      rw [allTo_snoc h1 h2]
      have h3 := hl a (List.mem_of_getElem? h1)
      have h4 := hp p (List.mem_of_getElem? h2)
      have h5 : 0 ≤ a.cnt * p := Int.mul_nonneg h3.1 h4.1
      have h6 : a.cnt * p ≤ 50 * 1000000 := Int.mul_le_mul h3.2 h4.2 h4.1 (by omega)
      push_cast
      omega
theorem dD_low {L K : Int} {l : List Ask} {ps : List Int} (h : dE L K l ps = 0) : 0 ≤ dD L K l ps ∧ dD L K l ps ≤ 1000000000 := by
  obtain ⟨h1, h2⟩ := dE_zero h
  have hv := validK_iff.1 h1
  have hp := pricedB_iff.1 h2
  have key : ∀ (l : List Ask) (ps b : List Int) (M : Int), 0 ≤ M → Low b M → (∀ a ∈ l, 0 ≤ a.cnt ∧ a.cnt ≤ 50) → (∀ p ∈ ps, 0 ≤ p ∧ p ≤ 1000000) → Low (bestL K l ps b) (M + l.length * 50000000) := fun l => by
    induction l with
    | nil => intro ps b M hM hb _ _; simpa [bestL] using hb
    | cons a l ih =>
      intro ps b M hM hb ha hp
      cases ps with
      | nil => exact fun q v hq => by have := hb q v hq; simp only [List.length_cons]; push_cast; omega
      | cons p ps =>
        have h3 := ha a (by simp)
        have h4 := ih ps _ (M + 50000000) (by omega) (rowK_low (wd := (a.len + K).toNat) (cnt := a.cnt.toNat) hb hM (hp p (by simp)) (by omega)) (fun x hx => ha x (List.mem_cons_of_mem _ hx)) fun x hx => hp x (List.mem_cons_of_mem _ hx)
        refine fun q v hq => ?_
        have := h4 q v hq
        simp only [List.length_cons]
        push_cast
        omega
  have h5 := (key l ps (List.replicate ((L + K).toNat + 1) 0) 0 (by omega) (low_zero _) (fun a ha => (hv.ask a ha).2) hp.1).getD_ (by omega) (L + K).toNat
  have h6 := hv.few
  unfold dD
  rw [if_pos h]
  unfold dearF
  omega
set_option maxRecDepth 100000 in
set_option maxHeartbeats 1000000 in
theorem apiBound_any (L K : Int) (A : Option Addr) (c : Nat) (l : List Ask) (AP : Option Addr) (cP : Nat) (ps : List Int) (w : World) (hS : Slc Ask.enc 2 w w.heap.size A l) (hP : Slc intEnc 1 w w.heap.size AP ps) (hl : ps.length ≤ 100000) :
    Calls Tryd.prog 7 #[.agg #[.int .i64 L, .int .i64 K, .slice A l.length c], .slice AP ps.length cP] w fun e w' => e = .returned (.tuple #[.int .i64 (bB L K l ps), .int .i64 (dE L K l ps)]) ∧ Below w.heap.size w w' := by
  have hk := Blk.new w 24 #[.int .i64 L, .int .i64 K, .slice A l.length c]
  have hB := (Below.refl w.heap.size w).alloc (Nat.le_refl _) (.cells #[.int .i64 L, .int .i64 K, .slice A l.length c] 24)
  go_enter Tryd.func7, Tryd.ntmps7
  go_upto_region 1 with fail
  generalize w.alloc (.cells #[.int .i64 L, .int .i64 K, .slice A l.length c] 24) = W at *
  have c0 := hk.cell_ 0 rfl
  have c1 := hk.cell_ 1 rfl
  have c2 := hk.cell_ 2 rfl
  go_wp2_with fail
  refine (apiDear_any L K A c l AP cP ps _ (hS.on hB) (hP.on hB) hl).mono ?_
  rintro e W ⟨rfl, hb⟩
  clear c0 c1 c2
  replace hk := hk.below hb hk.lt
  replace hB := hB.trans (hb.mono hB.size)
  clear hb
  have c0 := hk.cell_ 0 rfl
  have c1 := hk.cell_ 1 rfl
  have c2 := hk.cell_ 2 rfl
  by_cases he : dE L K l ps = 0
  · have HE := hide he
    by_cases h0 : dD L K l ps = 0
    · have HV : Hid (bB L K l ps = 0) := by show _ = _; unfold bB; rw [if_neg (by rw [h0]; simp)]
      rw [he, h0]
      clear he h0
      go_wp2_with fail
      go_ret2
      exact ⟨by rw [HE.out, HV.out]; rfl, hB⟩
    · have hd1 := dD_low HE.out
      have hd2 : dD L K l ps ≠ 0 := h0
      have HB : Hid (bB L K l ps = (allTo l ps l.length + dD L K l ps - 1) / dD L K l ps) := by show _ = _; unfold bB allF; rw [if_pos ⟨HE.out, hd2⟩]
      obtain ⟨h1, h2⟩ := dE_zero he
      have HVK := hide (validK_iff.1 h1)
      have HPI := hide (pricedB_iff.1 h2)
      have h0' : (dD L K l ps == 0) = false := by simpa using h0
      rw [he]
      clear he h1 h2 h0 hd2
      generalize dD L K l ps = d at *
      have hd0 : ¬ d = 0 := by simpa using h0'
      go_wp2_with fail
      clear c0 c1 c2
      go_loopw [8, 27] (fun x y W => ∃ (i : Nat), x = .int .i64 (allTo l ps i) ∧ y = .int .i64 i ∧ i ≤ l.length ∧ Blk W w.heap.size 24 #[.int .i64 L, .int .i64 K, .slice A l.length c] ∧ Below w.heap.size w W) (fun x y _ => l.length - (intOf y).toNat)
      case atStart => exact ⟨0, rfl, rfl, Nat.zero_le _, hk, hB⟩
      case round =>
        clear hk hB
        obtain ⟨W, rfl⟩ : ∃ W : World, W = wr := ⟨_, rfl⟩
        obtain ⟨i, rfl, rfl, hi, hk, hB⟩ := hrel
        have hsl := allTo_low (fun a ha => (HVK.out.ask a ha).2) HPI.out.1 i
        have hlf := HVK.out.few
        by_cases hlt : i < l.length
        · obtain ⟨⟨ln, cn⟩, b, off, hx, hA, _, d0, d1⟩ := ask_at (hS.below hB) hlt
          obtain ⟨p, bq, offq, hp, hAP, _, hcp⟩ := ints_at' (hP.below hB) (show i < ps.length by rw [HPI.out.2]; exact hlt)
          have hii : (i : Int) < (l.length : Int) := by omega
          have hip : (i : Int) < (ps.length : Int) := by rw [HPI.out.2]; exact hii
          have hxo := (HVK.out.ask _ (List.mem_of_getElem? hx)).2
          have hpo := HPI.out.1 p (List.mem_of_getElem? hp)
          have HS := hide (allTo_snoc hx hp)
          dsimp only at d0 d1 hxo
          obtain ⟨pp, hpp, hpp2⟩ : ∃ pp : Int, cn * p = pp ∧ 0 ≤ pp ∧ pp ≤ 50000000 := by
            refine ⟨_, rfl, Int.mul_nonneg hxo.1 hpo.1, ?_⟩
            calc cn * p ≤ 50 * 1000000 := Int.mul_le_mul hxo.2 hpo.2 hpo.1 (by omega)
              _ ≤ 50000000 := by omega
          have e4 : IntKind.i64.wrap (cn * p) = pp := by rw [hpp]; exact IntWalk.i64_in _ (by omega)
          have HS2 : Hid (allTo l ps (i + 1) = allTo l ps i + pp) := by show _ = _; rw [HS.out, hpp]
          have HP := hide hp
          clear hx hp hpp HS hcp
          subst hA hAP
          generalize allTo l ps i = S at *
          have c0 := hk.cell_ 0 rfl
          have c1 := hk.cell_ 1 rfl
          have c2 := hk.cell_ 2 rfl
          have q_c0 := (hk.alloc (.cells #[.int .i64 ln, .int .i64 cn] 46)).cell_ 0 rfl
          have q_c1 := (hk.alloc (.cells #[.int .i64 ln, .int .i64 cn] 46)).cell_ 1 rfl
          have q_c2 := (hk.alloc (.cells #[.int .i64 ln, .int .i64 cn] 46)).cell_ 2 rfl
          go_upto_region 8 with fail
          clear q_c0 q_c1 q_c2
          clear c0 c1 c2
          have hm := Blk.new W 46 #[.int .i64 ln, .int .i64 cn]
          replace hk := hk.alloc (.cells #[.int .i64 ln, .int .i64 cn] 46)
          have hsz_bx : (W.alloc (.cells #[.int .i64 ln, .int .i64 cn] 46)).heap.size = W.heap.size + 1 := by simp
          have bxge := hB.size
          replace hB := hB.alloc hB.size (.cells #[.int .i64 ln, .int .i64 cn] 46)
          generalize hbx : W.heap.size = bx at *
          generalize W.alloc (.cells #[.int .i64 ln, .int .i64 cn] 46) = W at *
          clear hbx
          have c0 := hk.cell_ 0 rfl
          have c1 := hk.cell_ 1 rfl
          have c2 := hk.cell_ 2 rfl
          have m0 := hm.cell_ 0 rfl
          have m1 := hm.cell_ 1 rfl
          clear d0 d1
          obtain ⟨p', bq', offq', hp', hAP', _, hcp⟩ := ints_at' (hP.below hB) (show i < ps.length by omega)
          obtain ⟨rfl, rfl⟩ : bq = bq' ∧ offq = offq' := by simpa using hAP'
          obtain rfl : p' = p := by have h := HP.out; rw [hp'] at h; injection h
          clear hp' hAP'
          go_wp2_with fail
          refine wp_region_quiet (C := fun w' => ∃ u : Since W, w' = u.w) (by kernel_rfl) (by kernel_rfl) (Since.start W) ?_
          dsimp only
          have y_c0 := Since.cell c0
          have y_c1 := Since.cell c1
          have y_c2 := Since.cell c2
          have y_m0 := Since.cell m0
          have y_m1 := Since.cell m1
          have y_hcp := Since.cell hcp
          clear c0 c1 c2 m0 m1
          repeat (go_big_quiet_step ((fail)))
          refine wpQuiet_nil ?_
          rintro W ⟨⟨_, hb⟩, rfl⟩
          try dsimp only at hb ⊢
          replace hcp : W.cell? _ = _ := y_hcp ⟨W, hb⟩
          clear y_c0 y_c1 y_c2 y_m0 y_m1 y_hcp
          replace hk := hk.below hb hk.lt
          replace hm := hm.below hb hm.lt
          replace hB := hB.trans (hb.mono hB.size)
          clear hb
          have c0 := hk.cell_ 0 rfl
          have c1 := hk.cell_ 1 rfl
          have c2 := hk.cell_ 2 rfl
          have m0 := hm.cell_ 0 rfl
          have m1 := hm.cell_ 1 rfl
          go_wp2_with fail
          go_roundw
          case rel => exact ⟨i + 1, by rw [HS2.out], by go_num, by omega, hk, hB⟩
          case measure => simp [intOf]; omega
        · obtain rfl : i = l.length := by omega
          generalize allTo l ps l.length = S at *
          have e5 : (S + d - 1).tdiv d = (S + d - 1) / d := Int.tdiv_eq_ediv_of_nonneg (by omega)
          have hqb : 0 ≤ (S + d - 1) / d ∧ (S + d - 1) / d ≤ S + d - 1 := ⟨Int.ediv_nonneg (by omega) (by omega), Int.ediv_le_self _ (by omega)⟩
          have e6 : IntKind.i64.wrap ((S + d - 1) / d) = (S + d - 1) / d := IntWalk.i64_in _ (by omega)
          have c0 := hk.cell_ 0 rfl
          have c1 := hk.cell_ 1 rfl
          have c2 := hk.cell_ 2 rfl
          go_wp2_with fail
          go_ret2
          exact ⟨by rw [HE.out, HB.out]; rfl, hB⟩
  · have HV : Hid (bB L K l ps = 0) := by show _ = _; unfold bB; rw [if_neg (fun h => he h.1)]
    have h0' : (dE L K l ps == 0) = false := by simpa using he
    have h1' : (dE L K l ps != 0) = true := by simp [he]
    clear he
    obtain ⟨E, hE⟩ : ∃ E, E = dE L K l ps := ⟨_, rfl⟩
    have HE := hide hE
    rw [← hE] at h0' h1'
    rw [← hE]
    clear hE
    go_wp2_with fail
    go_ret2
    exact ⟨by rw [HV.out, ← HE.out]; rfl, hB⟩
end Go.Proofs.YtkcfalehebacpaaDoor

/- The sanity check of chapter 4's laws: the bound of the example, and the letter "a". -/
namespace Go.Proofs.YtkcfalehebacpaaDoor
open Go Go.RowKit
theorem hpi_short (s p : ByteArray) (w : World) (h : s.size < p.size) : Calls Tryd.prog 51 #[.string s, .string p] w fun e w' => e = .returned (.bool false) ∧ w = w' := by
  have h1 : ¬ (p.size : Int) ≤ (s.size : Int) := by omega
  go_enter Tryd.func51, Tryd.ntmps51
  go_wp2_with fail
  go_ret
  exact ⟨rfl, rfl⟩
theorem hp_short (s p : ByteArray) (w : World) (h : s.size < p.size) : Calls Tryd.prog 44 #[.string s, .string p] w fun e w' => e = .returned (.bool false) ∧ w = w' := by
  go_enter Tryd.func44, Tryd.ntmps44
  go_wp2_with fail
  refine (hpi_short s p w h).mono ?_
  rintro e w' ⟨rfl, rfl⟩
  go_wp2_with fail
  go_ret
  exact ⟨rfl, rfl⟩
def sA : ByteArray := ⟨#[97]⟩
def sE : ByteArray := ⟨#[]⟩
set_option maxRecDepth 100000 in
set_option maxHeartbeats 1000000 in
theorem cutA_any (g : Nat) (w : World) (hk : Blk w g 62 #[.string ⟨#[97]⟩, .bool false]) :
    Calls Tryd.prog 25 #[.pointer (some ⟨g, 0, none⟩)] w fun e w' => e = .returned (.agg #[.int .i64 1, .int .i64 0, .int .u8 97, .slice none 0 0]) ∧ Blk w' g 62 #[.string ⟨#[]⟩, .bool false] ∧ Chg (fun k => k = g) w w' := by
  have hgl := hk.lt
  have hsl : ∀ w, (Instr.sliceAt 9 (.string ⟨#[97]⟩) (some (.int .i64 1)) none none).run Tryd.prog w = .ok (.string ⟨#[]⟩) w := fun _ => by kernel_rfl
  have hix : ∀ w, (Instr.index 9 (.string ⟨#[97]⟩) (.int .i64 0)).run Tryd.prog w = .ok (.int .u8 97) w := fun _ => by kernel_rfl
  have heq : ∀ w, (binOp .eql 9 (.string ⟨#[97]⟩) (.string ⟨#[]⟩)).run Tryd.prog w = .ok (.bool false) w := fun _ => by kernel_rfl
  have hr := Blk.new w 49 #[.int .i64 0, .int .i64 0, .int .u8 0, .slice none 0 0]
  have hk1 := hk.alloc (.cells #[.int .i64 0, .int .i64 0, .int .u8 0, .slice none 0 0] 49)
  have hc1 : Chg (fun k => k = g ∨ k = w.heap.size) w (w.alloc (.cells #[.int .i64 0, .int .i64 0, .int .u8 0, .slice none 0 0] 49)) := Chg.of_below' ((Below.refl w.heap.size w).alloc (Nat.le_refl _) _) fun k h1 h2 => by omega
  go_enter Tryd.func25, Tryd.ntmps25
  go_upto_region 1 with fail
  generalize w.alloc (.cells #[.int .i64 0, .int .i64 0, .int .u8 0, .slice none 0 0] 49) = W at *
  have q0 := hk1.cell_ 0 (v := .string ⟨#[97]⟩) rfl
  have q1 := hk1.cell_ 1 (v := .bool false) rfl
  go_wp2_with fail
  refine (hp_short ⟨#[97]⟩ ⟨#[104, 32]⟩ W (by decide)).mono ?_
  rintro e w' ⟨rfl, rfl⟩
  go_wp2_with fail
  refine (hp_short ⟨#[97]⟩ ⟨#[118, 32]⟩ W (by decide)).mono ?_
  rintro e w' ⟨rfl, rfl⟩
  go_upto_region 7 with (refine wpList_store_at rfl 9 _ _ rfl (.string ⟨#[]⟩) hk1 rfl rfl (by kernel_rfl) rfl (by simp) rfl ?_; intro W2 hk2 hc2)
  have hr2 := hr.chg1 hc2 (by omega)
  clear q0 q1 hk1 hr hsl hix heq
  go_wp2_with (refine wpList_store_blk rfl 49 _ _ rfl #[.int .i64 1, .int .i64 0, .int .u8 97, .slice none 0 0] hr2 rfl rfl (by kernel_rfl) rfl (by simp [Value.oneCell']) ?_; intro W3 hr3 hc3; have r0 := hr3.cell_ 0 rfl; have r1 := hr3.cell_ 1 rfl; have r2 := hr3.cell_ 2 rfl; have r3 := hr3.cell_ 3 rfl)
  have hk3 : Blk W3 g 62 #[.string ⟨#[]⟩, .bool false] := hk2.chg1 hc3 (by omega)
  have hc4 : Chg (fun k => k = g ∨ k = w.heap.size) w W3 := (hc1.trans (hc2.mono fun k _ h => Or.inl h)).trans (hc3.mono fun k _ h => Or.inr h)
  have hc5 : Chg (fun k => k = g) w W3 := ⟨hc4.os, hc4.tape, hc4.output, hc4.size, fun k hk hn => hc4.block k hk fun h => by
    rcases h with h | h
    · exact hn h
    · omega⟩
  exact bodyPost_ret (v := .agg #[.int .i64 1, .int .i64 0, .int .u8 97, .slice none 0 0]) (by simp [results, Tryd.results25, go_sem, r0, r1, r2, r3]) rfl ⟨rfl, hk3, hc5⟩
set_option maxRecDepth 100000 in
theorem deepLeaf_any (a b c : Int) (w : World) : Calls Tryd.prog 26 #[.agg #[.int .i64 a, .int .i64 b, .int .u8 c, .slice none 0 0]] w fun e w' => e = .returned (.int .i64 1) ∧ Below w.heap.size w w' := by
  have hk := Blk.new w 49 #[.int .i64 a, .int .i64 b, .int .u8 c, .slice none 0 0]
  have hB := (Below.refl w.heap.size w).alloc (Nat.le_refl _) (.cells #[.int .i64 a, .int .i64 b, .int .u8 c, .slice none 0 0] 49)
  go_enter Tryd.func26, Tryd.ntmps26
  go_upto_region 1 with fail
  generalize w.alloc (.cells #[.int .i64 a, .int .i64 b, .int .u8 c, .slice none 0 0] 49) = W at *
  have q3 := hk.cell_ 3 (v := .slice none 0 0) rfl
  go_wp2_with fail
  refine wp_loop_rounds 1 ?_
  rw [rounds_succ]
  go_wp2_with fail
  go_ret
  exact ⟨rfl, hB⟩
set_option maxRecDepth 100000 in
set_option maxHeartbeats 1000000 in
theorem parseA_any (w : World) : Calls Tryd.prog 15 #[.string ⟨#[97]⟩] w fun e w' => e = .returned (.tuple #[.agg #[.int .i64 1, .int .i64 0, .int .u8 97, .slice none 0 0], .int .i64 0]) ∧ Below w.heap.size w w' := by
  have hne : ∀ w, (binOp .neq 9 (.string ⟨#[]⟩) (.string ⟨#[]⟩)).run Tryd.prog w = .ok (.bool false) w := fun _ => by kernel_rfl
  have hr := (Blk.new w 49 #[.int .i64 0, .int .i64 0, .int .u8 0, .slice none 0 0]).alloc (.cells #[.string ⟨#[97]⟩, .bool false] 62)
  have hk := Blk.new (w.alloc (.cells #[.int .i64 0, .int .i64 0, .int .u8 0, .slice none 0 0] 49)) 62 #[.string ⟨#[97]⟩, .bool false]
  have hB := ((Below.refl w.heap.size w).alloc (Nat.le_refl _) (.cells #[.int .i64 0, .int .i64 0, .int .u8 0, .slice none 0 0] 49)).alloc (by simp) (.cells #[.string ⟨#[97]⟩, .bool false] 62)
  rw [show (w.alloc (.cells #[.int .i64 0, .int .i64 0, .int .u8 0, .slice none 0 0] 49)).heap.size = w.heap.size + 1 by simp] at hk
  go_enter Tryd.func15, Tryd.ntmps15
  go_upto_region 4 with fail
  generalize (w.alloc (.cells #[.int .i64 0, .int .i64 0, .int .u8 0, .slice none 0 0] 49)).alloc (.cells #[.string ⟨#[97]⟩, .bool false] 62) = W at *
  go_wp2_with fail
  refine (cutA_any (w.heap.size + 1) W hk).mono ?_
  rintro e W2 ⟨rfl, hk2, hc2⟩
  have hr2 := hr.chg1 hc2 (by omega)
  have hB2 := hB.trans (hc2.below1 hB.size (by omega))
  clear hk hr hB hc2
  have hkl := hk2.lt
  have hm := Blk.new W2 49 #[.int .i64 1, .int .i64 0, .int .u8 97, .slice none 0 0]
  have hk3 := hk2.alloc (.cells #[.int .i64 1, .int .i64 0, .int .u8 97, .slice none 0 0] 49)
  have hr3 := hr2.alloc (.cells #[.int .i64 1, .int .i64 0, .int .u8 97, .slice none 0 0] 49)
  have hB3 := hB2.alloc hB2.size (.cells #[.int .i64 1, .int .i64 0, .int .u8 97, .slice none 0 0] 49)
  go_upto_region 5 with fail
  clear hk2 hr2 hB2
  generalize hgb : W2.heap.size = gb at *
  generalize W2.alloc (.cells #[.int .i64 1, .int .i64 0, .int .u8 97, .slice none 0 0] 49) = W3 at *
  clear hgb
  have q0 := hk3.cell_ 0 (v := .string ⟨#[]⟩) rfl
  have q1 := hk3.cell_ 1 (v := .bool false) rfl
  have m0 := hm.cell_ 0 (v := .int .i64 1) rfl
  have m1 := hm.cell_ 1 (v := .int .i64 0) rfl
  have m2 := hm.cell_ 2 (v := .int .u8 97) rfl
  have m3 := hm.cell_ 3 (v := .slice none 0 0) rfl
  go_wp2_with fail
  refine (deepLeaf_any 1 0 97 W3).mono ?_
  rintro e W4 ⟨rfl, hb⟩
  have hm4 := hm.below hb hm.lt
  have hr4 := hr3.below hb hr3.lt
  have hB4 := hB3.trans (hb.mono hB3.size)
  clear q0 q1 m0 m1 m2 m3 hm hr3 hB3 hk3 hb
  have m0 := hm4.cell_ 0 (v := .int .i64 1) rfl
  have m1 := hm4.cell_ 1 (v := .int .i64 0) rfl
  have m2 := hm4.cell_ 2 (v := .int .u8 97) rfl
  have m3 := hm4.cell_ 3 (v := .slice none 0 0) rfl
  go_wp2_with (refine wpList_store_blk rfl 49 _ _ rfl #[.int .i64 1, .int .i64 0, .int .u8 97, .slice none 0 0] hr4 rfl rfl (by kernel_rfl) rfl (by simp [Value.oneCell']) ?_; intro W5 hr5 hc5; have r0 := hr5.cell_ 0 rfl; have r1 := hr5.cell_ 1 rfl; have r2 := hr5.cell_ 2 rfl; have r3 := hr5.cell_ 3 rfl)
  exact bodyPost_ret (v := .tuple #[.agg #[.int .i64 1, .int .i64 0, .int .u8 97, .slice none 0 0], .int .i64 0]) (by simp [results, Tryd.results15, go_sem, r0, r1, r2, r3]) rfl ⟨rfl, hB4.trans (hc5.below1 hB4.size (Nat.le_refl _))⟩
def awL : List Ask := [⟨60, 2⟩, ⟨40, 1⟩, ⟨30, 3⟩]
def awP : List Int := [60, 40, 30]
theorem aw_bound : bB 100 0 awL awP = 3 := by kernel_rfl
theorem aw_err : dE 100 0 awL awP = 0 := by kernel_rfl
theorem blk_slc {α : Type} {f : α → List Value} {sz : Nat} {w : World} {g : Nat} {t : TypeId} {cs : Array Value} {l : List α} (h : Blk w g t cs) (hcs : cs.toList = l.flatMap f) (hf : ∀ x, (f x).length = sz) : Slc f sz w w.heap.size (some ⟨g, 0, none⟩) l := fun i x hx => by
  refine ⟨g, 0, rfl, h.lt, fun j v hv => ?_⟩
  have := flat_at hf l i x hx j v hv
  rw [← hcs] at this
  rw [Nat.zero_add, h.cell, ← Array.getElem?_toList]
  exact this
set_option maxRecDepth 100000 in
set_option maxHeartbeats 1000000 in
theorem kawake_any (w : World) : Calls Tryd.prog 6 #[] w fun e w' => e = .returned (.bool true) ∧ Below w.heap.size w w' := by
  have ha := ((Blk.new w 46 #[.int .i64 60, .int .i64 2, .int .i64 40, .int .i64 1, .int .i64 30, .int .i64 3]).alloc (.cells #[.int .i64 100, .int .i64 0, .slice (some ⟨w.heap.size, 0, none⟩) 3 3] 24)).alloc (.cells #[.int .i64 60, .int .i64 40, .int .i64 30] 3)
  have hp := Blk.new ((w.alloc (.cells #[.int .i64 60, .int .i64 2, .int .i64 40, .int .i64 1, .int .i64 30, .int .i64 3] 46)).alloc (.cells #[.int .i64 100, .int .i64 0, .slice (some ⟨w.heap.size, 0, none⟩) 3 3] 24)) 3 #[.int .i64 60, .int .i64 40, .int .i64 30]
  rw [show ((w.alloc (.cells #[.int .i64 60, .int .i64 2, .int .i64 40, .int .i64 1, .int .i64 30, .int .i64 3] 46)).alloc (.cells #[.int .i64 100, .int .i64 0, .slice (some ⟨w.heap.size, 0, none⟩) 3 3] 24)).heap.size = w.heap.size + 1 + 1 by simp] at hp
  have hB := (((Below.refl w.heap.size w).alloc (Nat.le_refl _) (.cells #[.int .i64 60, .int .i64 2, .int .i64 40, .int .i64 1, .int .i64 30, .int .i64 3] 46)).alloc (by simp) (.cells #[.int .i64 100, .int .i64 0, .slice (some ⟨w.heap.size, 0, none⟩) 3 3] 24)).alloc (by simp; omega) (.cells #[.int .i64 60, .int .i64 40, .int .i64 30] 3)
  go_enter Tryd.func6, Tryd.ntmps6
  go_wp2_with fail
  generalize ((w.alloc (.cells #[.int .i64 60, .int .i64 2, .int .i64 40, .int .i64 1, .int .i64 30, .int .i64 3] 46)).alloc (.cells #[.int .i64 100, .int .i64 0, .slice (some ⟨w.heap.size, 0, none⟩) 3 3] 24)).alloc (.cells #[.int .i64 60, .int .i64 40, .int .i64 30] 3) = W at *
  refine (apiBound_any 100 0 (some ⟨w.heap.size, 0, none⟩) 3 awL (some ⟨w.heap.size + 1 + 1, 0, none⟩) 3 awP W (blk_slc ha rfl fun _ => rfl) (blk_slc hp rfl fun _ => rfl) (by decide)).mono ?_
  rintro e W2 ⟨rfl, hb⟩
  have hB2 := hB.trans (hb.mono hB.size)
  rw [aw_bound, aw_err]
  clear ha hp hB hb
  go_wp2_with fail
  refine (parseA_any W2).mono ?_
  rintro e W3 ⟨rfl, hb⟩
  have hB3 := hB2.trans (hb.mono hB2.size)
  have hm := Blk.new W3 49 #[.int .i64 1, .int .i64 0, .int .u8 97, .slice none 0 0]
  have hB4 := hB3.alloc hB3.size (.cells #[.int .i64 1, .int .i64 0, .int .u8 97, .slice none 0 0] 49)
  clear hB2 hb hB3
  go_upto_region 4 with fail
  generalize hgb : W3.heap.size = gb at *
  generalize W3.alloc (.cells #[.int .i64 1, .int .i64 0, .int .u8 97, .slice none 0 0] 49) = W4 at *
  clear hgb
  have m0 := hm.cell_ 0 (v := .int .i64 1) rfl
  have m2 := hm.cell_ 2 (v := .int .u8 97) rfl
  go_wp2_with fail
  go_ret
  exact ⟨rfl, hB4⟩
end Go.Proofs.YtkcfalehebacpaaDoor

/- Batches, seen from outside; a plan of more than 1000 batches is no plan. -/
namespace Go.Proofs.YtkcfalehebacpaaDoor
open Go Go.RowKit
structure Bt where
  t : Int
  A : Option Addr
  n : Nat
  c : Nat
instance : Inhabited Bt := ⟨⟨0, none, 0, 0⟩⟩
def Bt.enc (b : Bt) : List Value := [.int .i64 b.t, .slice b.A b.n b.c]
theorem et_batch : ElemT Tryd.prog 26 43 2 := elemT_mk Tryd.underlying26 (z := .agg #[.int .i64 0, .slice none 0 0]) (bytes := 32) (by kernel_rfl) rfl (by omega) (by omega)
theorem bt_at {w : World} {B : Nat} {A : Option Addr} {xs : List Bt} {k : Nat} (h : Slc Bt.enc 2 w B A xs) (hk : k < xs.length) :
    ∃ n b off, xs[k]? = some n ∧ A = some ⟨b, off, none⟩ ∧ b < B ∧ w.cell? ⟨b, off + k * 2, none⟩ = some (.int .i64 n.t) ∧ w.cell? ⟨b, off + k * 2 + 1, none⟩ = some (.slice n.A n.n n.c) := by
  have hx : xs[k]? = some xs[k] := List.getElem?_eq_getElem hk
  obtain ⟨b, off, ha, hb, h0⟩ := h k _ hx
  exact ⟨xs[k], b, off, hx, ha, hb, h0 0 _ rfl, h0 1 _ rfl⟩
/-- Wide: more than 30 asks, more than 60 batches, or a batch of more than 30 counts -/
def wideP (n : Nat) (bs : List Bt) : Bool := decide (30 < n) || decide (60 < bs.length) || bs.any fun b => decide (30 < b.n)
set_option maxRecDepth 100000 in
theorem wide_any (L K : Int) (A : Option Addr) (c : Nat) (l : List Ask) (AB : Option Addr) (cB : Nat) (bs : List Bt) (w : World) (hS : Slc Bt.enc 2 w w.heap.size AB bs) :
    Calls Tryd.prog 4 #[.agg #[.int .i64 L, .int .i64 K, .slice A l.length c], .slice AB bs.length cB] w fun e w' => e = .returned (.bool (wideP l.length bs)) ∧ Below w.heap.size w w' := by
  have HD : Hid (wideP l.length bs = (decide (30 < l.length) || decide (60 < bs.length) || bs.any fun b => decide (30 < b.n))) := rfl
  have hk := Blk.new w 24 #[.int .i64 L, .int .i64 K, .slice A l.length c]
  have hB := (Below.refl w.heap.size w).alloc (Nat.le_refl _) (.cells #[.int .i64 L, .int .i64 K, .slice A l.length c] 24)
  go_enter Tryd.func4, Tryd.ntmps4
  go_upto_region 1 with fail
  generalize w.alloc (.cells #[.int .i64 L, .int .i64 K, .slice A l.length c] 24) = W at *
  have c0 := hk.cell_ 0 rfl
  have c1 := hk.cell_ 1 rfl
  have c2 := hk.cell_ 2 rfl
  by_cases h1 : (30 : Int) < (l.length : Int)
  · have HV : Hid (wideP l.length bs = true) := by show _ = _; rw [HD.out, decide_eq_true (by omega)]; rfl
    go_wp2_with fail
    go_ret
    exact ⟨ret_bool HV.out.symm, hB⟩
  by_cases h2 : (60 : Int) < (bs.length : Int)
  · have HV : Hid (wideP l.length bs = true) := by show _ = _; rw [HD.out, decide_eq_true (p := 60 < bs.length) (by omega)]; simp
    go_wp2_with fail
    go_ret
    exact ⟨ret_bool HV.out.symm, hB⟩
  have HA : Hid (wideP l.length bs = !((bs.drop 0).all fun b => !decide (30 < b.n))) := by
    show _ = _
    rw [HD.out, decide_eq_false (p := 30 < l.length) (by omega), decide_eq_false (p := 60 < bs.length) (by omega), Bool.false_or, Bool.false_or, List.drop_zero]
    simp [List.all_eq_not_any_not]
  clear HD
  go_wp2_with fail
  clear c0 c1 c2
  go_loopw [5] (fun y W => ∃ (i : Nat), y = .int .i64 i ∧ i ≤ bs.length ∧ Hid (wideP l.length bs = !((bs.drop i).all fun b => !decide (30 < b.n))) ∧ Blk W w.heap.size 24 #[.int .i64 L, .int .i64 K, .slice A l.length c] ∧ Below w.heap.size w W) (fun y _ => bs.length - (intOf y).toNat)
  case atStart => exact ⟨0, rfl, Nat.zero_le _, HA, hk, hB⟩
  case round =>
    clear hk hB HA
    obtain ⟨W, rfl⟩ : ∃ W : World, W = wr := ⟨_, rfl⟩
    obtain ⟨i, rfl, hi, HA, hk, hB⟩ := hrel
    by_cases hlt : i < bs.length
    · obtain ⟨x, b, off, hx, hA, _, d0, d1⟩ := bt_at (hS.below hB) hlt
      have hii : (i : Int) < (bs.length : Int) := by omega
      have HX := hide hx
      clear hx
      subst hA
      by_cases h3 : (30 : Int) < (x.n : Int)
      · have HV : Hid (wideP l.length bs = true) := by show _ = _; rw [HA.out, all_drop HX.out, decide_eq_true (by omega)]; rfl
        go_wp2_with fail
        go_ret
        exact ⟨ret_bool HV.out.symm, hB⟩
      · have HA2 : Hid (wideP l.length bs = !((bs.drop (i + 1)).all fun b => !decide (30 < b.n))) := by show _ = _; rw [HA.out, all_drop HX.out, decide_eq_false (by omega)]; rfl
        go_wp2_with fail
        go_roundw
        case rel => exact ⟨i + 1, by go_num, by omega, HA2, hk, hB⟩
        case measure => simp [intOf]; omega
    · obtain rfl : i = bs.length := by omega
      have HV : Hid (wideP l.length bs = false) := by show _ = _; rw [HA.out, List.drop_length]; rfl
      go_wp2_with fail
      go_ret
      exact ⟨ret_bool HV.out.symm, hB⟩
/-- cut.shaped -/
def shapedB (n : Nat) (bs : List Bt) : Bool := decide (bs.length ≤ 1000) && bs.all fun b => inB 1 b.t 1000 && decide (b.n = n)
set_option maxRecDepth 100000 in
theorem shaped_any (L K : Int) (A : Option Addr) (c : Nat) (l : List Ask) (AB : Option Addr) (cB : Nat) (bs : List Bt) (w : World) (hS : Slc Bt.enc 2 w w.heap.size AB bs) (hl : bs.length ≤ 100000) :
    Calls Tryd.prog 42 #[.agg #[.int .i64 L, .int .i64 K, .slice A l.length c], .slice AB bs.length cB] w fun e w' => e = .returned (.bool (shapedB l.length bs)) ∧ Below w.heap.size w w' := by
  have HD : Hid (shapedB l.length bs = (decide (bs.length ≤ 1000) && bs.all fun b => inB 1 b.t 1000 && decide (b.n = l.length))) := rfl
  have hk := Blk.new w 24 #[.int .i64 L, .int .i64 K, .slice A l.length c]
  have hB := (Below.refl w.heap.size w).alloc (Nat.le_refl _) (.cells #[.int .i64 L, .int .i64 K, .slice A l.length c] 24)
  go_enter Tryd.func42, Tryd.ntmps42
  go_upto_region 1 with fail
  generalize w.alloc (.cells #[.int .i64 L, .int .i64 K, .slice A l.length c] 24) = W at *
  have c0 := hk.cell_ 0 rfl
  have c1 := hk.cell_ 1 rfl
  have c2 := hk.cell_ 2 rfl
  have HA : Hid (shapedB l.length bs = (decide (bs.length ≤ 1000) && (bs.drop 0).all fun b => inB 1 b.t 1000 && decide (b.n = l.length))) := HD
  clear HD
  go_wp2_with fail
  clear c0 c1 c2
  go_loopw [9] (fun y W => ∃ (i : Nat), y = .int .i64 i ∧ i ≤ bs.length ∧ Hid (shapedB l.length bs = (decide (bs.length ≤ 1000) && (bs.drop i).all fun b => inB 1 b.t 1000 && decide (b.n = l.length))) ∧ Blk W w.heap.size 24 #[.int .i64 L, .int .i64 K, .slice A l.length c] ∧ Below w.heap.size w W) (fun y _ => bs.length - (intOf y).toNat)
  case atStart => exact ⟨0, rfl, Nat.zero_le _, HA, hk, hB⟩
  case round =>
    clear hk hB HA
    obtain ⟨W, rfl⟩ : ∃ W : World, W = wr := ⟨_, rfl⟩
    obtain ⟨i, rfl, hi, HA, hk, hB⟩ := hrel
    by_cases hlt : i < bs.length
    · obtain ⟨x, b, off, hx, hA, _, d0, d1⟩ := bt_at (hS.below hB) hlt
      have hii : (i : Int) < (bs.length : Int) := by omega
      have HX := hide hx
      clear hx
      subst hA
      have c0 := hk.cell_ 0 rfl
      have c1 := hk.cell_ 1 rfl
      have c2 := hk.cell_ 2 rfl
      have q_c0 := (hk.alloc (.cells #[.int .i64 x.t, .slice x.A x.n x.c] 43)).cell_ 0 rfl
      have q_c1 := (hk.alloc (.cells #[.int .i64 x.t, .slice x.A x.n x.c] 43)).cell_ 1 rfl
      have q_c2 := (hk.alloc (.cells #[.int .i64 x.t, .slice x.A x.n x.c] 43)).cell_ 2 rfl
      go_upto_region 4 with fail
      clear q_c0 q_c1 q_c2
      clear c0 c1 c2
      have hm := Blk.new W 43 #[.int .i64 x.t, .slice x.A x.n x.c]
      replace hk := hk.alloc (.cells #[.int .i64 x.t, .slice x.A x.n x.c] 43)
      have hsz_bx : (W.alloc (.cells #[.int .i64 x.t, .slice x.A x.n x.c] 43)).heap.size = W.heap.size + 1 := by simp
      have bxge := hB.size
      replace hB := hB.alloc hB.size (.cells #[.int .i64 x.t, .slice x.A x.n x.c] 43)
      generalize hbx : W.heap.size = bx at *
      generalize W.alloc (.cells #[.int .i64 x.t, .slice x.A x.n x.c] 43) = W at *
      clear hbx
      have c0 := hk.cell_ 0 rfl
      have c1 := hk.cell_ 1 rfl
      have c2 := hk.cell_ 2 rfl
      have m0 := hm.cell_ 0 rfl
      have m1 := hm.cell_ 1 rfl
      clear d0 d1
      cases q1 : inB 1 x.t 1000
      case false =>
        have HV : Hid (shapedB l.length bs = false) := by show _ = _; rw [HA.out, all_drop HX.out, q1]; simp
        go_wp2_with fail
        refine (kwithin_is 1 x.t 1000 _ q1).mono ?_
        rintro e W' ⟨rfl, rfl⟩
        clear q1
        go_wp2_with fail
        go_ret
        exact ⟨ret_bool HV.out.symm, hB⟩
      case true =>
        by_cases h3 : x.n = l.length
        · have HA2 : Hid (shapedB l.length bs = (decide (bs.length ≤ 1000) && (bs.drop (i + 1)).all fun b => inB 1 b.t 1000 && decide (b.n = l.length))) := by show _ = _; rw [HA.out, all_drop HX.out, q1, decide_eq_true h3]; rfl
          have hne : ((x.n : Int) != (l.length : Int)) = false := by simp [h3]
          clear h3
          go_wp2_with fail
          refine (kwithin_is 1 x.t 1000 _ q1).mono ?_
          rintro e W' ⟨rfl, rfl⟩
          clear q1
          go_wp2_with fail
          go_roundw
          case rel => exact ⟨i + 1, by go_num, by omega, HA2, hk, hB⟩
          case measure => simp [intOf]; omega
        · have HV : Hid (shapedB l.length bs = false) := by show _ = _; rw [HA.out, all_drop HX.out, q1, decide_eq_false h3]; simp
          have hne : ((x.n : Int) != (l.length : Int)) = true := by simp; omega
          clear h3
          go_wp2_with fail
          refine (kwithin_is 1 x.t 1000 _ q1).mono ?_
          rintro e W' ⟨rfl, rfl⟩
          clear q1
          go_wp2_with fail
          go_ret
          exact ⟨ret_bool HV.out.symm, hB⟩
    · obtain rfl : i = bs.length := by omega
      have HV : Hid (shapedB l.length bs = decide (bs.length ≤ 1000)) := by show _ = _; rw [HA.out, List.drop_length]; simp
      by_cases h4 : (bs.length : Int) ≤ 1000
      · rw [decide_eq_true (by omega)] at HV
        go_wp2_with fail
        go_ret
        exact ⟨ret_bool HV.out.symm, hB⟩
      · rw [decide_eq_false (by omega)] at HV
        go_wp2_with fail
        go_ret
        exact ⟨ret_bool HV.out.symm, hB⟩
theorem shaped_is (L K : Int) (A : Option Addr) (c : Nat) (l : List Ask) (AB : Option Addr) (cB : Nat) (bs : List Bt) (w : World) (hS : Slc Bt.enc 2 w w.heap.size AB bs) (hl : bs.length ≤ 100000) {v : Bool} (h : shapedB l.length bs = v) :
    Calls Tryd.prog 42 #[.agg #[.int .i64 L, .int .i64 K, .slice A l.length c], .slice AB bs.length cB] w fun e w' => e = .returned (.bool v) ∧ Below w.heap.size w w' := by
  subst h; exact shaped_any L K A c l AB cB bs w hS hl
theorem kvalidB_is (L K : Int) (A : Option Addr) (c : Nat) (l : List Ask) (w : World) (hS : Slc Ask.enc 2 w w.heap.size A l) {v : Bool} (h : validK L K l = v) :
    Calls Tryd.prog 17 #[.agg #[.int .i64 L, .int .i64 K, .slice A l.length c]] w fun e w' => e = .returned (.bool v) ∧ Below w.heap.size w w' := by
  subst h; exact kvalid_any L K A c l w hS
set_option maxRecDepth 100000 in
theorem checkLong_any (L K : Int) (A : Option Addr) (c : Nat) (l : List Ask) (AB : Option Addr) (cB : Nat) (bs : List Bt) (w : World) (hK : Slc Ask.enc 2 w w.heap.size A l) (hS : Slc Bt.enc 2 w w.heap.size AB bs) (hl : bs.length ≤ 100000) (hv : validK L K l = true) (hs : shapedB l.length bs = false) :
    Calls Tryd.prog 21 #[.agg #[.int .i64 L, .int .i64 K, .slice A l.length c], .slice AB bs.length cB] w fun e w' => e = .returned (.int .i64 2) ∧ Below w.heap.size w w' := by
  have HV := hide hv
  have HS := hide hs
  clear hv hs
  have hk := Blk.new w 24 #[.int .i64 L, .int .i64 K, .slice A l.length c]
  have hB := (Below.refl w.heap.size w).alloc (Nat.le_refl _) (.cells #[.int .i64 L, .int .i64 K, .slice A l.length c] 24)
  go_enter Tryd.func21, Tryd.ntmps21
  go_upto_region 1 with fail
  generalize w.alloc (.cells #[.int .i64 L, .int .i64 K, .slice A l.length c] 24) = W at *
  have c0 := hk.cell_ 0 rfl
  have c1 := hk.cell_ 1 rfl
  have c2 := hk.cell_ 2 rfl
  go_wp2_with fail
  refine (kvalidB_is L K A c l _ (hK.on hB) HV.out).mono ?_
  rintro e W ⟨rfl, hb⟩
  clear c0 c1 c2
  replace hk := hk.below hb hk.lt
  replace hB := hB.trans (hb.mono hB.size)
  clear hb
  have c0 := hk.cell_ 0 rfl
  have c1 := hk.cell_ 1 rfl
  have c2 := hk.cell_ 2 rfl
  go_wp2_with fail
  refine (shaped_is L K A c l AB cB bs _ (hS.on hB) hl HS.out).mono ?_
  rintro e W ⟨rfl, hb⟩
  clear c0 c1 c2
  replace hk := hk.below hb hk.lt
  replace hB := hB.trans (hb.mono hB.size)
  clear hb
  have c0 := hk.cell_ 0 rfl
  have c1 := hk.cell_ 1 rfl
  have c2 := hk.cell_ 2 rfl
  go_wp2_with fail
  go_ret
  exact ⟨rfl, hB⟩
set_option maxRecDepth 100000 in
theorem rollsLong_any (L K : Int) (A : Option Addr) (c : Nat) (l : List Ask) (AB : Option Addr) (cB : Nat) (bs : List Bt) (w : World) (hK : Slc Ask.enc 2 w w.heap.size A l) (hS : Slc Bt.enc 2 w w.heap.size AB bs) (hl : bs.length ≤ 100000) (hv : validK L K l = true) (hs : shapedB l.length bs = false) :
    Calls Tryd.prog 9 #[.agg #[.int .i64 L, .int .i64 K, .slice A l.length c], .slice AB bs.length cB] w fun e w' => e = .returned (.tuple #[.int .i64 0, .int .i64 2]) ∧ Below w.heap.size w w' := by
  have HV := hide hv
  have HS := hide hs
  clear hv hs
  have hk := Blk.new w 24 #[.int .i64 L, .int .i64 K, .slice A l.length c]
  have hB := (Below.refl w.heap.size w).alloc (Nat.le_refl _) (.cells #[.int .i64 L, .int .i64 K, .slice A l.length c] 24)
  go_enter Tryd.func9, Tryd.ntmps9
  go_upto_region 1 with fail
  generalize w.alloc (.cells #[.int .i64 L, .int .i64 K, .slice A l.length c] 24) = W at *
  have c0 := hk.cell_ 0 rfl
  have c1 := hk.cell_ 1 rfl
  have c2 := hk.cell_ 2 rfl
  go_wp2_with fail
  refine (checkLong_any L K A c l AB cB bs _ (hK.on hB) (hS.on hB) hl HV.out HS.out).mono ?_
  rintro e W ⟨rfl, hb⟩
  clear c0 c1 c2
  replace hk := hk.below hb hk.lt
  replace hB := hB.trans (hb.mono hB.size)
  clear hb
  have c0 := hk.cell_ 0 rfl
  have c1 := hk.cell_ 1 rfl
  have c2 := hk.cell_ 2 rfl
  go_wp2_with fail
  go_ret2
  exact ⟨rfl, hB⟩
end Go.Proofs.YtkcfalehebacpaaDoor

/- prices, Dearest, Bound of the reference: the walks. -/
namespace Go.Proofs.YtkcfalehebacpaaDoor
open Go Go.RowKit
def refTop (b : List Int) (wd : Nat) (p : Int) (r : Nat) : Nat → Int
  | 0 => 0
  | n + 1 => topK b wd p r n
theorem refTop_more {b : List Int} {wd : Nat} {p M : Int} {r n : Nat} (h : n * wd ≤ r) (hb : Low b M) (hM : 0 ≤ M) : refTop b wd p r (n + 1) = max (refTop b wd p r n) (b.getD (r - n * wd) 0 + (n : Int) * p) := by
  cases n with
  | zero =>
    have := hb.getD_ hM r
    have h0 : r - 0 * wd = r := by rw [Nat.zero_mul, Nat.sub_zero]
    rw [h0]
    show b.getD r 0 = max 0 (b.getD r 0 + ((0 : Nat) : Int) * p)
    rw [show ((0 : Nat) : Int) * p = 0 from Int.zero_mul p]
    omega
  | succ n => exact topK_more h
def RowToR (b : List Int) (wd : Nat) (p : Int) (cnt r : Nat) (N : List Int) : Prop := ∀ (q : Nat) v, N[q]? = some v → v = if q < r then topK b wd p q cnt else 0
def RowAtR (b : List Int) (wd : Nat) (p : Int) (cnt r n : Nat) (N : List Int) : Prop := ∀ (q : Nat) v, N[q]? = some v → v = if q < r then topK b wd p q cnt else if q = r then refTop b wd p r n else 0
section
variable {b N : List Int} {wd cnt r n : Nat} {p : Int}
theorem RowToR.start (m : Nat) : RowToR b wd p cnt 0 (List.replicate m 0) := fun q v hv => by
  rw [List.getElem?_replicate] at hv
  split at hv
  · injection hv with hv
    rw [if_neg (by omega), ← hv]
  · cases hv
theorem RowToR.at_ (h : RowToR b wd p cnt r N) : RowAtR b wd p cnt r 0 N := fun q v hv => by
  rw [h q v hv]
  by_cases h1 : q < r
  · rw [if_pos h1, if_pos h1]
  · rw [if_neg h1, if_neg h1]
    by_cases h2 : q = r
    · rw [if_pos h2]; rfl
    · rw [if_neg h2]
theorem RowAtR.set (h : RowAtR b wd p cnt r n N) {v : Int} (hv : v = refTop b wd p r (n + 1)) : RowAtR b wd p cnt r (n + 1) (N.set r v) := fun q u hu => by
  by_cases h1 : r = q
  · subst h1
    have hr : r < N.length := by have := (List.getElem?_eq_some_iff.1 hu).1; simpa using this
    rw [List.getElem?_set_self hr] at hu
    injection hu with hu
    rw [if_neg (by omega), if_pos rfl, ← hu, hv]
  · rw [List.getElem?_set_ne h1] at hu
    rw [h q u hu]
    by_cases h2 : q < r
    · rw [if_pos h2, if_pos h2]
    · rw [if_neg h2, if_neg h2, if_neg (by omega), if_neg (by omega)]
theorem RowAtR.done (h : RowAtR b wd p cnt r n N) (hk : topK b wd p r cnt = refTop b wd p r n) : RowToR b wd p cnt (r + 1) N := fun q u hu => by
  rw [h q u hu]
  by_cases h1 : q < r
  · rw [if_pos h1, if_pos (by omega)]
  · rw [if_neg h1]
    by_cases h2 : q = r
    · rw [if_pos h2, if_pos (by omega), h2, hk]
    · rw [if_neg h2, if_neg (by omega)]
theorem RowToR.all (h : RowToR b wd p cnt r N) (hl : N.length = b.length) (hr : r = b.length) : N = rowK b wd p cnt := List.ext_getElem? fun q => by
  rcases Nat.lt_or_ge q b.length with h1 | h1
  · rw [rowK_get h1, List.getElem?_eq_getElem (by omega)]
    congr 1
    have := h q _ (List.getElem?_eq_getElem (by omega))
    rw [if_pos (by omega)] at this
    exact this
  · rw [List.getElem?_eq_none (by omega), List.getElem?_eq_none (by rw [rowK_len]; exact h1)]
end
end Go.Proofs.YtkcfalehebacpaaDoor

/- CutPrices: the walk. -/
namespace Go.Proofs.YtkcfalehebacpaaDoor
open Go Go.RowKit
/-- Wide, for no plan -/
theorem wideNil_any (L K : Int) (A : Option Addr) (c : Nat) (l : List Ask) (w : World) (hl : l.length ≤ maxLen) :
    Calls Tryd.prog 4 #[.agg #[.int .i64 L, .int .i64 K, .slice A l.length c], .slice none 0 0] w fun e w' => e = .returned (.bool (decide (30 < l.length))) ∧ Below w.heap.size w w' := by
  unfold maxLen at hl
  have hk := Blk.new w 24 #[.int .i64 L, .int .i64 K, .slice A l.length c]
  have hB := (Below.refl w.heap.size w).alloc (Nat.le_refl _) (.cells #[.int .i64 L, .int .i64 K, .slice A l.length c] 24)
  by_cases h : 30 < l.length
  · have h' : (30 : Int) < (l.length : Int) := by omega
    have HV : Hid (decide (30 < l.length) = true) := decide_eq_true h
    clear h
    go_enter Tryd.func4, Tryd.ntmps4
    go_upto_region 1 with fail
    generalize w.alloc (.cells #[.int .i64 L, .int .i64 K, .slice A l.length c] 24) = W at *
    have c0 := hk.cell_ 0 rfl
    have c1 := hk.cell_ 1 rfl
    have c2 := hk.cell_ 2 rfl
    go_wp2_with fail
    go_ret
    exact ⟨ret_bool HV.out.symm, hB⟩
  · have h' : ¬ (30 : Int) < (l.length : Int) := by omega
    have HV : Hid (decide (30 < l.length) = false) := decide_eq_false h
    clear h
    go_enter Tryd.func4, Tryd.ntmps4
    go_upto_region 1 with fail
    generalize w.alloc (.cells #[.int .i64 L, .int .i64 K, .slice A l.length c] 24) = W at *
    have c0 := hk.cell_ 0 rfl
    have c1 := hk.cell_ 1 rfl
    have c2 := hk.cell_ 2 rfl
    go_wp2_with fail
    refine wp_loop_rounds 1 ?_
    rw [rounds_succ]
    go_wp2_with fail
    go_ret
    exact ⟨ret_bool HV.out.symm, hB⟩
end Go.Proofs.YtkcfalehebacpaaDoor

/- size, fits, Fits of both texts: the walks. -/
namespace Go.Proofs.YtkcfalehebacpaaDoor
open Go Go.RowKit
def sizF (K : Int) (s : Int) (q : Ask × Int) : Int := s + q.2 * (q.1.len + K)
def sizeTo (K : Int) (l : List Ask) (ps : List Int) (i : Nat) : Int := ((l.zip ps).take i).foldl (sizF K) 0
def okP (ps : List Int) : Bool := ps.all fun p => inB 0 p 50
def fitsB (L K : Int) (l : List Ask) (ps : List Int) : Bool := okP ps && decide (sizeTo K l ps ps.length ≤ L + K)
theorem okP_iff {ps : List Int} : okP ps = true ↔ ∀ p ∈ ps, 0 ≤ p ∧ p ≤ 50 := by
  unfold okP
  simp only [List.all_eq_true, inB_iff]
theorem sizeTo_snoc {K : Int} {l : List Ask} {ps : List Int} {i : Nat} {a : Ask} {p : Int} (ha : l[i]? = some a) (hp : ps[i]? = some p) : sizeTo K l ps (i + 1) = sizeTo K l ps i + p * (a.len + K) := by
  have h : (l.zip ps)[i]? = some (a, p) := by rw [List.getElem?_zip_eq_some]; exact ⟨ha, hp⟩
  unfold sizeTo
  rw [List.take_add_one, h, Option.toList_some, List.foldl_append]; rfl
theorem term_low {L K p : Int} {l : List Ask} {a : Ask} (hv : VK L K l) (ha : a ∈ l) (hp : 0 ≤ p ∧ p ≤ 50) : 0 ≤ p * (a.len + K) ∧ p * (a.len + K) ≤ 51000 := by
  obtain ⟨h1, h2⟩ := hv.hL
  obtain ⟨h3, h4⟩ := hv.hK
  obtain ⟨h5, _⟩ := hv.ask a ha
  refine ⟨Int.mul_nonneg hp.1 (by omega), ?_⟩
  calc p * (a.len + K) ≤ 50 * 1020 := Int.mul_le_mul hp.2 (by omega) (by omega) (by omega)
    _ ≤ 51000 := by omega
theorem sizeTo_low {L K : Int} {l : List Ask} {ps : List Int} (hv : VK L K l) : ∀ i : Nat, (∀ (j : Nat) p, j < i → ps[j]? = some p → 0 ≤ p ∧ p ≤ 50) → 0 ≤ sizeTo K l ps i ∧ sizeTo K l ps i ≤ i * 51000
  | 0, _ => by unfold sizeTo; simp
  | i + 1, hp => by
    have ih := sizeTo_low hv i fun j p hj => hp j p (by omega)
    cases h : (l.zip ps)[i]? with
    | none =>
      have e : sizeTo K l ps (i + 1) = sizeTo K l ps i := by unfold sizeTo; rw [List.take_add_one, h]; simp
      rw [e]; push_cast; omega
    | some q =>
      obtain ⟨a, p⟩ := q
      obtain ⟨h1, h2⟩ := List.getElem?_zip_eq_some.1 h
      have h1 : l[i]? = some a := h1
      have h2 : ps[i]? = some p := h2
      rw [sizeTo_snoc h1 h2]
      have := term_low hv (List.mem_of_getElem? h1) (hp i p (by omega) h2)
      push_cast
      omega
set_option maxRecDepth 100000 in
set_option maxHeartbeats 1000000 in
theorem size_any (L K : Int) (A : Option Addr) (c : Nat) (l : List Ask) (AP : Option Addr) (cP : Nat) (ps : List Int) (w : World) (hS : Slc Ask.enc 2 w w.heap.size A l) (hP : Slc intEnc 1 w w.heap.size AP ps) (hv : VK L K l) (hpl : ps.length = l.length) (hpb : ∀ p ∈ ps, 0 ≤ p ∧ p ≤ 50) :
    Calls Tryd.prog 19 #[.agg #[.int .i64 L, .int .i64 K, .slice A l.length c], .slice AP ps.length cP] w fun e w' => e = .returned (.int .i64 (sizeTo K l ps ps.length)) ∧ Below w.heap.size w w' := by
  have HVK := hide hv
  have HPI := hide (And.intro hpb hpl)
  obtain ⟨vL, vK, vF, _⟩ := hv
  clear hpl hpb
  have hk := Blk.new w 24 #[.int .i64 L, .int .i64 K, .slice A l.length c]
  have hB := (Below.refl w.heap.size w).alloc (Nat.le_refl _) (.cells #[.int .i64 L, .int .i64 K, .slice A l.length c] 24)
  go_enter Tryd.func19, Tryd.ntmps19
  go_upto_region 1 with fail
  generalize w.alloc (.cells #[.int .i64 L, .int .i64 K, .slice A l.length c] 24) = W at *
  have c0 := hk.cell_ 0 rfl
  have c1 := hk.cell_ 1 rfl
  have c2 := hk.cell_ 2 rfl
  go_wp2_with fail
  clear c0 c1 c2
  go_loopw [5, 10] (fun x y W => ∃ (i : Nat), x = .int .i64 (sizeTo K l ps i) ∧ y = .int .i64 i ∧ i ≤ ps.length ∧ Blk W w.heap.size 24 #[.int .i64 L, .int .i64 K, .slice A l.length c] ∧ Below w.heap.size w W) (fun x y _ => ps.length - (intOf y).toNat)
  case atStart => exact ⟨0, rfl, rfl, Nat.zero_le _, hk, hB⟩
  case round =>
    clear hk hB
    obtain ⟨W, rfl⟩ : ∃ W : World, W = wr := ⟨_, rfl⟩
    obtain ⟨i, rfl, rfl, hi, hk, hB⟩ := hrel
    have hsl := sizeTo_low (ps := ps) HVK.out i fun j p _ hp => HPI.out.1 p (List.mem_of_getElem? hp)
    have hil : i ≤ l.length := by rw [← HPI.out.2]; exact hi
    by_cases hlt : i < ps.length
    · obtain ⟨p, bq, offq, hp, hAP, _, hcp⟩ := ints_at' (hP.below hB) hlt
      have hll : i < l.length := by rw [← HPI.out.2]; exact hlt
      obtain ⟨⟨ln, cn⟩, b, off, hx, hA, _, d0, _⟩ := ask_at (hS.below hB) hll
      have hii : (i : Int) < (l.length : Int) := by omega
      have hip : (i : Int) < (ps.length : Int) := by omega
      have hpo := HPI.out.1 p (List.mem_of_getElem? hp)
      have hxo := HVK.out.ask _ (List.mem_of_getElem? hx)
      have htl := term_low HVK.out (List.mem_of_getElem? hx) hpo
      have HS := hide (sizeTo_snoc (K := K) hx hp)
      dsimp only at d0 hxo htl
      obtain ⟨pp, hpp⟩ : ∃ pp : Int, p * (ln + K) = pp := ⟨_, rfl⟩
      rw [hpp] at htl
      have e4 : IntKind.i64.wrap (p * (ln + K)) = pp := by rw [hpp]; exact IntWalk.i64_in _ (by omega)
      have HS2 : Hid (sizeTo K l ps (i + 1) = sizeTo K l ps i + pp) := by show _ = _; rw [HS.out, hpp]
      clear hx hp hpp HS
      subst hA hAP
      generalize sizeTo K l ps i = S at *
      have c0 := hk.cell_ 0 rfl
      have c1 := hk.cell_ 1 rfl
      have c2 := hk.cell_ 2 rfl
      go_wp2_with fail
      go_wp2_with fail
      refine wp_region_quiet (C := fun w' => ∃ u : Since W, w' = u.w) (by kernel_rfl) (by kernel_rfl) (Since.start W) ?_
      dsimp only
      have y_c0 := Since.cell c0
      have y_c1 := Since.cell c1
      have y_c2 := Since.cell c2
      have y_hcp := Since.cell hcp
      have y_d0 := Since.cell d0
      clear c0 c1 c2
      repeat (go_big_quiet_step ((fail)))
      refine wpQuiet_nil ?_
      rintro W ⟨⟨_, hb⟩, rfl⟩
      try dsimp only at hb ⊢
      replace hcp : W.cell? _ = _ := y_hcp ⟨W, hb⟩
      replace d0 : W.cell? _ = _ := y_d0 ⟨W, hb⟩
      clear y_c0 y_c1 y_c2 y_hcp y_d0
      replace hk := hk.below hb hk.lt
      replace hB := hB.trans (hb.mono hB.size)
      clear hb
      have c0 := hk.cell_ 0 rfl
      have c1 := hk.cell_ 1 rfl
      have c2 := hk.cell_ 2 rfl
      go_wp2_with fail
      go_roundw
      case rel => exact ⟨i + 1, by rw [HS2.out], by go_num, by omega, hk, hB⟩
      case measure => simp [intOf]; omega
    · obtain rfl : i = ps.length := by omega
      have c0 := hk.cell_ 0 rfl
      have c1 := hk.cell_ 1 rfl
      have c2 := hk.cell_ 2 rfl
      go_wp2_with fail
      go_ret
      exact ⟨rfl, hB⟩
theorem size_is (L K : Int) (A : Option Addr) (c : Nat) (l : List Ask) (AP : Option Addr) (cP : Nat) (ps : List Int) (w : World) (hS : Slc Ask.enc 2 w w.heap.size A l) (hP : Slc intEnc 1 w w.heap.size AP ps) (hv : VK L K l) (hpl : ps.length = l.length) (hpb : ∀ p ∈ ps, 0 ≤ p ∧ p ≤ 50) {v : Int} (h : sizeTo K l ps ps.length = v) :
    Calls Tryd.prog 19 #[.agg #[.int .i64 L, .int .i64 K, .slice A l.length c], .slice AP ps.length cP] w fun e w' => e = .returned (.int .i64 v) ∧ Below w.heap.size w w' := by
  subst h; exact size_any L K A c l AP cP ps w hS hP hv hpl hpb
set_option maxRecDepth 100000 in
set_option maxHeartbeats 1000000 in
theorem kfits_any (L K : Int) (A : Option Addr) (c : Nat) (l : List Ask) (AP : Option Addr) (cP : Nat) (ps : List Int) (w : World) (hS : Slc Ask.enc 2 w w.heap.size A l) (hP : Slc intEnc 1 w w.heap.size AP ps) (hv : VK L K l) (hpl : ps.length = l.length) :
    Calls Tryd.prog 43 #[.agg #[.int .i64 L, .int .i64 K, .slice A l.length c], .slice AP ps.length cP] w fun e w' => e = .returned (.bool (fitsB L K l ps)) ∧ Below w.heap.size w w' := by
  have HVK := hide hv
  have HPL := hide hpl
  have HD : Hid (fitsB L K l ps = (okP ps && decide (sizeTo K l ps ps.length ≤ L + K))) := rfl
  obtain ⟨vL, vK, vF, _⟩ := hv
  have hp8 : ps.length ≤ 8 := by omega
  clear hpl
  have hk := Blk.new w 24 #[.int .i64 L, .int .i64 K, .slice A l.length c]
  have hB := (Below.refl w.heap.size w).alloc (Nat.le_refl _) (.cells #[.int .i64 L, .int .i64 K, .slice A l.length c] 24)
  go_enter Tryd.func43, Tryd.ntmps43
  go_upto_region 1 with fail
  generalize w.alloc (.cells #[.int .i64 L, .int .i64 K, .slice A l.length c] 24) = W at *
  have c0 := hk.cell_ 0 rfl
  have c1 := hk.cell_ 1 rfl
  have c2 := hk.cell_ 2 rfl
  go_wp2_with fail
  clear c0 c1 c2
  go_loopw [9] (fun y W => ∃ (i : Nat), y = .int .i64 i ∧ i ≤ ps.length ∧ Hid (okP ps = (ps.drop i).all fun p => inB 0 p 50) ∧ Blk W w.heap.size 24 #[.int .i64 L, .int .i64 K, .slice A l.length c] ∧ Below w.heap.size w W) (fun y _ => ps.length - (intOf y).toNat)
  case atStart => exact ⟨0, rfl, Nat.zero_le _, hide rfl, hk, hB⟩
  case round =>
    clear hk hB
    obtain ⟨W, rfl⟩ : ∃ W : World, W = wr := ⟨_, rfl⟩
    obtain ⟨i, rfl, hi, HA, hk, hB⟩ := hrel
    by_cases hlt : i < ps.length
    · obtain ⟨p, b, off, hp, hA, _, d0⟩ := ints_at' (hP.below hB) hlt
      have hii : (i : Int) < (ps.length : Int) := by omega
      have HX := hide hp
      clear hp
      subst hA
      have c0 := hk.cell_ 0 rfl
      have c1 := hk.cell_ 1 rfl
      have c2 := hk.cell_ 2 rfl
      cases q1 : inB 0 p 50
      case false =>
        have HV : Hid (fitsB L K l ps = false) := by show _ = _; rw [HD.out, HA.out, all_drop HX.out, q1]; rfl
        go_wp2_with fail
        refine (kwithin_is 0 p 50 _ q1).mono ?_
        rintro e W' ⟨rfl, rfl⟩
        clear q1
        go_wp2_with fail
        go_ret
        exact ⟨ret_bool HV.out.symm, hB⟩
      case true =>
        have HA2 : Hid (okP ps = (ps.drop (i + 1)).all fun p => inB 0 p 50) := by show _ = _; rw [HA.out, all_drop HX.out, q1, Bool.true_and]
        go_wp2_with fail
        refine (kwithin_is 0 p 50 _ q1).mono ?_
        rintro e W' ⟨rfl, rfl⟩
        clear q1
        go_wp2_with fail
        go_roundw
        case rel => exact ⟨i + 1, by go_num, by omega, HA2, hk, hB⟩
        case measure => simp [intOf]; omega
    · obtain rfl : i = ps.length := by omega
      have hok : okP ps = true := by rw [HA.out, List.drop_length]; rfl
      have HPB := hide (okP_iff.1 hok)
      have HV : Hid (fitsB L K l ps = decide (sizeTo K l ps ps.length ≤ L + K)) := by show _ = _; rw [HD.out, hok]; rfl
      obtain ⟨S, hS9⟩ : ∃ S, sizeTo K l ps ps.length = S := ⟨_, rfl⟩
      have HS9 := hide hS9
      have HV2 : Hid (fitsB L K l ps = decide (S ≤ L + K)) := by show _ = _; rw [HV.out, hS9]
      have T1 := hide (hS.on hB)
      have T2 := hide (hP.on hB)
      clear hok hS9 HA HV
      have c0 := hk.cell_ 0 rfl
      have c1 := hk.cell_ 1 rfl
      have c2 := hk.cell_ 2 rfl
      go_wp2_with fail
      refine wp_region_quiet (C := fun w' => ∃ u : Since W, w' = u.w) (by kernel_rfl) (by kernel_rfl) (Since.start W) ?_
      dsimp only
      have y_c0 := Since.cell c0
      have y_c1 := Since.cell c1
      have y_c2 := Since.cell c2
      clear c0 c1 c2
      repeat (go_big_quiet_step ((go_at_call 19; exact Since.calls (size_is L K A c l AP cP ps _ (Slc.on T1.out (Since.h _)) (Slc.on T2.out (Since.h _)) HVK.out HPL.out HPB.out HS9.out))))
      refine wpQuiet_nil ?_
      rintro W ⟨⟨_, hb⟩, rfl⟩
      try dsimp only at hb ⊢
      clear y_c0 y_c1 y_c2
      replace hk := hk.below hb hk.lt
      replace hB := hB.trans (hb.mono hB.size)
      clear hb
      have c0 := hk.cell_ 0 rfl
      have c1 := hk.cell_ 1 rfl
      have c2 := hk.cell_ 2 rfl
      go_wp2_with fail
      go_ret
      exact ⟨ret_bool HV2.out.symm, hB⟩
set_option maxRecDepth 100000 in
set_option maxHeartbeats 1000000 in
theorem refKFits_any (L K : Int) (A : Option Addr) (c : Nat) (l : List Ask) (AP : Option Addr) (cP : Nat) (ps : List Int) (w : World) (hS : Slc Ask.enc 2 w w.heap.size A l) (hP : Slc intEnc 1 w w.heap.size AP ps) (hv : VK L K l) (hpl : ps.length = l.length) :
    Calls Tryd.prog 23 #[.agg #[.int .i64 L, .int .i64 K, .slice A l.length c], .slice AP ps.length cP] w fun e w' => e = .returned (.bool (fitsB L K l ps)) ∧ Below w.heap.size w w' := by
  have HVK := hide hv
  have HPL := hide hpl
  have HD : Hid (fitsB L K l ps = (okP ps && decide (sizeTo K l ps ps.length ≤ L + K))) := rfl
  obtain ⟨vL, vK, vF, _⟩ := hv
  have hp8 : ps.length ≤ 8 := by omega
  clear hpl
  have hk := Blk.new w 24 #[.int .i64 L, .int .i64 K, .slice A l.length c]
  have hB := (Below.refl w.heap.size w).alloc (Nat.le_refl _) (.cells #[.int .i64 L, .int .i64 K, .slice A l.length c] 24)
  go_enter Tryd.func23, Tryd.ntmps23
  go_upto_region 1 with fail
  generalize w.alloc (.cells #[.int .i64 L, .int .i64 K, .slice A l.length c] 24) = W at *
  have c0 := hk.cell_ 0 rfl
  have c1 := hk.cell_ 1 rfl
  have c2 := hk.cell_ 2 rfl
  go_wp2_with fail
  clear c0 c1 c2
  go_loopw [5, 6] (fun x y W => ∃ (i : Nat), x = .int .i64 (sizeTo K l ps i) ∧ y = .int .i64 i ∧ i ≤ ps.length ∧ Hid (okP ps = (ps.drop i).all fun p => inB 0 p 50) ∧ Hid (∀ (j : Nat) p, j < i → ps[j]? = some p → 0 ≤ p ∧ p ≤ 50) ∧ Blk W w.heap.size 24 #[.int .i64 L, .int .i64 K, .slice A l.length c] ∧ Below w.heap.size w W) (fun x y _ => ps.length - (intOf y).toNat)
  case atStart => exact ⟨0, rfl, rfl, Nat.zero_le _, hide rfl, hide fun j p hj => absurd hj (Nat.not_lt_zero _), hk, hB⟩
  case round =>
    clear hk hB
    obtain ⟨W, rfl⟩ : ∃ W : World, W = wr := ⟨_, rfl⟩
    obtain ⟨i, rfl, rfl, hi, HA, HJ, hk, hB⟩ := hrel
    have hsl := sizeTo_low (ps := ps) HVK.out i HJ.out
    by_cases hlt : i < ps.length
    · obtain ⟨p, bq, offq, hp, hAP, _, hcp⟩ := ints_at' (hP.below hB) hlt
      have hip : (i : Int) < (ps.length : Int) := by omega
      have HX := hide hp
      clear hp
      subst hAP
      have c0 := hk.cell_ 0 rfl
      have c1 := hk.cell_ 1 rfl
      have c2 := hk.cell_ 2 rfl
      cases q1 : inB 0 p 50
      case false =>
        have HV : Hid (fitsB L K l ps = false) := by show _ = _; rw [HD.out, HA.out, all_drop HX.out, q1]; rfl
        generalize sizeTo K l ps i = S at *
        go_wp2_with fail
        refine (kfrom_is 0 p 50 _ q1).mono ?_
        rintro e W' ⟨rfl, rfl⟩
        clear q1
        go_wp2_with fail
        go_ret
        exact ⟨ret_bool HV.out.symm, hB⟩
      case true =>
        have hpo := inB_iff.1 q1
        have HA2 : Hid (okP ps = (ps.drop (i + 1)).all fun p => inB 0 p 50) := by show _ = _; rw [HA.out, all_drop HX.out, q1, Bool.true_and]
        have HJ2 : Hid (∀ (j : Nat) p, j < i + 1 → ps[j]? = some p → 0 ≤ p ∧ p ≤ 50) := fun j p' hj hp' => by
          rcases Nat.lt_or_ge j i with h | h
          · exact HJ.out j p' h hp'
          · obtain rfl : j = i := by omega
            rw [HX.out] at hp'
            injection hp' with hp'
            subst hp'; exact hpo
        have hll : i < l.length := by rw [← HPL.out]; exact hlt
        obtain ⟨⟨ln, cn⟩, b, off, hx, hA, _, d0, _⟩ := ask_at (hS.below hB) hll
        have hii : (i : Int) < (l.length : Int) := by omega
        have hxo := HVK.out.ask _ (List.mem_of_getElem? hx)
        have htl := term_low HVK.out (List.mem_of_getElem? hx) hpo
        have HS := hide (sizeTo_snoc (K := K) hx HX.out)
        dsimp only at d0 hxo htl
        obtain ⟨pp, hpp⟩ : ∃ pp : Int, p * (ln + K) = pp := ⟨_, rfl⟩
        rw [hpp] at htl
        have e4 : IntKind.i64.wrap (p * (ln + K)) = pp := by rw [hpp]; exact IntWalk.i64_in _ (by omega)
        have HS2 : Hid (sizeTo K l ps (i + 1) = sizeTo K l ps i + pp) := by show _ = _; rw [HS.out, hpp]
        clear hx hpp HS
        subst hA
        generalize sizeTo K l ps i = S at *
        go_wp2_with fail
        refine (kfrom_is 0 p 50 _ q1).mono ?_
        rintro e W' ⟨rfl, rfl⟩
        clear q1
        go_wp2_with fail
        refine wp_region_quiet (C := fun w' => ∃ u : Since W, w' = u.w) (by kernel_rfl) (by kernel_rfl) (Since.start W) ?_
        dsimp only
        have y_c0 := Since.cell c0
        have y_c1 := Since.cell c1
        have y_c2 := Since.cell c2
        have y_hcp := Since.cell hcp
        have y_d0 := Since.cell d0
        clear c0 c1 c2
        repeat (go_big_quiet_step ((fail)))
        refine wpQuiet_nil ?_
        rintro W ⟨⟨_, hb⟩, rfl⟩
        try dsimp only at hb ⊢
        replace hcp : W.cell? _ = _ := y_hcp ⟨W, hb⟩
        replace d0 : W.cell? _ = _ := y_d0 ⟨W, hb⟩
        clear y_c0 y_c1 y_c2 y_hcp y_d0
        replace hk := hk.below hb hk.lt
        replace hB := hB.trans (hb.mono hB.size)
        clear hb
        have c0 := hk.cell_ 0 rfl
        have c1 := hk.cell_ 1 rfl
        have c2 := hk.cell_ 2 rfl
        go_wp2_with fail
        go_roundw
        case rel => exact ⟨i + 1, by rw [HS2.out], by go_num, by omega, HA2, HJ2, hk, hB⟩
        case measure => simp [intOf]; omega
    · obtain rfl : i = ps.length := by omega
      have hok : okP ps = true := by rw [HA.out, List.drop_length]; rfl
      have HV : Hid (fitsB L K l ps = decide (sizeTo K l ps ps.length ≤ L + K)) := by show _ = _; rw [HD.out, hok]; rfl
      clear hok
      generalize sizeTo K l ps ps.length = S at *
      have c0 := hk.cell_ 0 rfl
      have c1 := hk.cell_ 1 rfl
      have c2 := hk.cell_ 2 rfl
      go_wp2_with fail
      go_ret
      exact ⟨ret_bool HV.out.symm, hB⟩
def fE (L K : Int) (l : List Ask) (ps : List Int) : Int := if validK L K l then (if ps.length = l.length then 0 else 2) else 40
def fB (L K : Int) (l : List Ask) (ps : List Int) : Bool := if fE L K l ps = 0 then fitsB L K l ps else false
theorem kvalid_is (L K : Int) (A : Option Addr) (c : Nat) (l : List Ask) (w : World) (hS : Slc Ask.enc 2 w w.heap.size A l) {v : Bool} (h : validK L K l = v) :
    Calls Tryd.prog 17 #[.agg #[.int .i64 L, .int .i64 K, .slice A l.length c]] w fun e w' => e = .returned (.bool v) ∧ Below w.heap.size w w' := by
  subst h; exact kvalid_any L K A c l w hS
theorem refKValid_is (L K : Int) (A : Option Addr) (c : Nat) (l : List Ask) (w : World) (hS : Slc Ask.enc 2 w w.heap.size A l) {v : Bool} (h : validK L K l = v) :
    Calls Tryd.prog 5 #[.agg #[.int .i64 L, .int .i64 K, .slice A l.length c]] w fun e w' => e = .returned (.bool v) ∧ Below w.heap.size w w' := by
  subst h; exact refKValid_any L K A c l w hS
end Go.Proofs.YtkcfalehebacpaaDoor

/- Plans: the plain words. -/
namespace Go.Proofs.YtkcfalehebacpaaDoor
open Go Go.RowKit
structure Bat where
  t : Int
  ps : List Int
instance : Inhabited Bat := ⟨⟨0, []⟩⟩
structure PlanAt (w : World) (A : Option Addr) (bs : List Bt) (pl : List Bat) : Prop where
  row : Slc Bt.enc 2 w w.heap.size A bs
  len : bs.length = pl.length
  in_ : ∀ (i : Nat) b p, bs[i]? = some b → pl[i]? = some p → b.t = p.t ∧ b.n = p.ps.length ∧ Slc intEnc 1 w w.heap.size b.A p.ps
theorem PlanAt.on {w w' : World} {A : Option Addr} {bs : List Bt} {pl : List Bat} (h : PlanAt w A bs pl) (hb : Below w.heap.size w w') : PlanAt w' A bs pl :=
  ⟨h.row.on hb, h.len, fun i b p h1 h2 => by
    obtain ⟨a, b, c⟩ := h.in_ i b p h1 h2
    exact ⟨a, b, c.on hb⟩⟩
theorem plan_at {w : World} {A : Option Addr} {bs : List Bt} {pl : List Bat} {k : Nat} (h : PlanAt w A bs pl) (hk : k < pl.length) :
    ∃ p b off A' c', pl[k]? = some p ∧ A = some ⟨b, off, none⟩ ∧ b < w.heap.size ∧ w.cell? ⟨b, off + k * 2, none⟩ = some (.int .i64 p.t) ∧ w.cell? ⟨b, off + k * 2 + 1, none⟩ = some (.slice A' p.ps.length c') ∧ Slc intEnc 1 w w.heap.size A' p.ps := by
  obtain ⟨⟨t, A', n, c⟩, b, off, hx, hA, hb, h0, h1⟩ := bt_at h.row (show k < bs.length by rw [h.len]; exact hk)
  have hp : pl[k]? = some pl[k] := List.getElem?_eq_getElem hk
  obtain ⟨e1, e2, e3⟩ := h.in_ k _ _ hx hp
  dsimp only at e1 e2 e3 h0 h1
  rw [e1] at h0
  rw [e2] at h1
  exact ⟨_, b, off, A', c, hp, hA, hb, h0, h1, e3⟩
def shapedP (n : Nat) (pl : List Bat) : Bool := decide (pl.length ≤ 1000) && pl.all fun b => inB 1 b.t 1000 && decide (b.ps.length = n)
theorem all_at {α : Type} {f : α → Bool} {l : List α} : l.all f = true ↔ ∀ (i : Nat) x, l[i]? = some x → f x = true := by
  rw [List.all_eq_true]
  exact ⟨fun h i x hx => h x (List.mem_of_getElem? hx), fun h x hx => by
    obtain ⟨i, hi⟩ := List.getElem?_of_mem hx
    exact h i x hi⟩
theorem shapedB_plan {w : World} {A : Option Addr} {bs : List Bt} {pl : List Bat} (h : PlanAt w A bs pl) (n : Nat) : shapedB n bs = shapedP n pl := by
  unfold shapedB shapedP
  rw [h.len]
  congr 1
  rw [Bool.eq_iff_iff, all_at, all_at]
  constructor
  · intro h1 i p hp
    obtain ⟨b, hb⟩ : ∃ b, bs[i]? = some b := ⟨_, List.getElem?_eq_getElem (by rw [h.len]; exact (List.getElem?_eq_some_iff.1 hp).1)⟩
    obtain ⟨e1, e2, _⟩ := h.in_ i b p hb hp
    have := h1 i b hb
    rw [e1, e2] at this; exact this
  · intro h1 i b hb
    obtain ⟨p, hp⟩ : ∃ p, pl[i]? = some p := ⟨_, List.getElem?_eq_getElem (by rw [← h.len]; exact (List.getElem?_eq_some_iff.1 hb).1)⟩
    obtain ⟨e1, e2, _⟩ := h.in_ i b p hb hp
    have := h1 i p hp
    rw [e1, e2]; exact this
theorem shaped_at {n : Nat} {pl : List Bat} (h : shapedP n pl = true) {i : Nat} {p : Bat} (hp : pl[i]? = some p) : (1 ≤ p.t ∧ p.t ≤ 1000) ∧ p.ps.length = n := by
  unfold shapedP at h
  rw [Bool.and_eq_true] at h
  have := all_at.1 h.2 i p hp
  simp only [Bool.and_eq_true, inB_iff, decide_eq_true_eq] at this
  exact this
theorem shaped_few {n : Nat} {pl : List Bat} (h : shapedP n pl = true) : pl.length ≤ 1000 := by
  unfold shapedP at h
  rw [Bool.and_eq_true, decide_eq_true_eq] at h
  exact h.1
/-- the pieces of ask j that a plan makes -/
def totI (pl : List Bat) (j : Nat) : Int := (pl.map fun b => b.t * b.ps.getD j 0).sum
theorem totI_snoc {pl : List Bat} {i : Nat} {b : Bat} (h : pl[i]? = some b) (j : Nat) : totI (pl.take (i + 1)) j = totI (pl.take i) j + b.t * b.ps.getD j 0 := by
  unfold totI
  rw [List.take_add_one, h, Option.toList_some, List.map_append, List.sum_append]; simp
theorem fits_ok {L K : Int} {l : List Ask} {ps : List Int} (h : fitsB L K l ps = true) : ∀ p ∈ ps, 0 ≤ p ∧ p ≤ 50 := by
  unfold fitsB at h
  rw [Bool.and_eq_true] at h
  exact okP_iff.1 h.1
theorem getD_ok {ps : List Int} (h : ∀ p ∈ ps, 0 ≤ p ∧ p ≤ 50) (j : Nat) : 0 ≤ ps.getD j 0 ∧ ps.getD j 0 ≤ 50 := by
  rw [List.getD_eq_getElem?_getD]
  cases e : ps[j]? with
  | none => simp
  | some v => exact h v (List.mem_of_getElem? e)
theorem term_ok {t p : Int} (ht : 1 ≤ t ∧ t ≤ 1000) (hp : 0 ≤ p ∧ p ≤ 50) : 0 ≤ t * p ∧ t * p ≤ 50000 := by
  refine ⟨Int.mul_nonneg (by omega) hp.1, ?_⟩
  calc t * p ≤ 1000 * 50 := Int.mul_le_mul ht.2 hp.2 hp.1 (by omega)
    _ ≤ 50000 := by omega
theorem totI_low (j : Nat) : ∀ pl : List Bat, (∀ b ∈ pl, (1 ≤ b.t ∧ b.t ≤ 1000) ∧ ∀ p ∈ b.ps, 0 ≤ p ∧ p ≤ 50) → 0 ≤ totI pl j ∧ totI pl j ≤ pl.length * 50000
  | [], _ => by simp [totI]
  | b :: pl, h => by
    have ih := totI_low j pl fun b hb => h b (List.mem_cons_of_mem _ hb)
    obtain ⟨h1, h2⟩ := h b (List.mem_cons_self ..)
    have := term_ok h1 (getD_ok h2 j)
    have e : totI (b :: pl) j = b.t * b.ps.getD j 0 + totI pl j := by simp [totI]
    rw [e, List.length_cons]; push_cast; omega
def askB (pl : List Bat) (l : List Ask) (i : Nat) : Bool := decide (totI pl i = (l[i]?.getD default).cnt)
def madeB (pl : List Bat) (l : List Ask) : Bool := (List.range l.length).all (askB pl l)
def chkE (L K : Int) (l : List Ask) (pl : List Bat) : Int :=
  if validK L K l then if shapedP l.length pl then if pl.all (fun b => fitsB L K l b.ps) then if madeB pl l then 0 else 42 else 41 else 2 else 40
theorem totI_take_low {n : Nat} {L K : Int} {l : List Ask} {pl : List Bat} (hs : shapedP n pl = true) {i : Nat} (hf : ∀ (j : Nat) b, j < i → pl[j]? = some b → fitsB L K l b.ps = true) (j : Nat) : 0 ≤ totI (pl.take i) j ∧ totI (pl.take i) j ≤ 50000000 := by
  have h := totI_low j (pl.take i) fun b hb => by
    obtain ⟨q, hq⟩ := List.getElem?_of_mem hb
    have hqi : q < i := by
      have := (List.getElem?_eq_some_iff.1 hq).1
      simp at this; omega
    rw [List.getElem?_take, if_pos hqi] at hq
    exact ⟨(shaped_at hs hq).1, fits_ok (hf q b hqi hq)⟩
  have h2 := shaped_few hs
  have h3 : (pl.take i).length ≤ 1000 := by simp; omega
  omega
end Go.Proofs.YtkcfalehebacpaaDoor

/- Least of the program: the walk. -/
namespace Go.Proofs.YtkcfalehebacpaaDoor
open Go Go.RowKit
theorem sum_subW_low {ws : List Int} (h : ∀ x ∈ ws, 0 ≤ x ∧ x ≤ 2000) : ∀ (i s : Nat), 0 ≤ (subW (ws.take i) s).sum ∧ (subW (ws.take i) s).sum ≤ 2000 * ws.length := by
  intro i s
  have key : ∀ (l : List Int), (∀ x ∈ l, 0 ≤ x ∧ x ≤ 2000) → 0 ≤ l.sum ∧ l.sum ≤ 2000 * l.length := by
    intro l
    induction l with
    | nil => intro _; simp
    | cons x l ih =>
      intro h
      obtain ⟨h1, h2⟩ := ih fun y hy => h y (List.mem_cons_of_mem _ hy)
      have := h x (List.mem_cons_self ..)
      rw [List.sum_cons, List.length_cons]; push_cast; omega
  obtain ⟨h1, h2⟩ := key (subW (ws.take i) s) fun x hx => h x (List.mem_of_mem_take (subW_mem hx))
  have h3 := subW_len (ws.take i) s
  have h4 : (ws.take i).length ≤ ws.length := by simp; omega
  omega
set_option maxHeartbeats 1000000 in
theorem ctog_any (A : Option Addr) (c : Nat) (ws : List Int) (s : Nat) (w : World) (hS : Slc intEnc 1 w w.heap.size A ws) (hl : ws.length ≤ 10) (hs : s < 1024) (hw : ∀ x ∈ ws, 0 ≤ x ∧ x ≤ 2000) :
    Calls Tryd.prog 24 #[.slice A ws.length c, .int .i64 s] w fun e w' => e = .returned (.int .i64 (subW ws s).sum) ∧ w = w' := by
  have HLO := hide (sum_subW_low hw)
  have HW := hide hw
  clear hw
  go_enter Tryd.func24, Tryd.ntmps24
  go_wp2_with fail
  go_loopw [5, 10] (fun x y W => ∃ (i : Nat), y = .int .i64 i ∧ i ≤ ws.length ∧ x = .int .i64 (subW (ws.take i) s).sum ∧ w = W) (fun x y _ => ws.length - (intOf y).toNat)
  case atStart => exact ⟨0, rfl, Nat.zero_le _, by cases ws <;> rfl, rfl⟩
  case round =>
    obtain ⟨i, rfl, hi, rfl, rfl⟩ := hrel
    by_cases hlt : i < ws.length
    · obtain ⟨x, b, off, hx, hA, _, d0⟩ := ints_at' hS hlt
      have hii : (i : Int) < (ws.length : Int) := by omega
      have hx1 := HW.out x (List.mem_of_getElem? hx)
      have HSN := hide (subW_snoc s hx)
      have hb := HLO.out i s
      obtain ⟨S, hSm⟩ : ∃ S, (subW (ws.take i) s).sum = S := ⟨_, rfl⟩
      have HS := hide hSm
      rw [hSm] at hb ⊢
      have e1 : IntKind.i64.wrap (S + x) = S + x := IntWalk.i64_in _ (by omega)
      have e2 : IntKind.u64.wrap (i : Int) = (i : Int) := by simp [IntKind.wrap, IntKind.signed, IntKind.bits]; omega
      have hsd : s / 2 ^ i < 4611686018427387904 := Nat.lt_of_le_of_lt (Nat.div_le_self _ _) (by omega)
      have e4 : bits .and .i64 ((s : Int) / 2 ^ i) 1 = ((s / 2 ^ i % 2 : Nat) : Int) := by
        rw [← bits_one hsd]
        push_cast; rfl
      have hi64 : (i : Int) ≤ 64 := by omega
      clear hx hSm hsd
      subst hA
      rcases Nat.mod_two_eq_zero_or_one (s / 2 ^ i) with hm | hm
      · rw [hm] at e4
        have e4 : bits .and .i64 ((s : Int) / 2 ^ i) 1 = 0 := e4
        have HN : Hid ((subW (ws.take (i + 1)) s).sum = S) := by show _ = _; rw [HSN.out, if_neg (by omega), List.append_nil, HS.out]
        clear hm
        go_wp2_with fail
        go_roundw
        case rel => exact ⟨i + 1, by go_num, by omega, by rw [HN.out], by simp⟩
        case measure => simp [intOf]; omega
      · rw [hm] at e4
        have e4 : bits .and .i64 ((s : Int) / 2 ^ i) 1 = 1 := e4
        have HN : Hid ((subW (ws.take (i + 1)) s).sum = S + x) := by show _ = _; rw [HSN.out, if_pos hm, List.sum_append, HS.out]; simp
        clear hm
        go_wp2_with fail
        go_roundw
        case rel => exact ⟨i + 1, by go_num, by omega, by rw [HN.out], by simp⟩
        case measure => simp [intOf]; omega
    · obtain rfl : i = ws.length := by omega
      rw [List.take_length]
      go_wp2_with fail
      go_ret
      exact ⟨rfl, rfl⟩
theorem ctog_is (A : Option Addr) (c n : Nat) (ws : List Int) (s : Nat) (w : World) (hS : Slc intEnc 1 w w.heap.size A ws) (hn : ws.length = n) (hl : n ≤ 10) (hs : s < 1024) (hw : ∀ x ∈ ws, 0 ≤ x ∧ x ≤ 2000) {v : Int} (h : (subW ws s).sum = v) :
    Calls Tryd.prog 24 #[.slice A n c, .int .i64 s] w fun e w' => e = .returned (.int .i64 v) ∧ w = w' := by
  subst h hn; exact ctog_any A c ws s w hS hl hs hw
def wdG (K : Int) (l : List Ask) : List Int := l.flatMap fun a => List.replicate a.cnt.toNat (a.len + K)
theorem wdG_snoc {K : Int} {l : List Ask} {i : Nat} {a : Ask} (h : l[i]? = some a) : wdG K (l.take (i + 1)) = wdG K (l.take i) ++ List.replicate a.cnt.toNat (a.len + K) := by
  unfold wdG
  rw [List.take_add_one, h, Option.toList_some, List.flatMap_append]; simp
theorem wdG_len (K : Int) (l : List Ask) (i : Nat) : (wdG K (l.take i)).length ≤ (wdG K l).length := by
  conv => rhs; rw [← List.take_append_drop i l]
  unfold wdG
  rw [List.flatMap_append, List.length_append]; omega
theorem wdG_mem {L K : Int} {l : List Ask} (hv : VK L K l) {x : Int} (h : x ∈ wdG K l) : (0 ≤ x ∧ x ≤ 2000) ∧ x ≤ L + K := by
  obtain ⟨a, ha, hx⟩ := List.mem_flatMap.1 h
  rw [(List.mem_replicate.1 hx).2]
  have h1 := (hv.ask a ha).1
  have h2 := hv.hL
  have h3 := hv.hK
  omega
def LeastV (L K : Int) (l : List Ask) (n E : Int) : Prop :=
  (validK L K l = false → n = 0 ∧ E = 40) ∧ (validK L K l = true → 10 < (wdG K l).length → n = 0 ∧ E = 11) ∧ (validK L K l = true → (wdG K l).length ≤ 10 → E = 0 ∧ ∃ k : Nat, n = k ∧ LeastPk (L + K) (wdG K l) k)
def LeastPost (L K : Int) (l : List Ask) (w : World) (e : Ending) (w' : World) : Prop := ∃ n E : Int, e = .returned (.tuple #[.int .i64 n, .int .i64 E]) ∧ Below w.heap.size w w' ∧ LeastV L K l n E
theorem below_own (X W : World) (h : X = W) : Below X.heap.size X W := by subst h; exact Below.refl _ _
set_option maxRecDepth 100000 in
set_option maxHeartbeats 4000000 in
theorem least_any (L K : Int) (A : Option Addr) (c : Nat) (l : List Ask) (w : World) (hS : Slc Ask.enc 2 w w.heap.size A l) :
    Calls Tryd.prog 13 #[.agg #[.int .i64 L, .int .i64 K, .slice A l.length c]] w (LeastPost L K l w) := by
  have hk := Blk.new w 24 #[.int .i64 L, .int .i64 K, .slice A l.length c]
  have hB := (Below.refl w.heap.size w).alloc (Nat.le_refl _) (.cells #[.int .i64 L, .int .i64 K, .slice A l.length c] 24)
  go_enter Tryd.func13, Tryd.ntmps13
  go_upto_region 1 with fail
  generalize w.alloc (.cells #[.int .i64 L, .int .i64 K, .slice A l.length c] 24) = W at *
  have c0 := hk.cell_ 0 rfl
  have c1 := hk.cell_ 1 rfl
  have c2 := hk.cell_ 2 rfl
  obtain ⟨u, hu⟩ : ∃ u, validK L K l = u := ⟨_, rfl⟩
  have HU := hide hu
  clear hu
  go_wp2_with fail
  refine (kvalidB_is L K A c l _ (hS.on hB) HU.out).mono ?_
  rintro e W ⟨rfl, hb⟩
  clear c0 c1 c2
  replace hk := hk.below hb hk.lt
  replace hB := hB.trans (hb.mono hB.size)
  clear hb
  have c0 := hk.cell_ 0 rfl
  have c1 := hk.cell_ 1 rfl
  have c2 := hk.cell_ 2 rfl
  cases u
  case false =>
    have HV : Hid (LeastV L K l 0 40) := ⟨fun _ => ⟨rfl, rfl⟩, (fun h => by rw [HU.out] at h; cases h), fun h => by rw [HU.out] at h; cases h⟩
    go_wp2_with fail
    go_ret2
    exact ⟨0, 40, rfl, hB, HV.out⟩
  have HV := hide (validK_iff.1 HU.out)
  have hlb := HV.out.hL
  have hkb := HV.out.hK
  have hl8 := HV.out.few
  have HVA := hide HV.out.ask
  have hWz := hk.lt
  obtain ⟨W0, hW0⟩ : ∃ X : World, X = W := ⟨_, rfl⟩
  have hL := below_own W0 W hW0
  rw [← hW0] at hWz
  have hO : Own W W0.heap.size 3 1 intEnc (.slice none 0 0) (wdG K (l.take 0)) := Own.nil_
  clear hW0
  have H10 : Hid ((wdG K (l.take 0)).length ≤ 10) := Nat.zero_le _
  go_wp2_with fail
  clear c0 c1 c2
  go_loopw [4, 16] (fun v y W => ∃ (i : Nat), y = .int .i64 i ∧ i ≤ l.length ∧ Hid ((wdG K (l.take i)).length ≤ 10) ∧ Blk W w.heap.size 24 #[.int .i64 L, .int .i64 K, .slice A l.length c] ∧ Below W0.heap.size W0 W ∧ Own W W0.heap.size 3 1 intEnc v (wdG K (l.take i)) ∧ Below w.heap.size w W) (fun v y _ => l.length - (intOf y).toNat)
  case atStart => exact ⟨0, rfl, Nat.zero_le _, H10, hk, hL, hO, hB⟩
  case round =>
    clear hk hB hO hL H10
    obtain ⟨W, rfl⟩ : ∃ W : World, W = wr := ⟨_, rfl⟩
    obtain ⟨i, rfl, hi, H10, hk, hL, hO, hB⟩ := hrel
    by_cases hlt : i < l.length
    · obtain ⟨a, b, off, ha, hA, _, d0, d1⟩ := ask_at (hS.on hB) hlt
      have hii : (i : Int) < (l.length : Int) := by omega
      obtain ⟨⟨ha1, ha2⟩, ha3, ha4⟩ := HVA.out a (List.mem_of_getElem? ha)
      have HSN := hide (wdG_snoc (K := K) ha)
      obtain ⟨ln, cn⟩ := a
      dsimp only at ha1 ha2 ha3 ha4 d0 d1 HSN
      obtain ⟨k0, hk0⟩ : ∃ k : Nat, cn = (k : Int) := ⟨cn.toNat, by omega⟩
      subst hk0
      rw [Int.toNat_natCast] at HSN
      have hk9 : k0 ≤ 50 := by omega
      have e1 : IntKind.i64.wrap (ln + K) = ln + K := IntWalk.i64_in _ (by omega)
      have hO : Own W W0.heap.size 3 1 intEnc u4 (wdG K (l.take i) ++ List.replicate 0 (ln + K)) := by rw [List.replicate_zero, List.append_nil]; exact hO
      clear ha ha3 ha4
      subst hA
      have hLs := hL.size
      have c0 := hk.cell_ 0 rfl
      have c1 := hk.cell_ 1 rfl
      have c2 := hk.cell_ 2 rfl
      have q_c0 := (hk.alloc (.cells #[.int .i64 ln, .int .i64 k0] 46)).cell_ 0 rfl
      have q_c1 := (hk.alloc (.cells #[.int .i64 ln, .int .i64 k0] 46)).cell_ 1 rfl
      have q_c2 := (hk.alloc (.cells #[.int .i64 ln, .int .i64 k0] 46)).cell_ 2 rfl
      go_upto_region 7 with fail
      clear q_c0 q_c1 q_c2
      clear c0 c1 c2
      have hm := Blk.new W 46 #[.int .i64 ln, .int .i64 k0]
      replace hk := hk.alloc (.cells #[.int .i64 ln, .int .i64 k0] 46)
      replace hL := hL.trans (((Below.refl _ W).alloc (Nat.le_refl _) (.cells #[.int .i64 ln, .int .i64 k0] 46)).mono (by first | exact Nat.le_refl _ | exact hL.size))
      replace hO := hO.alloc (.cells #[.int .i64 ln, .int .i64 k0] 46)
      have hsz_bx : (W.alloc (.cells #[.int .i64 ln, .int .i64 k0] 46)).heap.size = W.heap.size + 1 := by simp
      have bxge := hB.size
      replace hB := hB.alloc hB.size (.cells #[.int .i64 ln, .int .i64 k0] 46)
      generalize hbx : W.heap.size = bx at *
      generalize W.alloc (.cells #[.int .i64 ln, .int .i64 k0] 46) = W at *
      clear hbx
      have c0 := hk.cell_ 0 rfl
      have c1 := hk.cell_ 1 rfl
      have c2 := hk.cell_ 2 rfl
      have m0 := hm.cell_ 0 rfl
      have m1 := hm.cell_ 1 rfl
      clear d0 d1
      go_wp2_with fail
      clear c0 c1 c2 m0 m1
      go_loopw [4, 22] (fun v y W => ∃ (k : Nat), y = .int .i64 k ∧ k ≤ k0 ∧ Blk W w.heap.size 24 #[.int .i64 L, .int .i64 K, .slice (some ⟨b, off, none⟩) l.length c] ∧ Below W0.heap.size W0 W ∧ Own W W0.heap.size 3 1 intEnc v (wdG K (l.take i) ++ List.replicate k (ln + K)) ∧ Blk W bx 46 #[.int .i64 ln, .int .i64 k0] ∧ Below w.heap.size w W) (fun v y _ => k0 - (intOf y).toNat)
      case atStart => exact ⟨0, rfl, Nat.zero_le _, hk, hL, hO, hm, hB⟩
      case round =>
        clear hk hB hO hL hm
        obtain ⟨W, rfl⟩ : ∃ W : World, W = wr := ⟨_, rfl⟩
        obtain ⟨k, rfl, hkk, hk, hL, hO, hm, hB⟩ := hrel
        have c0 := hk.cell_ 0 rfl
        have c1 := hk.cell_ 1 rfl
        have c2 := hk.cell_ 2 rfl
        have m0 := hm.cell_ 0 rfl
        have m1 := hm.cell_ 1 rfl
        by_cases hkl : k < k0
        · have hkl2 : (k : Int) < (k0 : Int) := by omega
          have hlen : (wdG K (l.take i)).length ≤ 10 := H10.out
          have hLs := hL.size
          go_wp2_with (at_builtin; refine wpList_app_own (base := W0.heap.size) (f := intEnc) (ys := [(ln + K : Int)]) _ _ rfl rfl et_ints (hO.alloc _) rfl rfl ((Blk.new W 3 #[.int .i64 (ln + K)]).slc1 rfl) rfl (fun _ => rfl) intEnc_one (by simp <;> omega) (by simp <;> omega) ?_; intro v2 W2 o2 hb2 hg2)
          have hO3 := hO.alloc (.cells #[.int .i64 (ln + K)] 3)
          have hm3 := hm.alloc (.cells #[.int .i64 (ln + K)] 3)
          have hm2 := hm3.grownv hg2 (own_ne_blk hO3 hm3 (by decide))
          have hBW : Below W0.heap.size W W2 := ((Below.refl _ W).alloc hLs (.cells #[.int .i64 (ln + K)] 3)).trans hb2
          have hO2 : Own W2 W0.heap.size 3 1 intEnc v2 (wdG K (l.take i) ++ List.replicate (k + 1) (ln + K)) := by
            rw [List.replicate_succ', ← List.append_assoc]; exact o2
          have hk2 := hk.below hBW hWz
          have hL2 := hL.trans hBW
          have hB2 := hB.trans (hBW.mono (Nat.le_of_lt hWz))
          clear hO o2 hb2 hg2 hO3 hm3 hBW
          go_roundw
          case rel => exact ⟨k + 1, by go_num, by omega, hk2, hL2, hO2, hm2, hB2⟩
          case measure => simp [intOf]; omega
        · obtain rfl : k = k0 := by omega
          rw [← HSN.out] at hO
          obtain ⟨A2, k2, rfl, _⟩ := hO.form fun _ => rfl
          have HLW := hide (wdG_len K l (i + 1))
          by_cases h10 : (10 : Int) < ((wdG K (l.take (i + 1))).length : Int)
          · have HE : Hid (LeastV L K l 0 11) := ⟨(fun h => by rw [HU.out] at h; cases h), fun _ _ => ⟨rfl, rfl⟩, fun _ h => by have := HLW.out; omega⟩
            clear hO
            go_wp2_with fail
            go_ret2
            exact ⟨0, 11, rfl, hB, HE.out⟩
          · have H11 : Hid ((wdG K (l.take (i + 1))).length ≤ 10) := by show _ ≤ _; omega
            go_wp2_with fail
            go_roundw
            case rel => exact ⟨i + 1, by go_num, by omega, H11, hk, hL, hO, hB⟩
            case measure => simp [intOf]; omega
    · obtain rfl : i = l.length := by omega
      rw [List.take_length] at hO H10
      obtain ⟨AW, kW, rfl, hSW⟩ := hO.form fun _ => rfl
      have HWM : Hid (∀ x ∈ wdG K l, (0 ≤ x ∧ x ≤ 2000) ∧ x ≤ L + K) := fun x hx => wdG_mem HV.out hx
      obtain ⟨ws, hws⟩ : ∃ ws, wdG K l = ws := ⟨_, rfl⟩
      have HWS := hide hws
      rw [hws] at hSW H10 HWM ⊢
      obtain ⟨n, hn⟩ : ∃ n, ws.length = n := ⟨_, rfl⟩
      have HN := hide hn
      have hn10 : n ≤ 10 := by rw [← hn]; exact H10.out
      rw [hn]
      obtain ⟨N, hN⟩ : ∃ N, 2 ^ n = N := ⟨_, rfl⟩
      have hN9 : N ≤ 1024 := by rw [← hN]; exact pow_le10 hn10
      have hN1 : 1 ≤ N := by rw [← hN]; exact Nat.two_pow_pos n
      have HNN := hide hN
      have hmk := mk_zeros N (by omega)
      have e2 : IntKind.u64.wrap (n : Int) = (n : Int) := by simp [IntKind.wrap, IntKind.signed, IntKind.bits]; omega
      have e3 : IntKind.i64.wrap ((2 : Int) ^ n) = (N : Int) := by
        rw [← hN, show ((2 : Int) ^ n) = ((2 ^ n : Nat) : Int) by push_cast; rfl]
        exact wrap_small (by omega)
      have hnb : (n : Int) ≤ 64 := by omega
      have e5 : IntKind.i64.wrap (L + K) = L + K := IntWalk.i64_in _ (by omega)
      have HR0 : Hid (0 ≤ L + K) := by show _ ≤ _; omega
      have hLs := hL.size
      clear hO hws hn hN
      have c0 := hk.cell_ 0 rfl
      have c1 := hk.cell_ 1 rfl
      have c2 := hk.cell_ 2 rfl
      have q_c0 := (hk.alloc (.cells (intJ (List.replicate N 0) []) 3)).cell_ 0 rfl
      have q_c1 := (hk.alloc (.cells (intJ (List.replicate N 0) []) 3)).cell_ 1 rfl
      have q_c2 := (hk.alloc (.cells (intJ (List.replicate N 0) []) 3)).cell_ 2 rfl
      go_upto_region 15 with fail
      clear q_c0 q_c1 q_c2
      clear c0 c1 c2
      have hT := Blk.new W 3 (intJ (List.replicate N 0) [])
      replace hk := hk.alloc (.cells (intJ (List.replicate N 0) []) 3)
      replace hL := hL.trans (((Below.refl _ W).alloc (Nat.le_refl _) (.cells (intJ (List.replicate N 0) []) 3)).mono (by first | exact Nat.le_refl _ | exact hL.size))
      replace hSW := hSW.below ((Below.refl _ W).alloc (Nat.le_refl _) (.cells (intJ (List.replicate N 0) []) 3))
      have hsz_g : (W.alloc (.cells (intJ (List.replicate N 0) []) 3)).heap.size = W.heap.size + 1 := by simp
      have gge := hB.size
      replace hB := hB.alloc hB.size (.cells (intJ (List.replicate N 0) []) 3)
      generalize hg : W.heap.size = g at *
      generalize W.alloc (.cells (intJ (List.replicate N 0) []) 3) = W at *
      clear hg
      have c0 := hk.cell_ 0 rfl
      have c1 := hk.cell_ 1 rfl
      have c2 := hk.cell_ 2 rfl
      clear hmk e2 e3
      have hWg : w.heap.size < g := by omega
      have hgs : g ≤ W.heap.size := by omega
      clear hL hsz_g
      obtain ⟨W1, hW1⟩ : ∃ X : World, X = W := ⟨_, rfl⟩
      have hL : Below g W1 W := by rw [hW1]; exact Below.refl _ _
      have HSW : Hid (Slc intEnc 1 W1 g AW ws) := by rw [hW1]; exact hSW
      have HT0 : Hid (∀ q, q < 1 → ∃ v : Nat, (List.replicate N (0 : Int))[q]? = some (v : Int) ∧ LeastPk (L + K) (subW ws q) v) := fun q hq => by
        obtain rfl : q = 0 := by omega
        exact ⟨0, by rw [List.getElem?_replicate, if_pos (by omega)]; rfl, by rw [subW_zero]; exact ⟨Packs.nil_ _, fun m _ => Nat.zero_le _⟩⟩
      have HWR : Hid (∀ x ∈ ws, 0 ≤ x ∧ x ≤ 2000) := fun x hx => (HWM.out x hx).1
      have HWL : Hid (∀ x ∈ ws, x ≤ L + K) := fun x hx => (HWM.out x hx).2
      have hg1 : g ≤ W1.heap.size := by rw [hW1]; exact hgs
      clear hSW hW1 hgs
      go_wp2_with fail
      clear c0 c1 c2
      go_loopw [8] (fun y W => ∃ (s : Nat) (T : List Int), y = .int .i64 s ∧ 1 ≤ s ∧ s ≤ N ∧ T.length = N ∧ Hid (∀ q, q < s → ∃ v : Nat, T[q]? = some (v : Int) ∧ LeastPk (L + K) (subW ws q) v) ∧ Blk W w.heap.size 24 #[.int .i64 L, .int .i64 K, .slice A l.length c] ∧ Blk W g 3 (intJ T []) ∧ Below g W1 W ∧ Below w.heap.size w W) (fun y _ => N - (intOf y).toNat)
      case atStart => exact ⟨1, List.replicate N 0, rfl, Nat.le_refl _, hN1, List.length_replicate, HT0, hk, hT, hL, hB⟩
      case round =>
        clear hk hB hL hT HT0
        obtain ⟨W, rfl⟩ : ∃ W : World, W = wr := ⟨_, rfl⟩
        obtain ⟨s, T, rfl, hs1, hsN, hTl, HT, hk, hT, hL, hB⟩ := hrel
        have HTL := hide hTl
        by_cases hlt : s < N
        · have hss : (s : Int) < (N : Int) := by omega
          have HSL : Hid (s < T.length) := by show _ < _; rw [hTl]; exact hlt
          have HIS : Hid (s < (intJ T []).size) := intJ_lt HSL.out
          have HS2 : Hid (s < 2 ^ ws.length) := by show _ < _; rw [HN.out, HNN.out]; exact hlt
          have HPI : Hid (PartInv (L + K) ws s s n) := by
            have h := PartInv.start (s := s) HR0.out HWL.out
            rw [HN.out] at h
            exact h
          clear hTl
          have c0 := hk.cell_ 0 rfl
          have c1 := hk.cell_ 1 rfl
          have c2 := hk.cell_ 2 rfl
          go_upto_region 19 with (refine wpList_store_at rfl 3 _ _ rfl (.int .i64 n) hT rfl rfl (by kernel_rfl) rfl HIS.out rfl ?_; intro W2 hT2 hc2)
          rw [intJ_set HSL.out] at hT2
          clear c0 c1 c2
          replace hk := hk.chg1 hc2 (by omega)
          replace hB := hB.trans (hc2.below1 hB.size (by omega))
          replace hL := hL.trans (hc2.below1 (Nat.le_trans hg1 hL.size) (by omega))
          clear hT hc2
          have hT := hT2
          clear hT2
          try dsimp only [Act.put]
          obtain ⟨W, rfl⟩ : ∃ X : World, X = W2 := ⟨_, rfl⟩
          have c0 := hk.cell_ 0 rfl
          have c1 := hk.cell_ 1 rfl
          have c2 := hk.cell_ 2 rfl
          go_wp2_with fail
          show Code.wp Tryd.prog _ _ _ _
          clear c0 c1 c2
          go_loopw [9] (fun y W => ∃ (p v : Nat), y = .int .i64 p ∧ Hid (Sub p s) ∧ Hid (PartInv (L + K) ws s p v) ∧ Blk W w.heap.size 24 #[.int .i64 L, .int .i64 K, .slice A l.length c] ∧ Blk W g 3 (intJ (T.set s ((v : Nat) : Int)) []) ∧ Below g W1 W ∧ Below w.heap.size w W) (fun y _ => (intOf y).toNat)
          case atStart => exact ⟨s, n, rfl, hide (Nat.and_self s), HPI, hk, hT, hL, hB⟩
          case round =>
            clear hk hB hL hT HPI
            obtain ⟨W, rfl⟩ : ∃ W : World, W = wr := ⟨_, rfl⟩
            obtain ⟨p, v, rfl, HSB, HPI, hk, hT, hL, hB⟩ := hrel
            by_cases hp0 : p = 0
            · subst hp0
              have HD := hide (HPI.out.done HS2.out (by omega))
              have HT2 : Hid (∀ q, q < s + 1 → ∃ x : Nat, (T.set s ((v : Nat) : Int))[q]? = some (x : Int) ∧ LeastPk (L + K) (subW ws q) x) := fun q hq => by
                rw [List.getElem?_set]
                by_cases e : s = q
                · subst e
                  exact ⟨v, by rw [if_pos rfl, if_pos HSL.out], HD.out⟩
                · rw [if_neg e]
                  exact HT.out q (by omega)
              have HTL2 : Hid ((T.set s ((v : Nat) : Int)).length = N) := by show _ = _; rw [List.length_set]; exact HTL.out
              have c0 := hk.cell_ 0 rfl
              have c1 := hk.cell_ 1 rfl
              have c2 := hk.cell_ 2 rfl
              go_wp2_with fail
              go_roundw
              case rel => exact ⟨s + 1, _, by go_num, by omega, by omega, HTL2.out, HT2, hk, hT, hL, hB⟩
              case measure => simp [intOf]; omega
            · have hple := HSB.out.le
              have hpp : (0 : Int) < (p : Int) := by omega
              have hpp2 : 0 < p := by omega
              obtain ⟨q, hq⟩ : ∃ q, (p - 1) &&& s = q := ⟨_, rfl⟩
              have HSB2 : Hid (Sub q s) := by show Sub q s; rw [← hq]; exact sub_and _ _
              have HLE2 : Hid (q < p) := by
                show _ < _
                have : (p - 1) &&& s ≤ p - 1 := Nat.and_le_left
                omega
              have e7 : IntKind.i64.wrap ((p : Int) - 1) = ((p - 1 : Nat) : Int) := by
                rw [show (p : Int) - 1 = ((p - 1 : Nat) : Int) by omega]
                exact wrap_small (by omega)
              have e8 : bits .and .i64 ((p - 1 : Nat) : Int) (s : Int) = (q : Int) := by rw [bits_and (by omega), hq]
              obtain ⟨p1, hp1⟩ : ∃ p1, p - 1 = p1 := ⟨_, rfl⟩
              rw [hp1] at e7 e8
              obtain ⟨sm, hsm⟩ : ∃ x, (subW ws p).sum = x := ⟨_, rfl⟩
              have HSM := hide hsm
              have hp9 : p < 1024 := by omega
              have T1 := hide ((HSW.out.below hL).more (Nat.le_trans hg1 hL.size))
              have HQ := hide hq
              clear hq hp1 hsm hp0
              have c0 := hk.cell_ 0 rfl
              have c1 := hk.cell_ 1 rfl
              have c2 := hk.cell_ 2 rfl
              go_wp2_with fail
              refine wp_region_quiet (C := fun w' => ∃ u : Since W, w' = u.w) (by kernel_rfl) (by kernel_rfl) (Since.start W) ?_
              dsimp only
              have y_c0 := Since.cell c0
              have y_c1 := Since.cell c1
              have y_c2 := Since.cell c2
              clear c0 c1 c2
              repeat (go_big_quiet_step ((go_at_call 24; exact Since.calls_same (ctog_is AW kW n ws p _ (Slc.on T1.out (Since.h _)) HN.out hn10 hp9 HWR.out HSM.out))))
              refine wpQuiet_nil ?_
              rintro W ⟨⟨_, hb⟩, rfl⟩
              try dsimp only at hb ⊢
              clear y_c0 y_c1 y_c2
              replace hk := hk.below hb hk.lt
              replace hT := hT.below hb hT.lt
              replace hL := hL.trans (hb.mono (by first | exact Nat.le_refl _ | exact Nat.le_trans hg1 hL.size))
              replace hB := hB.trans (hb.mono hB.size)
              clear hb
              have c0 := hk.cell_ 0 rfl
              have c1 := hk.cell_ 1 rfl
              have c2 := hk.cell_ 2 rfl
              by_cases hle : sm ≤ L + K
              · obtain ⟨u, hu1, hl1⟩ := HT.out (s - p) (by omega)
                have HPI2 : Hid (PartInv (L + K) ws s q (min v (u + 1))) := by
                  have h := HPI.out.take HSB.out (by rw [HSM.out]; exact hle) hl1
                  rw [HQ.out] at h
                  exact h
                have hub : u ≤ 1000 := by
                  have h1 := hl1.2 _ (Packs.some_ fun x hx => HWL.out x (subW_mem hx))
                  have h2 := subW_len ws (s - p)
                  rw [HN.out] at h2
                  omega
                have hvb : v ≤ 1000 := by have := HPI.out.few; rw [HN.out] at this; omega
                have e9 : bits .andNot .i64 (s : Int) (p : Int) = ((s - p : Nat) : Int) := bits_andNot HSB.out (by omega)
                obtain ⟨r, hr⟩ : ∃ r, s - p = r := ⟨_, rfl⟩
                rw [hr] at hu1 e9
                have hrs : r < s := by omega
                have hrN : (r : Int) < (N : Int) := by omega
                have t1 := hT.cell_ s (intJ_get (List.getElem?_set_self HSL.out))
                have t2 := hT.cell_ r (intJ_get (v := (u : Int)) (by rw [List.getElem?_set, if_neg (by omega)]; exact hu1))
                have e10 : IntKind.i64.wrap ((u : Int) + 1) = (u : Int) + 1 := IntWalk.i64_in _ (by omega)
                have HSL2 : Hid (s < (T.set s ((v : Nat) : Int)).length) := by show _ < _; rw [List.length_set]; exact HSL.out
                have HIS2 : Hid (s < (intJ (T.set s ((v : Nat) : Int)) []).size) := intJ_lt HSL2.out
                clear hu1 hl1 hr
                by_cases hmn : (u : Int) + 1 < (v : Int)
                · have HMN : Hid (((min v (u + 1) : Nat) : Int) = (u : Int) + 1) := by show _ = _; rw [Nat.min_eq_right (by omega)]; push_cast; rfl
                  go_wp2_with fail
                  refine wp_region_quiet_tail (C := fun w' => ∃ u : Since W, w' = u.w) 15 (by kernel_rfl) (by kernel_rfl) (Since.start W) ?_
                  simp only [List.take_succ_cons, List.take_zero, List.drop_succ_cons, List.drop_zero]
                  have y_c0 := Since.cell c0
                  have y_c1 := Since.cell c1
                  have y_c2 := Since.cell c2
                  have y_t1 := Since.cell t1
                  have y_t2 := Since.cell t2
                  clear c0 c1 c2
                  repeat (go_big_quiet_step ((fail)))
                  refine wpQuiet_nil ?_
                  rintro W ⟨⟨_, hb⟩, rfl⟩
                  try dsimp only at hb ⊢
                  replace t1 : W.cell? _ = _ := y_t1 ⟨W, hb⟩
                  replace t2 : W.cell? _ = _ := y_t2 ⟨W, hb⟩
                  clear y_c0 y_c1 y_c2 y_t1 y_t2
                  replace hk := hk.below hb hk.lt
                  replace hT := hT.below hb hT.lt
                  replace hL := hL.trans (hb.mono (by first | exact Nat.le_refl _ | exact Nat.le_trans hg1 hL.size))
                  replace hB := hB.trans (hb.mono hB.size)
                  clear hb
                  have c0 := hk.cell_ 0 rfl
                  have c1 := hk.cell_ 1 rfl
                  have c2 := hk.cell_ 2 rfl
                  refine wpList_store_at rfl 3 _ _ rfl (.int .i64 ((u : Int) + 1)) hT rfl rfl (by kernel_rfl) rfl HIS2.out rfl ?_
                  intro W2 hT1 hc1
                  rw [intJ_set HSL2.out, List.set_set, ← HMN.out] at hT1
                  have hk2 := hk.chg1 hc1 (by omega)
                  have hB2 := hB.trans (hc1.below1 hB.size (by omega))
                  have hL2 := hL.trans (hc1.below1 (Nat.le_trans hg1 hL.size) (by omega))
                  clear hk hB hL hT hc1 t1 t2 c0 c1 c2
                  go_wp2_with fail
                  go_roundw
                  case rel => exact ⟨q, min v (u + 1), by go_num, HSB2, HPI2, hk2, hT1, hL2, hB2⟩
                  case measure => have := HLE2.out; simp [intOf]; omega
                · have HMN : Hid (((min v (u + 1) : Nat) : Int) = (v : Int)) := by show _ = _; rw [Nat.min_eq_left (by omega)]
                  go_wp2_with fail
                  refine wp_region_quiet_tail (C := fun w' => ∃ u : Since W, w' = u.w) 15 (by kernel_rfl) (by kernel_rfl) (Since.start W) ?_
                  simp only [List.take_succ_cons, List.take_zero, List.drop_succ_cons, List.drop_zero]
                  have y_c0 := Since.cell c0
                  have y_c1 := Since.cell c1
                  have y_c2 := Since.cell c2
                  have y_t1 := Since.cell t1
                  have y_t2 := Since.cell t2
                  clear c0 c1 c2
                  repeat (go_big_quiet_step ((fail)))
                  refine wpQuiet_nil ?_
                  rintro W ⟨⟨_, hb⟩, rfl⟩
                  try dsimp only at hb ⊢
                  replace t1 : W.cell? _ = _ := y_t1 ⟨W, hb⟩
                  replace t2 : W.cell? _ = _ := y_t2 ⟨W, hb⟩
                  clear y_c0 y_c1 y_c2 y_t1 y_t2
                  replace hk := hk.below hb hk.lt
                  replace hT := hT.below hb hT.lt
                  replace hL := hL.trans (hb.mono (by first | exact Nat.le_refl _ | exact Nat.le_trans hg1 hL.size))
                  replace hB := hB.trans (hb.mono hB.size)
                  clear hb
                  have c0 := hk.cell_ 0 rfl
                  have c1 := hk.cell_ 1 rfl
                  have c2 := hk.cell_ 2 rfl
                  refine wpList_store_at rfl 3 _ _ rfl (.int .i64 ((v : Int))) hT rfl rfl (by kernel_rfl) rfl HIS2.out rfl ?_
                  intro W2 hT1 hc1
                  rw [intJ_set HSL2.out, List.set_set, ← HMN.out] at hT1
                  have hk2 := hk.chg1 hc1 (by omega)
                  have hB2 := hB.trans (hc1.below1 hB.size (by omega))
                  have hL2 := hL.trans (hc1.below1 (Nat.le_trans hg1 hL.size) (by omega))
                  clear hk hB hL hT hc1 t1 t2 c0 c1 c2
                  go_wp2_with fail
                  go_roundw
                  case rel => exact ⟨q, min v (u + 1), by go_num, HSB2, HPI2, hk2, hT1, hL2, hB2⟩
                  case measure => have := HLE2.out; simp [intOf]; omega
              · have HPI2 : Hid (PartInv (L + K) ws s q v) := by
                  have h := HPI.out.skip HSB.out (by rw [HSM.out]; exact hle)
                  rw [HQ.out] at h
                  exact h
                go_wp2_with fail
                go_roundw
                case rel => exact ⟨q, v, by go_num, HSB2, HPI2, hk, hT, hL, hB⟩
                case measure => have := HLE2.out; simp [intOf]; omega
        · obtain rfl : s = N := by omega
          obtain ⟨x, hx, hlp⟩ := HT.out (s - 1) (by omega)
          have HE : Hid (LeastV L K l x 0) := ⟨(fun h => by rw [HU.out] at h; cases h), (fun _ h => by have := H10.out; rw [HWS.out] at h; omega), fun _ _ => ⟨rfl, x, rfl, by
            rw [HWS.out]
            rw [← HNN.out, ← HN.out, subW_full] at hlp
            exact hlp⟩⟩
          have e11 : IntKind.i64.wrap ((s : Int) - 1) = ((s - 1 : Nat) : Int) := by
            rw [show (s : Int) - 1 = ((s - 1 : Nat) : Int) by omega]
            exact wrap_small (by omega)
          obtain ⟨r, hr⟩ : ∃ r, s - 1 = r := ⟨_, rfl⟩
          rw [hr] at hx e11
          have hrs : (r : Int) < (s : Int) := by omega
          have t1 := hT.cell_ r (intJ_get hx)
          clear hx hlp hr hTl
          have c0 := hk.cell_ 0 rfl
          have c1 := hk.cell_ 1 rfl
          have c2 := hk.cell_ 2 rfl
          go_wp2_with fail
          go_ret2
          exact ⟨x, 0, rfl, hB, HE.out⟩
end Go.Proofs.YtkcfalehebacpaaDoor

/- Canonical plans: the plain law. A plan's batches put together do not hang on their order. -/
namespace Go.Proofs.YtkcfalehebacpaaDoor
open Go Go.RowKit
/-- slices.Compare -/
def cmpL : List Int → List Int → Int
  | [], [] => 0
  | [], _ :: _ => -1
  | _ :: _, [] => 1
  | x :: a, y :: b => if x < y then -1 else if y < x then 1 else cmpL a b
theorem cmpL_self : ∀ a : List Int, cmpL a a = 0
  | [] => rfl
  | x :: a => by rw [cmpL, if_neg (by omega), if_neg (by omega)]; exact cmpL_self a
theorem cmpL_zero : ∀ {a b : List Int}, cmpL a b = 0 → a = b
  | [], [], _ => rfl
  | [], _ :: _, h => by simp [cmpL] at h
  | _ :: _, [], h => by simp [cmpL] at h
  | x :: a, y :: b, h => by
    rw [cmpL] at h
    by_cases h1 : x < y
    · rw [if_pos h1] at h; omega
    · rw [if_neg h1] at h
      by_cases h2 : y < x
      · rw [if_pos h2] at h; omega
      · rw [if_neg h2] at h
        rw [cmpL_zero h, show x = y by omega]
theorem cmpL_swap : ∀ a b : List Int, cmpL b a = - cmpL a b
  | [], [] => rfl
  | [], _ :: _ => rfl
  | _ :: _, [] => rfl
  | x :: a, y :: b => by
    rw [cmpL, cmpL]
    by_cases h1 : x < y
    · rw [if_neg (by omega), if_pos h1, if_pos h1]; rfl
    · by_cases h2 : y < x
      · rw [if_pos h2, if_neg h1, if_pos h2]
      · rw [if_neg h2, if_neg h1, if_neg h1, if_neg h2]; exact cmpL_swap a b
theorem cmpL_trans : ∀ {a b c : List Int}, 0 < cmpL a b → 0 < cmpL b c → 0 < cmpL a c
  | [], [], _, h, _ => by simp [cmpL] at h
  | [], _ :: _, _, h, _ => by simp [cmpL] at h
  | _ :: _, [], [], _, h => by simp [cmpL] at h
  | _ :: _, [], _ :: _, _, h => by simp [cmpL] at h
  | _ :: _, _ :: _, [], _, _ => by simp [cmpL]
  | x :: a, y :: b, z :: c, h, k => by
    rw [cmpL] at h k ⊢
    by_cases h1 : x < y
    · rw [if_pos h1] at h; omega
    by_cases k1 : y < z
    · rw [if_pos k1] at k; omega
    rw [if_neg h1] at h
    rw [if_neg k1] at k
    rw [if_neg (by omega)]
    by_cases h2 : y < x
    · rw [if_pos (by omega)]; omega
    · rw [if_neg h2] at h
      by_cases k2 : z < y
      · rw [if_pos (by omega)]; omega
      · rw [if_neg k2] at k
        rw [if_neg (by omega)]
        exact cmpL_trans h k
/-- put one batch into a falling list -/
def insB : List Bat → Bat → List Bat
  | [], b => [b]
  | x :: out, b => if 0 < cmpL x.ps b.ps then x :: insB out b else if cmpL x.ps b.ps = 0 then ⟨x.t + b.t, x.ps⟩ :: out else b :: x :: out
theorem insB_gt {x b : Bat} {out : List Bat} (h : 0 < cmpL x.ps b.ps) : insB (x :: out) b = x :: insB out b := by rw [insB, if_pos h]
theorem insB_eq {x b : Bat} {out : List Bat} (h : x.ps = b.ps) : insB (x :: out) b = ⟨x.t + b.t, x.ps⟩ :: out := by
  rw [insB, if_neg (by rw [h, cmpL_self]; omega), if_pos (by rw [h, cmpL_self])]
theorem insB_lt {x b : Bat} {out : List Bat} (h : 0 < cmpL b.ps x.ps) : insB (x :: out) b = b :: x :: out := by
  have := cmpL_swap b.ps x.ps
  rw [insB, if_neg (by omega), if_neg (by omega)]
theorem cmpL_cases (a b : List Int) : 0 < cmpL a b ∨ a = b ∨ 0 < cmpL b a := by
  have := cmpL_swap a b
  rcases Int.lt_trichotomy (cmpL a b) 0 with h | h | h
  · exact .inr (.inr (by omega))
  · exact .inr (.inl (cmpL_zero h))
  · exact .inl h
theorem cmpL_asymm {a b : List Int} (h : 0 < cmpL a b) (k : 0 < cmpL b a) : False := by
  have := cmpL_swap a b; omega
theorem cmpL_irrefl {a : List Int} (h : 0 < cmpL a a) : False := by rw [cmpL_self] at h; omega
theorem insB_comm (a b : Bat) : ∀ out : List Bat, insB (insB out a) b = insB (insB out b) a
  | [] => by
    show insB [a] b = insB [b] a
    rcases cmpL_cases a.ps b.ps with h | h | h
    · rw [insB_gt h, insB_lt h]; rfl
    · rw [insB_eq h, insB_eq h.symm, h, Int.add_comm]
    · rw [insB_lt h, insB_gt h]; rfl
  | x :: out => by
    rcases cmpL_cases x.ps a.ps with h | h | h
    · rcases cmpL_cases x.ps b.ps with k | k | k
      · rw [insB_gt h, insB_gt k, insB_gt k, insB_gt h, insB_comm]
      · rw [insB_gt h, insB_eq k, insB_eq k, insB_gt (x := ⟨x.t + b.t, x.ps⟩) h]
      · rw [insB_gt h, insB_lt k, insB_lt k, insB_gt (cmpL_trans k h), insB_gt h]
    · rcases cmpL_cases x.ps b.ps with k | k | k
      · rw [insB_eq h, insB_gt (x := ⟨x.t + a.t, x.ps⟩) k, insB_gt k, insB_eq h]
      · rw [insB_eq h, insB_eq k, insB_eq (x := ⟨x.t + a.t, x.ps⟩) k, insB_eq (x := ⟨x.t + b.t, x.ps⟩) h, Int.add_right_comm]
      · rw [insB_eq h, insB_lt k, insB_lt (x := ⟨x.t + a.t, x.ps⟩) k, insB_gt (x := b) (b := a) (by rw [← h]; exact k), insB_eq h]
    · rcases cmpL_cases x.ps b.ps with k | k | k
      · rw [insB_lt h, insB_gt (cmpL_trans h k), insB_gt k, insB_lt h]
      · rw [insB_lt h, insB_gt (x := a) (b := b) (by rw [← k]; exact h), insB_eq k, insB_lt (x := ⟨x.t + b.t, x.ps⟩) h]
      · rw [insB_lt h, insB_lt k]
        rcases cmpL_cases a.ps b.ps with m | m | m
        · rw [insB_gt m, insB_lt k, insB_lt m]
        · rw [insB_eq m, insB_eq m.symm, m, Int.add_comm]
        · rw [insB_lt m, insB_gt m, insB_lt h]
def emptyB (ps : List Int) : Bool := ps.all fun p => decide (p = 0)
def foldB (pl : List Bat) : List Bat := (pl.filter fun b => !emptyB b.ps).foldl insB []
theorem foldl_perm {α β : Type} {f : β → α → β} (hf : ∀ b x y, f (f b x) y = f (f b y) x) {l m : List α} (h : l.Perm m) : ∀ b, l.foldl f b = m.foldl f b := by
  induction h with
  | nil => exact fun _ => rfl
  | cons x _ ih => exact fun b => ih (f b x)
  | swap x y l => exact fun b => by rw [List.foldl_cons, List.foldl_cons, List.foldl_cons, List.foldl_cons, hf]
  | trans _ _ h1 h2 => exact fun b => (h1 b).trans (h2 b)
theorem foldB_perm {l m : List Bat} (h : l.Perm m) : foldB l = foldB m := foldl_perm (fun o a b => insB_comm a b o) (h.filter _) []
/-- append, or add to the last one -/
def appB (out : List Bat) (b : Bat) : List Bat :=
  match out.getLast? with
  | some x => if x.ps = b.ps then out.dropLast ++ [⟨x.t + b.t, x.ps⟩] else out ++ [b]
  | none => out ++ [b]
def Fall (out : List Bat) : Prop := out.Pairwise fun x y => 0 < cmpL x.ps y.ps
theorem insB_last : ∀ {out : List Bat} {b : Bat}, Fall out → (∀ x ∈ out, 0 ≤ cmpL x.ps b.ps) → insB out b = appB out b
  | [], b, _, _ => rfl
  | [x], b, _, h => by
    have h1 := h x (List.mem_singleton.2 rfl)
    by_cases h2 : x.ps = b.ps
    · rw [insB_eq h2]
      show _ = if x.ps = b.ps then _ else _
      rw [if_pos h2]; rfl
    · rw [insB_gt (by
        rcases cmpL_cases x.ps b.ps with h3 | h3 | h3
        · exact h3
        · exact absurd h3 h2
        · have := cmpL_swap x.ps b.ps; omega)]
      show _ = if x.ps = b.ps then _ else _
      rw [if_neg h2]; rfl
  | x :: y :: out, b, hF, h => by
    have hF2 := (List.pairwise_cons.1 hF)
    have hy := h y (by simp)
    have hxy := hF2.1 y (by simp)
    have hx : 0 < cmpL x.ps b.ps := by
      rcases cmpL_cases y.ps b.ps with h3 | h3 | h3
      · exact cmpL_trans hxy h3
      · rw [← h3]; exact hxy
      · have := cmpL_swap y.ps b.ps; omega
    have ih := insB_last (out := y :: out) (b := b) hF2.2 fun z hz => h z (List.mem_cons_of_mem _ hz)
    rw [insB_gt hx, ih]
    unfold appB
    rw [List.getLast?_cons_cons]
    cases (y :: out).getLast? with
    | none => rfl
    | some z =>
      show x :: (if z.ps = b.ps then _ else _) = if z.ps = b.ps then _ else _
      by_cases h4 : z.ps = b.ps
      · rw [if_pos h4, if_pos h4]; rfl
      · rw [if_neg h4, if_neg h4]; rfl
theorem insB_keys {k : List Int} : ∀ {out : List Bat} {b : Bat}, (∃ x ∈ insB out b, x.ps = k) → b.ps = k ∨ ∃ x ∈ out, x.ps = k
  | [], b, ⟨x, hx, e⟩ => by
    rw [insB, List.mem_singleton] at hx
    subst hx; exact .inl e
  | y :: out, b, ⟨x, hx, e⟩ => by
    rcases cmpL_cases y.ps b.ps with h | h | h
    · rw [insB_gt h] at hx
      rcases List.mem_cons.1 hx with rfl | hx
      · exact .inr ⟨_, List.mem_cons_self .., e⟩
      · rcases insB_keys ⟨x, hx, e⟩ with h | ⟨z, hz, ez⟩
        · exact .inl h
        · exact .inr ⟨z, List.mem_cons_of_mem _ hz, ez⟩
    · rw [insB_eq h] at hx
      rcases List.mem_cons.1 hx with rfl | hx
      · exact .inr ⟨y, List.mem_cons_self .., e⟩
      · exact .inr ⟨x, List.mem_cons_of_mem _ hx, e⟩
    · rw [insB_lt h] at hx
      rcases List.mem_cons.1 hx with rfl | hx
      · exact .inl e
      · exact .inr ⟨x, hx, e⟩
theorem insB_fall : ∀ {out : List Bat} {b : Bat}, Fall out → Fall (insB out b)
  | [], b, _ => by rw [insB]; exact List.pairwise_singleton ..
  | y :: out, b, hF => by
    obtain ⟨h1, h2⟩ := List.pairwise_cons.1 hF
    rcases cmpL_cases y.ps b.ps with h | h | h
    · rw [insB_gt h]
      refine List.pairwise_cons.2 ⟨fun x hx => ?_, insB_fall h2⟩
      rcases insB_keys ⟨x, hx, rfl⟩ with e | ⟨z, hz, ez⟩
      · rw [← e]; exact h
      · rw [← ez]; exact h1 z hz
    · rw [insB_eq h]; exact List.pairwise_cons.2 ⟨h1, h2⟩
    · rw [insB_lt h]
      refine List.pairwise_cons.2 ⟨fun x hx => ?_, hF⟩
      rcases List.mem_cons.1 hx with rfl | hx
      · exact h
      · exact cmpL_trans h (h1 x hx)
theorem foldl_fall {out : List Bat} (hF : Fall out) : ∀ l : List Bat, Fall (l.foldl insB out)
  | [] => hF
  | b :: l => foldl_fall (insB_fall hF) l
theorem foldl_keys {k : List Int} : ∀ {l out : List Bat}, (∃ x ∈ l.foldl insB out, x.ps = k) → (∃ x ∈ l, x.ps = k) ∨ ∃ x ∈ out, x.ps = k
  | [], _, h => .inr h
  | b :: l, out, h => by
    rcases foldl_keys (l := l) (out := insB out b) h with ⟨x, hx, e⟩ | h
    · exact .inl ⟨x, List.mem_cons_of_mem _ hx, e⟩
    · rcases insB_keys h with e | h
      · exact .inl ⟨b, List.mem_cons_self .., e⟩
      · exact .inr h
/-- the fold over the first i batches of a falling plan, step by step -/
theorem foldB_snoc {s : List Bat} (hs : s.Pairwise fun x y => 0 ≤ cmpL x.ps y.ps) {i : Nat} {b : Bat} (h : s[i]? = some b) :
    foldB (s.take (i + 1)) = if emptyB b.ps then foldB (s.take i) else appB (foldB (s.take i)) b := by
  unfold foldB
  rw [List.take_add_one, h, Option.toList_some, List.filter_append, List.foldl_append]
  cases e : emptyB b.ps with
  | true => simp [List.filter, e]
  | false =>
    rw [show [b].filter (fun b => !emptyB b.ps) = [b] by simp [List.filter, e]]
    show insB _ b = _
    rw [if_neg (by simp)]
    refine insB_last (foldl_fall List.Pairwise.nil _) fun x hx => ?_
    rcases foldl_keys ⟨x, hx, rfl⟩ with ⟨z, hz, ez⟩ | ⟨z, hz, _⟩
    · rw [← ez]
      obtain ⟨q, hq⟩ := List.getElem?_of_mem (List.mem_filter.1 hz).1
      have hqi : q < i := by
        have := (List.getElem?_eq_some_iff.1 hq).1
        simp at this; omega
      rw [List.getElem?_take, if_pos hqi] at hq
      obtain ⟨g1, g2⟩ := List.getElem?_eq_some_iff.1 hq
      obtain ⟨g3, g4⟩ := List.getElem?_eq_some_iff.1 h
      have := List.pairwise_iff_getElem.1 hs q i g1 g3 hqi
      rw [g2, g4] at this; exact this
    · cases hz
theorem foldB_next {pl : List Bat} {i : Nat} {b : Bat} (h : pl[i]? = some b) : foldB (pl.take (i + 1)) = if emptyB b.ps then foldB (pl.take i) else insB (foldB (pl.take i)) b := by
  unfold foldB
  rw [List.take_add_one, h, Option.toList_some, List.filter_append, List.foldl_append]
  cases e : emptyB b.ps with
  | true => simp [List.filter, e]
  | false => simp [List.filter, e]
end Go.Proofs.YtkcfalehebacpaaDoor

/- Lists of counts: Compare, Equal, ContainsFunc, sameInts, empty, above: the walks. -/
namespace Go.Proofs.YtkcfalehebacpaaDoor
open Go Go.RowKit
theorem isNaN_any (a : Int) (w : World) : Calls Tryd.prog 58 #[.int .i64 a] w fun e w' => e = .returned (.bool false) ∧ w = w' := by
  go_enter Tryd.func58, Tryd.ntmps58
  go_wp2
  go_ret
  exact ⟨by simp, rfl⟩
def cmpN (a b : Int) : Int := if a < b then -1 else if b < a then 1 else 0
theorem compare_any (a b : Int) (w : World) : Calls Tryd.prog 48 #[.int .i64 a, .int .i64 b] w fun e w' => e = .returned (.int .i64 (cmpN a b)) ∧ w = w' := by
  have HC : Hid (cmpN a b = if a < b then -1 else if b < a then 1 else 0) := rfl
  by_cases h1 : a < b
  · go_enter Tryd.func48, Tryd.ntmps48
    go_wp2_with fail
    refine (isNaN_any _ _).mono ?_
    rintro e W' ⟨rfl, rfl⟩
    go_wp2_with fail
    refine (isNaN_any _ _).mono ?_
    rintro e W' ⟨rfl, rfl⟩
    go_wp2_with fail
    go_ret
    exact ⟨ret_int (by rw [HC.out, if_pos h1]), rfl⟩
  · by_cases h2 : b < a
    · go_enter Tryd.func48, Tryd.ntmps48
      go_wp2_with fail
      refine (isNaN_any _ _).mono ?_
      rintro e W' ⟨rfl, rfl⟩
      go_wp2_with fail
      refine (isNaN_any _ _).mono ?_
      rintro e W' ⟨rfl, rfl⟩
      go_wp2_with fail
      go_ret
      exact ⟨ret_int (by rw [HC.out, if_neg (by omega), if_pos h2]), rfl⟩
    · go_enter Tryd.func48, Tryd.ntmps48
      go_wp2_with fail
      refine (isNaN_any _ _).mono ?_
      rintro e W' ⟨rfl, rfl⟩
      go_wp2_with fail
      refine (isNaN_any _ _).mono ?_
      rintro e W' ⟨rfl, rfl⟩
      go_wp2_with fail
      go_ret
      exact ⟨ret_int (by rw [HC.out, if_neg (by omega), if_neg (by omega)]), rfl⟩
theorem compare_is (a b : Int) (w : World) {v : Int} (h : cmpN a b = v) : Calls Tryd.prog 48 #[.int .i64 a, .int .i64 b] w fun e w' => e = .returned (.int .i64 v) ∧ w = w' := by
  subst h; exact compare_any a b w
theorem cmpL_drop {a b : List Int} {i : Nat} {x y : Int} (hx : a[i]? = some x) (hy : b[i]? = some y) : cmpL (a.drop i) (b.drop i) = if cmpN x y = 0 then cmpL (a.drop (i + 1)) (b.drop (i + 1)) else cmpN x y := by
  obtain ⟨h1, h2⟩ := List.getElem?_eq_some_iff.1 hx
  obtain ⟨h3, h4⟩ := List.getElem?_eq_some_iff.1 hy
  rw [List.drop_eq_getElem_cons h1, List.drop_eq_getElem_cons h3, h2, h4, cmpL]
  unfold cmpN
  by_cases k1 : x < y
  · rw [if_pos k1, if_pos k1]; rfl
  · by_cases k2 : y < x
    · rw [if_neg k1, if_pos k2, if_neg k1, if_pos k2]; rfl
    · rw [if_neg k1, if_neg k2, if_neg k1, if_neg k2, if_pos rfl]
theorem cmpL_more {a b : List Int} {i : Nat} (ha : i < a.length) (hb : ¬ i < b.length) : cmpL (a.drop i) (b.drop i) = 1 := by
  rw [List.drop_eq_getElem_cons ha, show b.drop i = [] from List.drop_of_length_le (by omega)]; rfl
set_option maxRecDepth 100000 in
set_option maxHeartbeats 1000000 in
theorem compareL_any (A : Option Addr) (cA : Nat) (a : List Int) (B : Option Addr) (cB : Nat) (b : List Int) (w : World) (hA : Slc intEnc 1 w w.heap.size A a) (hB : Slc intEnc 1 w w.heap.size B b) (hl : a.length ≤ 100000) (hl2 : b.length ≤ 100000) :
    Calls Tryd.prog 35 #[.slice A a.length cA, .slice B b.length cB] w fun e w' => e = .returned (.int .i64 (cmpL a b)) ∧ w = w' := by
  go_enter Tryd.func35, Tryd.ntmps35
  go_wp2_with fail
  go_loopw [11] (fun y W => ∃ i : Nat, y = .int .i64 i ∧ i ≤ a.length ∧ i ≤ b.length ∧ Hid (cmpL a b = cmpL (a.drop i) (b.drop i)) ∧ w = W) (fun y _ => a.length - (intOf y).toNat)
  case atStart => exact ⟨0, rfl, Nat.zero_le _, Nat.zero_le _, hide rfl, rfl⟩
  case round =>
    obtain ⟨i, rfl, hi, hj, HC, rfl⟩ := hrel
    by_cases hlt : i < a.length
    · obtain ⟨x, b1, off1, hx, hA1, _, d0⟩ := ints_at' hA hlt
      have hii : (i : Int) < (a.length : Int) := by omega
      by_cases hlb : i < b.length
      · obtain ⟨y, b2, off2, hy, hB1, _, d1⟩ := ints_at' hB hlb
        have hjj : (i : Int) < (b.length : Int) := by omega
        have HD := hide (cmpL_drop hx hy)
        obtain ⟨v, hv⟩ : ∃ v, cmpN x y = v := ⟨_, rfl⟩
        rw [hv] at HD
        have HV := hide hv
        clear hx hy hv
        subst hA1 hB1
        go_wp2_with fail
        refine (compare_is x y _ HV.out).mono ?_
        rintro e w' ⟨rfl, rfl⟩
        by_cases h0 : v = 0
        · have hne : (v != 0) = false := by simp [h0]
          have HC2 : Hid (cmpL a b = cmpL (a.drop (i + 1)) (b.drop (i + 1))) := by show _ = _; rw [HC.out, HD.out, if_pos h0]
          clear h0
          go_wp2_with fail
          go_roundw
          case rel => exact ⟨i + 1, by go_num, by omega, by omega, HC2, trivial⟩
          case measure => simp [intOf]; omega
        · have hne : (v != 0) = true := by simp [h0]
          have HC2 : Hid (cmpL a b = v) := by show _ = _; rw [HC.out, HD.out, if_neg h0]
          clear h0
          go_wp2_with fail
          go_ret
          exact ⟨ret_int HC2.out.symm, rfl⟩
      · have hjj : ¬ (i : Int) < (b.length : Int) := by omega
        have HC2 : Hid (cmpL a b = 1) := by show _ = _; rw [HC.out, cmpL_more hlt hlb]
        clear hx
        subst hA1
        go_wp2_with fail
        go_ret
        exact ⟨ret_int HC2.out.symm, rfl⟩
    · obtain rfl : i = a.length := by omega
      by_cases hlb : (a.length : Int) < (b.length : Int)
      · have HC2 : Hid (cmpL a b = -1) := by
          show _ = _
          rw [HC.out, List.drop_length, List.drop_eq_getElem_cons (show a.length < b.length by omega)]; rfl
        go_wp2_with fail
        go_ret
        exact ⟨ret_int HC2.out.symm, rfl⟩
      · have HC2 : Hid (cmpL a b = 0) := by
          show _ = _
          rw [HC.out, List.drop_length, List.drop_of_length_le (by omega)]; rfl
        go_wp2_with fail
        go_ret
        exact ⟨ret_int HC2.out.symm, rfl⟩
def eqL (a b : List Int) : Bool := decide (a = b)
theorem eqL_drop {a b : List Int} {i : Nat} {x y : Int} (hx : a[i]? = some x) (hy : b[i]? = some y) : eqL (a.drop i) (b.drop i) = if x = y then eqL (a.drop (i + 1)) (b.drop (i + 1)) else false := by
  obtain ⟨h1, h2⟩ := List.getElem?_eq_some_iff.1 hx
  obtain ⟨h3, h4⟩ := List.getElem?_eq_some_iff.1 hy
  unfold eqL
  rw [List.drop_eq_getElem_cons h1, List.drop_eq_getElem_cons h3, h2, h4]
  by_cases h : x = y
  · rw [if_pos h, h]; simp
  · rw [if_neg h]; simp [h]
set_option maxRecDepth 100000 in
set_option maxHeartbeats 1000000 in
theorem equalL_any (A : Option Addr) (cA : Nat) (a : List Int) (B : Option Addr) (cB : Nat) (b : List Int) (w : World) (hA : Slc intEnc 1 w w.heap.size A a) (hB : Slc intEnc 1 w w.heap.size B b) (hl : a.length ≤ 100000) :
    Calls Tryd.prog 38 #[.slice A a.length cA, .slice B b.length cB] w fun e w' => e = .returned (.bool (eqL a b)) ∧ Below w.heap.size w w' := by
  have G : ∀ W, Below w.heap.size w W → Calls Tryd.prog 38 #[.slice A a.length cA, .slice B b.length cB] W fun e w' => e = .returned (.bool (eqL a b)) ∧ Below w.heap.size w w' := by
    intro W hBl
    by_cases hll : a.length = b.length
    · have HLL := hide hll
      have hne : ((a.length : Int) != (b.length : Int)) = false := by simp [hll]
      clear hll
      go_enter Tryd.func38, Tryd.ntmps38
      go_wp2_with fail
      go_loopw [13] (fun y W => ∃ (i : Nat), y = .int .i64 i ∧ i ≤ a.length ∧ Hid (eqL a b = eqL (a.drop i) (b.drop i)) ∧ Below w.heap.size w W) (fun y _ => a.length - (intOf y).toNat)
      case atStart => exact ⟨0, rfl, Nat.zero_le _, hide rfl, hBl⟩
      case round =>
        clear hBl
        obtain ⟨W, rfl⟩ : ∃ W : World, W = wr := ⟨_, rfl⟩
        obtain ⟨i, rfl, hi, HC, hBl⟩ := hrel
        by_cases hlt : i < a.length
        · obtain ⟨x, b1, off1, hx, hA1, _, d0⟩ := ints_at' (hA.below hBl) hlt
          obtain ⟨y, b2, off2, hy, hB1, _, d1⟩ := ints_at' (hB.below hBl) (show i < b.length by rw [← HLL.out]; exact hlt)
          have hii : (i : Int) < (a.length : Int) := by omega
          have hjj : (i : Int) < (b.length : Int) := by have := HLL.out; omega
          have HD := hide (eqL_drop hx hy)
          clear hx hy
          subst hA1 hB1
          by_cases h0 : x = y
          · have hn2 : (x != y) = false := by simp [h0]
            have HC2 : Hid (eqL a b = eqL (a.drop (i + 1)) (b.drop (i + 1))) := by show _ = _; rw [HC.out, HD.out, if_pos h0]
            clear h0
            go_wp2_with fail
            refine wp_region_quiet (C := fun w' => ∃ u : Since W, w' = u.w) (by kernel_rfl) (by kernel_rfl) (Since.start W) ?_
            dsimp only
            have y_d0 := Since.cell d0
            have y_d1 := Since.cell d1
            repeat (go_big_quiet_step ((fail)))
            refine wpQuiet_nil ?_
            rintro W ⟨⟨_, hb⟩, rfl⟩
            try dsimp only at hb ⊢
            replace d0 : W.cell? _ = _ := y_d0 ⟨W, hb⟩
            replace d1 : W.cell? _ = _ := y_d1 ⟨W, hb⟩
            clear y_d0 y_d1
            replace hBl := hBl.trans (hb.mono hBl.size)
            clear hb
            go_wp2_with fail
            go_roundw
            case rel => exact ⟨i + 1, by go_num, by omega, HC2, hBl⟩
            case measure => simp [intOf]; omega
          · have hn2 : (x != y) = true := by simp [h0]
            have HC2 : Hid (eqL a b = false) := by show _ = _; rw [HC.out, HD.out, if_neg h0]
            clear h0
            go_wp2_with fail
            refine wp_region_quiet (C := fun w' => ∃ u : Since W, w' = u.w) (by kernel_rfl) (by kernel_rfl) (Since.start W) ?_
            dsimp only
            have y_d0 := Since.cell d0
            have y_d1 := Since.cell d1
            repeat (go_big_quiet_step ((fail)))
            refine wpQuiet_nil ?_
            rintro W ⟨⟨_, hb⟩, rfl⟩
            try dsimp only at hb ⊢
            replace d0 : W.cell? _ = _ := y_d0 ⟨W, hb⟩
            replace d1 : W.cell? _ = _ := y_d1 ⟨W, hb⟩
            clear y_d0 y_d1
            replace hBl := hBl.trans (hb.mono hBl.size)
            clear hb
            go_wp2_with fail
            go_ret
            exact ⟨ret_bool HC2.out.symm, hBl⟩
        · obtain rfl : i = a.length := by omega
          have HC2 : Hid (eqL a b = true) := by
            show _ = _
            rw [HC.out, List.drop_length, List.drop_of_length_le (by rw [HLL.out]; exact Nat.le_refl _)]; rfl
          go_wp2_with fail
          go_ret
          exact ⟨ret_bool HC2.out.symm, hBl⟩
    · have HC2 : Hid (eqL a b = false) := by
        show _ = _
        unfold eqL
        exact decide_eq_false fun h => hll (by rw [h])
      have hne : ((a.length : Int) != (b.length : Int)) = true := by simp; omega
      clear hll
      go_enter Tryd.func38, Tryd.ntmps38
      go_wp2_with fail
      go_ret
      exact ⟨ret_bool HC2.out.symm, hBl⟩
  exact G w (Below.refl _ _)
theorem emptyB_drop {ps : List Int} {i : Nat} {x : Int} (h : ps[i]? = some x) : emptyB (ps.drop i) = (decide (x = 0) && emptyB (ps.drop (i + 1))) := by
  unfold emptyB; exact all_drop h
end Go.Proofs.YtkcfalehebacpaaDoor

/- above, ContainsFunc of counts and batches, samePlan, Clone of a plan: the walks. -/
namespace Go.Proofs.YtkcfalehebacpaaDoor
open Go Go.RowKit
/-- no piece is asked for -/
def npos (x : Int) : Bool := !decide (0 < x)
theorem pos1_any (x : Int) (w : World) : Calls Tryd.prog 37 #[.int .i64 x] w fun e w' => e = .returned (.bool (!npos x)) ∧ Below w.heap.size w w' := by
  have HV : Hid (npos x = !decide (0 < x)) := rfl
  by_cases h : 0 < x
  · have HV2 : Hid ((!npos x) = true) := by show _ = _; rw [HV.out, decide_eq_true h]; rfl
    go_enter Tryd.func37, Tryd.ntmps37
    go_wp2_with fail
    go_ret
    exact ⟨ret_bool HV2.out.symm, Below.refl _ _⟩
  · have HV2 : Hid ((!npos x) = false) := by show _ = _; rw [HV.out, decide_eq_false h]; rfl
    go_enter Tryd.func37, Tryd.ntmps37
    go_wp2_with fail
    go_ret
    exact ⟨ret_bool HV2.out.symm, Below.refl _ _⟩
def IxPost (bad : Bool) (w : World) (e : Ending) (w' : World) : Prop := ∃ r : Int, e = .returned (.int .i64 r) ∧ decide (0 ≤ r) = bad ∧ Below w.heap.size w w'
theorem any_drop {α : Type} {f : α → Bool} {l : List α} {k : Nat} {x : α} (h : l[k]? = some x) : (l.drop k).any f = (f x || (l.drop (k + 1)).any f) := by
  obtain ⟨hk, he⟩ := List.getElem?_eq_some_iff.1 h
  rw [List.drop_eq_getElem_cons hk, he]; rfl
set_option maxHeartbeats 1000000 in
theorem indexPos_any (A : Option Addr) (c : Nat) (l : List Int) (w : World) (hlen : l.length ≤ 100000) (hS : Slc intEnc 1 w w.heap.size A l) :
    Calls Tryd.prog 49 #[.slice A l.length c, .func (.func 37) #[] #[]] w (IxPost (l.any fun x => !npos x) w) := by
  go_enter Tryd.func49, Tryd.ntmps49
  go_wp2_with fail
  go_loopw [8] (fun i wr => ∃ k : Nat, k ≤ l.length ∧ i = .int .i64 k ∧ Hid ((l.any fun x => !npos x) = (l.drop k).any (fun x => !npos x)) ∧ Below w.heap.size w wr) (fun i _ => l.length - (intOf i).toNat)
  case atStart => exact ⟨0, Nat.zero_le _, rfl, hide rfl, Below.refl _ _⟩
  case round =>
    obtain ⟨k, hk, rfl, HS, hbel⟩ := hrel
    by_cases hlt : k < l.length
    · obtain ⟨x, b, off, hx, hA, hb, d0⟩ := ints_at' (hS.below hbel) hlt
      have hki : (k : Int) < (l.length : Int) := by omega
      subst hA
      have HX := hide hx
      clear hx
      go_wp2_with fail
      refine (pos1_any x _).mono ?_
      rintro e w2 ⟨rfl, hb2⟩
      clear d0
      cases hok : npos x
      · go_wp2_with fail
        go_ret
        exact ⟨k, rfl, by rw [HS.out, any_drop HX.out, hok]; simp, hbel.trans (hb2.mono hbel.size)⟩
      · go_wp2_with fail
        go_roundw
        case rel => exact ⟨k + 1, by omega, by go_num, hide (by rw [HS.out, any_drop HX.out, hok]; rfl), hbel.trans (hb2.mono hbel.size)⟩
        case measure => simp [intOf]; omega
    · obtain rfl : k = l.length := by omega
      go_wp2_with fail
      go_ret
      exact ⟨-1, rfl, by rw [HS.out, List.drop_length]; rfl, hbel⟩
theorem containsPos_any (A : Option Addr) (c : Nat) (l : List Int) (w : World) (hlen : l.length ≤ 100000) (hS : Slc intEnc 1 w w.heap.size A l) :
    Calls Tryd.prog 36 #[.slice A l.length c, .func (.func 37) #[] #[]] w fun e w' => e = .returned (.bool (l.any fun x => !npos x)) ∧ Below w.heap.size w w' := by
  go_enter Tryd.func36, Tryd.ntmps36
  go_wp2_with fail
  refine (indexPos_any A c l _ hlen hS).mono ?_
  rintro e w2 ⟨r, rfl, hr, hb2⟩
  have HR := hide hr
  clear hr
  go_wp2_with fail
  go_ret
  exact ⟨ret_bool HR.out, hb2⟩
theorem pos_empty {l : List Int} (h : ∀ p ∈ l, 0 ≤ p) : (l.any fun x => !npos x) = !emptyB l := by
  unfold emptyB npos
  rw [Bool.eq_iff_iff]
  simp only [Bool.not_not, List.any_eq_true, decide_eq_true_eq, Bool.not_eq_true', List.all_eq_false]
  constructor
  · rintro ⟨x, hx, h0⟩; exact ⟨x, hx, by omega⟩
  · rintro ⟨x, hx, h0⟩; exact ⟨x, hx, by have := h x hx; omega⟩
set_option maxRecDepth 100000 in
theorem cloneBt_any (A : Option Addr) (c : Nat) (l : List Bt) (w : World) (hl : l.length ≤ 100000) (hS : Slc Bt.enc 2 w w.heap.size A l) :
    Calls Tryd.prog 32 #[.slice A l.length c] w (ClonePost 43 Bt.enc 2 l w) := by
  have q22 : ∀ (w : World) (a : Option Addr) (n c n' c' : Nat), (binOp .eql 26 (.slice a n c) (.slice none n' c')).run Tryd.prog w = .ok (.bool a.isNone) w := fun w a n c n' c' => Lib.run_eql_slice_nil w _ _ a n c n' c' Tryd.underlying26
  cases A with
  | none =>
    have hn : l = [] := by
      cases l with
      | nil => rfl
      | cons x r => obtain ⟨b, off, h, _⟩ := hS 0 x rfl; cases h
    subst hn
    go_enter Tryd.func32, Tryd.ntmps32
    go_wp2_with fail
    go_ret
    exact ⟨none, 0, rfl, Below.refl _ _, Slc.nil_, fun h => absurd rfl h⟩
  | some a =>
    have HS := hide hS
    have hsz : (w.alloc (.cells #[] 43)).heap.size = w.heap.size + 1 := by simp
    have HSZ := hide hsz
    have HB0 := hide ((Below.refl w.heap.size w).alloc (Nat.le_refl _) (.cells #[] 43))
    clear hS hsz
    go_enter Tryd.func32, Tryd.ntmps32
    go_wp2_with (at_builtin; refine wpList_app_full (xs := []) (ys := l) (B1 := 0) (B2 := w.heap.size) _ _ rfl rfl et_batch rfl rfl Slc.nil_ rfl (HS.out.below HB0.out) rfl (Nat.zero_le _) (fun _ => rfl) (fun x v hv => by simp [Bt.enc] at hv; rcases hv with rfl | rfl <;> rfl) (by omega) ?_; intro A' c' W' hb hS' hc' hO')
    go_ret
    have hb2 := HB0.out.trans (hb.mono HB0.out.size)
    refine ⟨A', c', by simp, hb2, by simpa using hS', fun hne => ?_⟩
    have h := (hO' hne).mono_base (b' := w.heap.size) HB0.out.size
    simpa using h
end Go.Proofs.YtkcfalehebacpaaDoor

/- Check of the program: the walk. -/
namespace Go.Proofs.YtkcfalehebacpaaDoor
open Go Go.RowKit
theorem shaped_n (L K : Int) (A : Option Addr) (c : Nat) (l : List Ask) (AB : Option Addr) (cB : Nat) (bs : List Bt) (pl : List Bat) (w : World) (hP : PlanAt w AB bs pl) (hl : pl.length ≤ 100000) {v : Bool} (h : shapedP l.length pl = v) :
    Calls Tryd.prog 42 #[.agg #[.int .i64 L, .int .i64 K, .slice A l.length c], .slice AB pl.length cB] w fun e w' => e = .returned (.bool v) ∧ Below w.heap.size w w' := by
  rw [← hP.len]
  exact shaped_is L K A c l AB cB bs w hP.row (by rw [hP.len]; exact hl) (by rw [shapedB_plan hP]; exact h)
theorem kfits_n (L K : Int) (A : Option Addr) (c : Nat) (l : List Ask) (AP : Option Addr) (cP : Nat) (ps : List Int) (w : World) (hS : Slc Ask.enc 2 w w.heap.size A l) (hP : Slc intEnc 1 w w.heap.size AP ps) (hv : VK L K l) (hpl : ps.length = l.length) {v : Bool} (h : fitsB L K l ps = v) :
    Calls Tryd.prog 43 #[.agg #[.int .i64 L, .int .i64 K, .slice A l.length c], .slice AP ps.length cP] w fun e w' => e = .returned (.bool v) ∧ Below w.heap.size w w' := by
  subst h; exact kfits_any L K A c l AP cP ps w hS hP hv hpl
set_option maxRecDepth 100000 in
set_option maxHeartbeats 4000000 in
theorem check_any (L K : Int) (A : Option Addr) (c : Nat) (l : List Ask) (AB : Option Addr) (cB : Nat) (bs : List Bt) (pl : List Bat) (w : World) (hS : Slc Ask.enc 2 w w.heap.size A l) (hP : PlanAt w AB bs pl) (hl : pl.length ≤ 100000) :
    Calls Tryd.prog 21 #[.agg #[.int .i64 L, .int .i64 K, .slice A l.length c], .slice AB pl.length cB] w fun e w' => e = .returned (.int .i64 (chkE L K l pl)) ∧ Below w.heap.size w w' := by
  have HD : Hid (chkE L K l pl = if validK L K l then if shapedP l.length pl then if pl.all (fun b => fitsB L K l b.ps) then if madeB pl l then 0 else 42 else 41 else 2 else 40) := rfl
  have hk := Blk.new w 24 #[.int .i64 L, .int .i64 K, .slice A l.length c]
  have hB := (Below.refl w.heap.size w).alloc (Nat.le_refl _) (.cells #[.int .i64 L, .int .i64 K, .slice A l.length c] 24)
  go_enter Tryd.func21, Tryd.ntmps21
  go_upto_region 1 with fail
  generalize w.alloc (.cells #[.int .i64 L, .int .i64 K, .slice A l.length c] 24) = W at *
  have c0 := hk.cell_ 0 rfl
  have c1 := hk.cell_ 1 rfl
  have c2 := hk.cell_ 2 rfl
  cases hv : validK L K l
  case false =>
    have HV := hide hv
    have HE : Hid (chkE L K l pl = 40) := by show _ = _; rw [HD.out, hv]; rfl
    clear hv
    go_wp2_with fail
    refine (kvalidB_is L K A c l _ (hS.on hB) HV.out).mono ?_
    rintro e W ⟨rfl, hb⟩
    clear c0 c1 c2
    replace hk := hk.below hb hk.lt
    replace hB := hB.trans (hb.mono hB.size)
    clear hb
    have c0 := hk.cell_ 0 rfl
    have c1 := hk.cell_ 1 rfl
    have c2 := hk.cell_ 2 rfl
    go_wp2_with fail
    go_ret
    exact ⟨by rw [HE.out]; rfl, hB⟩
  have HV := hide hv
  clear hv
  go_wp2_with fail
  refine (kvalidB_is L K A c l _ (hS.on hB) HV.out).mono ?_
  rintro e W ⟨rfl, hb⟩
  clear c0 c1 c2
  replace hk := hk.below hb hk.lt
  replace hB := hB.trans (hb.mono hB.size)
  clear hb
  have c0 := hk.cell_ 0 rfl
  have c1 := hk.cell_ 1 rfl
  have c2 := hk.cell_ 2 rfl
  cases hs : shapedP l.length pl
  case false =>
    have HSH := hide hs
    have HE : Hid (chkE L K l pl = 2) := by show _ = _; rw [HD.out, HV.out, hs]; rfl
    clear hs
    go_wp2_with fail
    refine (shaped_n L K A c l AB cB bs pl _ (hP.on hB) hl HSH.out).mono ?_
    rintro e W ⟨rfl, hb⟩
    clear c0 c1 c2
    replace hk := hk.below hb hk.lt
    replace hB := hB.trans (hb.mono hB.size)
    clear hb
    have c0 := hk.cell_ 0 rfl
    have c1 := hk.cell_ 1 rfl
    have c2 := hk.cell_ 2 rfl
    go_wp2_with fail
    go_ret
    exact ⟨by rw [HE.out]; rfl, hB⟩
  have HSH := hide hs
  have hpl := shaped_few hs
  clear hs
  go_wp2_with fail
  refine (shaped_n L K A c l AB cB bs pl _ (hP.on hB) hl HSH.out).mono ?_
  rintro e W ⟨rfl, hb⟩
  clear c0 c1 c2
  replace hk := hk.below hb hk.lt
  replace hB := hB.trans (hb.mono hB.size)
  clear hb
  have c0 := hk.cell_ 0 rfl
  have c1 := hk.cell_ 1 rfl
  have c2 := hk.cell_ 2 rfl
  have HE0 : Hid (chkE L K l pl = if pl.all (fun b => fitsB L K l b.ps) then if madeB pl l then 0 else 42 else 41) := by show _ = _; rw [HD.out, HV.out, HSH.out]; rfl
  clear HD
  have HVK := hide (validK_iff.1 HV.out)
  have hl8 : l.length ≤ 8 := HVK.out.few
  have hmk := mk_zeros l.length (by omega)
  have hwg := hk.lt
  have q_c0 := (hk.alloc (.cells (intJ (List.replicate l.length 0) []) 3)).cell_ 0 rfl
  have q_c1 := (hk.alloc (.cells (intJ (List.replicate l.length 0) []) 3)).cell_ 1 rfl
  have q_c2 := (hk.alloc (.cells (intJ (List.replicate l.length 0) []) 3)).cell_ 2 rfl
  go_upto_region 6 with fail
  clear q_c0 q_c1 q_c2
  clear c0 c1 c2
  have hM := Blk.new W 3 (intJ (List.replicate l.length 0) [])
  replace hk := hk.alloc (.cells (intJ (List.replicate l.length 0) []) 3)
  have hsz_g : (W.alloc (.cells (intJ (List.replicate l.length 0) []) 3)).heap.size = W.heap.size + 1 := by simp
  have gge := hB.size
  replace hB := hB.alloc hB.size (.cells (intJ (List.replicate l.length 0) []) 3)
  generalize hg : W.heap.size = g at *
  generalize W.alloc (.cells (intJ (List.replicate l.length 0) []) 3) = W at *
  clear hg
  have c0 := hk.cell_ 0 rfl
  have c1 := hk.cell_ 1 rfl
  have c2 := hk.cell_ 2 rfl
  clear hmk gge
  go_wp2_with fail
  clear c0 c1 c2
  go_loopw [27] (fun y W => ∃ (i : Nat) (M : List Int), y = .int .i64 i ∧ i ≤ pl.length ∧ M.length = l.length ∧ Hid ((∀ (j : Nat) v, M[j]? = some v → v = totI (pl.take i) j) ∧ (∀ (j : Nat) b, j < i → pl[j]? = some b → fitsB L K l b.ps = true)) ∧ Blk W w.heap.size 24 #[.int .i64 L, .int .i64 K, .slice A l.length c] ∧ Blk W g 3 (intJ M []) ∧ Below w.heap.size w W) (fun y _ => pl.length - (intOf y).toNat)
  case atStart => exact ⟨0, List.replicate l.length 0, rfl, Nat.zero_le _, by simp, hide ⟨fun j v h => by rw [List.getElem?_replicate] at h; split at h <;> simp at h; rw [← h]; rfl, fun j b hj => absurd hj (Nat.not_lt_zero _)⟩, hk, hM, hB⟩
  case round =>
    clear hk hM hB
    obtain ⟨W, rfl⟩ : ∃ W : World, W = wr := ⟨_, rfl⟩
    obtain ⟨i, M, rfl, hi, hMl, HI, hk, hM, hB⟩ := hrel
    by_cases hlt : i < pl.length
    · obtain ⟨p, b, off, A', c', hp, hA, hbl, d0, d1, hQ0⟩ := plan_at hP hlt
      replace d0 := (hB.cell (p := ⟨b, off + i * 2, none⟩) hbl).trans d0
      replace d1 := (hB.cell (p := ⟨b, off + i * 2 + 1, none⟩) hbl).trans d1
      have hii : (i : Int) < (pl.length : Int) := by omega
      obtain ⟨hpt, hpn⟩ := shaped_at HSH.out hp
      have HPN := hide hpn
      have HX := hide hp
      have HTL := hide (totI_take_low (n := l.length) (L := L) (K := K) (l := l) HSH.out HI.out.2)
      clear hp hpn
      subst hA
      have c0 := hk.cell_ 0 rfl
      have c1 := hk.cell_ 1 rfl
      have c2 := hk.cell_ 2 rfl
      have hbxg := hM.lt
      have q_c0 := (hk.alloc (.cells #[.int .i64 p.t, .slice A' p.ps.length c'] 43)).cell_ 0 rfl
      have q_c1 := (hk.alloc (.cells #[.int .i64 p.t, .slice A' p.ps.length c'] 43)).cell_ 1 rfl
      have q_c2 := (hk.alloc (.cells #[.int .i64 p.t, .slice A' p.ps.length c'] 43)).cell_ 2 rfl
      go_upto_region 9 with fail
      clear q_c0 q_c1 q_c2
      clear c0 c1 c2
      have hm := Blk.new W 43 #[.int .i64 p.t, .slice A' p.ps.length c']
      replace hk := hk.alloc (.cells #[.int .i64 p.t, .slice A' p.ps.length c'] 43)
      replace hM := hM.alloc (.cells #[.int .i64 p.t, .slice A' p.ps.length c'] 43)
      have hsz_bx : (W.alloc (.cells #[.int .i64 p.t, .slice A' p.ps.length c'] 43)).heap.size = W.heap.size + 1 := by simp
      have bxge := hB.size
      replace hB := hB.alloc hB.size (.cells #[.int .i64 p.t, .slice A' p.ps.length c'] 43)
      generalize hbx : W.heap.size = bx at *
      generalize W.alloc (.cells #[.int .i64 p.t, .slice A' p.ps.length c'] 43) = W at *
      clear hbx
      have c0 := hk.cell_ 0 rfl
      have c1 := hk.cell_ 1 rfl
      have c2 := hk.cell_ 2 rfl
      have m0 := hm.cell_ 0 rfl
      have m1 := hm.cell_ 1 rfl
      clear d0 d1
      cases q1 : fitsB L K l p.ps
      case false =>
        have HE : Hid (chkE L K l pl = 41) := by
          show _ = _
          rw [HE0.out, if_neg]
          intro h
          have := all_at.1 h i p HX.out
          rw [q1] at this; exact absurd this (by simp)
        have HQ := hide q1
        clear q1
        go_wp2_with fail
        refine (kfits_n L K A c l A' c' p.ps _ (hS.on hB) (hQ0.on hB) HVK.out HPN.out HQ.out).mono ?_
        rintro e W ⟨rfl, hb⟩
        clear c0 c1 c2 m0 m1
        replace hk := hk.below hb hk.lt
        replace hM := hM.below hb hM.lt
        replace hm := hm.below hb hm.lt
        replace hB := hB.trans (hb.mono hB.size)
        clear hb
        have c0 := hk.cell_ 0 rfl
        have c1 := hk.cell_ 1 rfl
        have c2 := hk.cell_ 2 rfl
        have m0 := hm.cell_ 0 rfl
        have m1 := hm.cell_ 1 rfl
        go_wp2_with fail
        go_ret
        exact ⟨by rw [HE.out]; rfl, hB⟩
      have HQ := hide q1
      have HPO := hide (fits_ok q1)
      clear q1
      go_wp2_with fail
      refine (kfits_n L K A c l A' c' p.ps _ (hS.on hB) (hQ0.on hB) HVK.out HPN.out HQ.out).mono ?_
      rintro e W ⟨rfl, hb⟩
      clear c0 c1 c2 m0 m1
      replace hk := hk.below hb hk.lt
      replace hM := hM.below hb hM.lt
      replace hm := hm.below hb hm.lt
      replace hB := hB.trans (hb.mono hB.size)
      clear hb
      have c0 := hk.cell_ 0 rfl
      have c1 := hk.cell_ 1 rfl
      have c2 := hk.cell_ 2 rfl
      have m0 := hm.cell_ 0 rfl
      have m1 := hm.cell_ 1 rfl
      go_wp2_with fail
      clear c0 c1 c2 m0 m1
      go_loopw [39] (fun y W => ∃ (j : Nat) (M : List Int), y = .int .i64 j ∧ j ≤ p.ps.length ∧ M.length = l.length ∧ Hid (∀ (q : Nat) v, M[q]? = some v → v = totI (pl.take (if q < j then i + 1 else i)) q) ∧ Blk W w.heap.size 24 #[.int .i64 L, .int .i64 K, .slice A l.length c] ∧ Blk W g 3 (intJ M []) ∧ Blk W bx 43 #[.int .i64 p.t, .slice A' p.ps.length c'] ∧ Below w.heap.size w W) (fun y _ => p.ps.length - (intOf y).toNat)
      case atStart => exact ⟨0, M, rfl, Nat.zero_le _, hMl, hide fun q v h => by rw [if_neg (Nat.not_lt_zero _)]; exact HI.out.1 q v h, hk, hM, hm, hB⟩
      case round =>
        clear hk hM hm hB hMl
        obtain ⟨W, rfl⟩ : ∃ W : World, W = wr := ⟨_, rfl⟩
        obtain ⟨j, M, rfl, hj, hMl, HM, hk, hM, hm, hB⟩ := hrel
        have hp8 : p.ps.length ≤ 8 := by rw [HPN.out]; exact hl8
        by_cases hjl : j < p.ps.length
        · obtain ⟨v, b2, off2, hv, hA2, hb2, hc2⟩ := ints_at' hQ0 hjl
          replace hc2 := (hB.cell (p := ⟨b2, off2 + j, none⟩) hb2).trans hc2
          have hjj : (j : Int) < (p.ps.length : Int) := by omega
          have hvo := HPO.out v (List.mem_of_getElem? hv)
          have hjm : j < M.length := by rw [hMl, ← HPN.out]; exact hjl
          have hjm' : (j : Int) < (l.length : Int) := by omega
          obtain ⟨mv, hm0⟩ : ∃ mv, M[j]? = some mv := ⟨_, List.getElem?_eq_getElem hjm⟩
          have hmve := HM.out j mv hm0
          rw [if_neg (Nat.lt_irrefl _)] at hmve
          have hmvb := HTL.out j
          rw [← hmve] at hmvb
          have hpr := term_ok hpt hvo
          obtain ⟨pr, hpre⟩ : ∃ pr, p.t * v = pr := ⟨_, rfl⟩
          rw [hpre] at hpr
          have e1 : IntKind.i64.wrap (p.t * v) = pr := by rw [hpre]; exact IntWalk.i64_in _ (by omega)
          have HM2 : Hid (∀ (q : Nat) u, (M.set j (mv + pr))[q]? = some u → u = totI (pl.take (if q < j + 1 then i + 1 else i)) q) := fun q u hu => by
            rw [List.getElem?_set] at hu
            by_cases hqj : j = q
            · subst hqj
              rw [if_pos rfl, if_pos hjm] at hu
              injection hu with hu
              rw [if_pos (by omega), totI_snoc HX.out, ← hmve, getD_of hv, hpre]; exact hu.symm
            · rw [if_neg hqj] at hu
              rw [HM.out q u hu]
              by_cases hq2 : q < j
              · rw [if_pos hq2, if_pos (by omega)]
              · rw [if_neg hq2, if_neg (by omega)]
          have t8 := hM.cell_ j (intJ_get hm0)
          have HSZ := hide (intJ_lt (l := M) (js := []) (i := j) hjm)
          have HJM := hide hjm
          have hsl : (M.set j (mv + pr)).length = l.length := by rw [List.length_set]; exact hMl
          have HSL := hide hsl
          clear hv hm0 hmve hpre hjm hsl
          subst hA2
          have c0 := hk.cell_ 0 rfl
          have c1 := hk.cell_ 1 rfl
          have c2 := hk.cell_ 2 rfl
          have m0 := hm.cell_ 0 rfl
          have m1 := hm.cell_ 1 rfl
          go_wp2_with fail
          refine wp_region_quiet_tail (C := fun w' => ∃ u : Since W, w' = u.w) 10 (by kernel_rfl) (by kernel_rfl) (Since.start W) ?_
          simp only [List.take_succ_cons, List.take_zero, List.drop_succ_cons, List.drop_zero]
          have y_c0 := Since.cell c0
          have y_c1 := Since.cell c1
          have y_c2 := Since.cell c2
          have y_m0 := Since.cell m0
          have y_m1 := Since.cell m1
          have y_t8 := Since.cell t8
          clear c0 c1 c2 m0 m1
          repeat (go_big_quiet_step ((fail)))
          refine wpQuiet_nil ?_
          rintro W ⟨⟨_, hb⟩, rfl⟩
          try dsimp only at hb ⊢
          replace t8 : W.cell? _ = _ := y_t8 ⟨W, hb⟩
          clear y_c0 y_c1 y_c2 y_m0 y_m1 y_t8
          replace hk := hk.below hb hk.lt
          replace hM := hM.below hb hM.lt
          replace hm := hm.below hb hm.lt
          replace hB := hB.trans (hb.mono hB.size)
          clear hb
          have c0 := hk.cell_ 0 rfl
          have c1 := hk.cell_ 1 rfl
          have c2 := hk.cell_ 2 rfl
          have m0 := hm.cell_ 0 rfl
          have m1 := hm.cell_ 1 rfl
          refine wpList_store_at rfl 3 _ _ rfl (.int .i64 (mv + pr)) hM rfl rfl (by kernel_rfl) rfl HSZ.out rfl ?_
          intro W2 hM2 hcc
          rw [intJ_set HJM.out] at hM2
          clear c0 c1 c2 m0 m1
          replace hk := hk.chg1 hcc (by omega)
          replace hm := hm.chg1 hcc (by omega)
          replace hB := hB.trans (hcc.below1 hB.size (by omega))
          clear hM hcc t8 hc2
          go_wp2_with fail
          go_roundw
          case rel => exact ⟨j + 1, M.set j (mv + pr), by go_num, by omega, HSL.out, HM2, hk, hM2, hm, hB⟩
          case measure => simp [intOf]; omega
        · obtain rfl : j = p.ps.length := by omega
          have HI2 : Hid ((∀ (j : Nat) v, M[j]? = some v → v = totI (pl.take (i + 1)) j) ∧ (∀ (j : Nat) b, j < i + 1 → pl[j]? = some b → fitsB L K l b.ps = true)) := by
            refine ⟨fun q v h => ?_, fun q b' hq hb' => ?_⟩
            · have := HM.out q v h
              rw [if_pos (by have := (List.getElem?_eq_some_iff.1 h).1; rw [HPN.out]; omega)] at this
              exact this
            · rcases Nat.lt_or_ge q i with h | h
              · exact HI.out.2 q b' h hb'
              · obtain rfl : q = i := by omega
                have h2 := HX.out
                rw [hb'] at h2
                injection h2 with h2
                subst h2; exact HQ.out
          have c0 := hk.cell_ 0 rfl
          have c1 := hk.cell_ 1 rfl
          have c2 := hk.cell_ 2 rfl
          have m0 := hm.cell_ 0 rfl
          have m1 := hm.cell_ 1 rfl
          go_wp2_with fail
          go_roundw
          case rel => exact ⟨i + 1, M, by go_num, by omega, hMl, HI2, hk, hM, hB⟩
          case measure => simp [intOf]; omega
    · obtain rfl : i = pl.length := by omega
      have HT : Hid (∀ (j : Nat) v, M[j]? = some v → v = totI pl j) := fun j v h => by have := HI.out.1 j v h; rw [List.take_length] at this; exact this
      have HE1 : Hid (chkE L K l pl = if madeB pl l then 0 else 42) := by
        show _ = _
        rw [HE0.out, if_pos (all_at.2 fun j b hb => HI.out.2 j b (List.getElem?_eq_some_iff.1 hb).1 hb)]
      clear HE0 HI
      have c0 := hk.cell_ 0 rfl
      have c1 := hk.cell_ 1 rfl
      have c2 := hk.cell_ 2 rfl
      go_wp2_with fail
      clear c0 c1 c2
      go_loopw [59] (fun y W => ∃ (i : Nat), y = .int .i64 i ∧ i ≤ l.length ∧ Hid (∀ j : Nat, j < i → askB pl l j = true) ∧ Blk W w.heap.size 24 #[.int .i64 L, .int .i64 K, .slice A l.length c] ∧ Blk W g 3 (intJ M []) ∧ Below w.heap.size w W) (fun y _ => l.length - (intOf y).toNat)
      case atStart => exact ⟨0, rfl, Nat.zero_le _, hide fun j hj => absurd hj (Nat.not_lt_zero _), hk, hM, hB⟩
      case round =>
        clear hk hM hB
        obtain ⟨W, rfl⟩ : ∃ W : World, W = wr := ⟨_, rfl⟩
        obtain ⟨i, rfl, hi, HA, hk, hM, hB⟩ := hrel
        by_cases hlt : i < l.length
        · obtain ⟨⟨ln, cn⟩, b, off, hx, hA, _, d0, d1⟩ := ask_at (hS.below hB) hlt
          have hii : (i : Int) < (l.length : Int) := by omega
          obtain ⟨mv, hm0⟩ : ∃ mv, M[i]? = some mv := ⟨_, List.getElem?_eq_getElem (by omega)⟩
          have HAB : Hid (askB pl l i = decide (mv = cn)) := by show _ = _; unfold askB; rw [hx, HT.out i mv hm0]; rfl
          dsimp only at d0 d1
          clear hx
          subst hA
          have c0 := hk.cell_ 0 rfl
          have c1 := hk.cell_ 1 rfl
          have c2 := hk.cell_ 2 rfl
          have q_c0 := (hk.alloc (.cells #[.int .i64 ln, .int .i64 cn] 46)).cell_ 0 rfl
          have q_c1 := (hk.alloc (.cells #[.int .i64 ln, .int .i64 cn] 46)).cell_ 1 rfl
          have q_c2 := (hk.alloc (.cells #[.int .i64 ln, .int .i64 cn] 46)).cell_ 2 rfl
          go_upto_region 20 with fail
          clear q_c0 q_c1 q_c2
          clear c0 c1 c2
          have hm := Blk.new W 46 #[.int .i64 ln, .int .i64 cn]
          replace hk := hk.alloc (.cells #[.int .i64 ln, .int .i64 cn] 46)
          replace hM := hM.alloc (.cells #[.int .i64 ln, .int .i64 cn] 46)
          have hsz_bx : (W.alloc (.cells #[.int .i64 ln, .int .i64 cn] 46)).heap.size = W.heap.size + 1 := by simp
          have bxge := hB.size
          replace hB := hB.alloc hB.size (.cells #[.int .i64 ln, .int .i64 cn] 46)
          generalize hbx : W.heap.size = bx at *
          generalize W.alloc (.cells #[.int .i64 ln, .int .i64 cn] 46) = W at *
          clear hbx
          have c0 := hk.cell_ 0 rfl
          have c1 := hk.cell_ 1 rfl
          have c2 := hk.cell_ 2 rfl
          have m0 := hm.cell_ 0 rfl
          have m1 := hm.cell_ 1 rfl
          clear d0 d1
          have t8 := hM.cell_ i (intJ_get hm0)
          clear hm0
          by_cases heq : mv = cn
          · have hne : (mv != cn) = false := by simp [heq]
            have HA2 : Hid (∀ j : Nat, j < i + 1 → askB pl l j = true) := fun j hj => by
              rcases Nat.lt_or_ge j i with h | h
              · exact HA.out j h
              · obtain rfl : j = i := by omega
                rw [HAB.out]; exact decide_eq_true heq
            clear heq
            go_wp2_with fail
            refine wp_region_quiet (C := fun w' => ∃ u : Since W, w' = u.w) (by kernel_rfl) (by kernel_rfl) (Since.start W) ?_
            dsimp only
            have y_c0 := Since.cell c0
            have y_c1 := Since.cell c1
            have y_c2 := Since.cell c2
            have y_m0 := Since.cell m0
            have y_m1 := Since.cell m1
            have y_t8 := Since.cell t8
            clear c0 c1 c2 m0 m1
            repeat (go_big_quiet_step ((fail)))
            refine wpQuiet_nil ?_
            rintro W ⟨⟨_, hb⟩, rfl⟩
            try dsimp only at hb ⊢
            replace t8 : W.cell? _ = _ := y_t8 ⟨W, hb⟩
            clear y_c0 y_c1 y_c2 y_m0 y_m1 y_t8
            replace hk := hk.below hb hk.lt
            replace hM := hM.below hb hM.lt
            replace hm := hm.below hb hm.lt
            replace hB := hB.trans (hb.mono hB.size)
            clear hb
            have c0 := hk.cell_ 0 rfl
            have c1 := hk.cell_ 1 rfl
            have c2 := hk.cell_ 2 rfl
            have m0 := hm.cell_ 0 rfl
            have m1 := hm.cell_ 1 rfl
            go_wp2_with fail
            go_roundw
            case rel => exact ⟨i + 1, by go_num, by omega, HA2, hk, hM, hB⟩
            case measure => simp [intOf]; omega
          · have hne : (mv != cn) = true := by simp [heq]
            have HE : Hid (chkE L K l pl = 42) := by
              show _ = _
              rw [HE1.out, if_neg]
              intro h
              unfold madeB at h
              have := List.all_eq_true.1 h i (List.mem_range.2 hlt)
              rw [HAB.out] at this
              exact heq (of_decide_eq_true this)
            clear heq
            go_wp2_with fail
            refine wp_region_quiet (C := fun w' => ∃ u : Since W, w' = u.w) (by kernel_rfl) (by kernel_rfl) (Since.start W) ?_
            dsimp only
            have y_c0 := Since.cell c0
            have y_c1 := Since.cell c1
            have y_c2 := Since.cell c2
            have y_m0 := Since.cell m0
            have y_m1 := Since.cell m1
            have y_t8 := Since.cell t8
            clear c0 c1 c2 m0 m1
            repeat (go_big_quiet_step ((fail)))
            refine wpQuiet_nil ?_
            rintro W ⟨⟨_, hb⟩, rfl⟩
            try dsimp only at hb ⊢
            replace t8 : W.cell? _ = _ := y_t8 ⟨W, hb⟩
            clear y_c0 y_c1 y_c2 y_m0 y_m1 y_t8
            replace hk := hk.below hb hk.lt
            replace hM := hM.below hb hM.lt
            replace hm := hm.below hb hm.lt
            replace hB := hB.trans (hb.mono hB.size)
            clear hb
            have c0 := hk.cell_ 0 rfl
            have c1 := hk.cell_ 1 rfl
            have c2 := hk.cell_ 2 rfl
            have m0 := hm.cell_ 0 rfl
            have m1 := hm.cell_ 1 rfl
            go_wp2_with fail
            go_ret
            exact ⟨by rw [HE.out]; rfl, hB⟩
        · obtain rfl : i = l.length := by omega
          have HE : Hid (chkE L K l pl = 0) := by
            show _ = _
            rw [HE1.out, if_pos]
            unfold madeB
            rw [List.all_eq_true]
            exact fun j hj => HA.out j (List.mem_range.1 hj)
          have c0 := hk.cell_ 0 rfl
          have c1 := hk.cell_ 1 rfl
          have c2 := hk.cell_ 2 rfl
          go_wp2_with fail
          go_ret
          exact ⟨by rw [HE.out]; rfl, hB⟩
end Go.Proofs.YtkcfalehebacpaaDoor

/- Check of the reference: the walk. -/
namespace Go.Proofs.YtkcfalehebacpaaDoor
open Go Go.RowKit
theorem refKFits_n (L K : Int) (A : Option Addr) (c : Nat) (l : List Ask) (AP : Option Addr) (cP : Nat) (ps : List Int) (w : World) (hS : Slc Ask.enc 2 w w.heap.size A l) (hP : Slc intEnc 1 w w.heap.size AP ps) (hv : VK L K l) (hpl : ps.length = l.length) {v : Bool} (h : fitsB L K l ps = v) :
    Calls Tryd.prog 23 #[.agg #[.int .i64 L, .int .i64 K, .slice A l.length c], .slice AP ps.length cP] w fun e w' => e = .returned (.bool v) ∧ Below w.heap.size w w' := by
  subst h; exact refKFits_any L K A c l AP cP ps w hS hP hv hpl
theorem refKValidB_is (L K : Int) (A : Option Addr) (c : Nat) (l : List Ask) (w : World) (hS : Slc Ask.enc 2 w w.heap.size A l) {v : Bool} (h : validK L K l = v) :
    Calls Tryd.prog 5 #[.agg #[.int .i64 L, .int .i64 K, .slice A l.length c]] w fun e w' => e = .returned (.bool v) ∧ Below w.heap.size w w' := by
  subst h; exact refKValid_any L K A c l w hS
set_option maxRecDepth 100000 in
set_option maxHeartbeats 4000000 in
theorem refCheck_any (L K : Int) (A : Option Addr) (c : Nat) (l : List Ask) (AB : Option Addr) (cB : Nat) (bs : List Bt) (pl : List Bat) (w : World) (hS : Slc Ask.enc 2 w w.heap.size A l) (hP : PlanAt w AB bs pl) :
    Calls Tryd.prog 12 #[.agg #[.int .i64 L, .int .i64 K, .slice A l.length c], .slice AB pl.length cB] w fun e w' => e = .returned (.int .i64 (chkE L K l pl)) ∧ Below w.heap.size w w' := by
  have HD : Hid (chkE L K l pl = if validK L K l then if shapedP l.length pl then if pl.all (fun b => fitsB L K l b.ps) then if madeB pl l then 0 else 42 else 41 else 2 else 40) := rfl
  have hk := Blk.new w 24 #[.int .i64 L, .int .i64 K, .slice A l.length c]
  have hB := (Below.refl w.heap.size w).alloc (Nat.le_refl _) (.cells #[.int .i64 L, .int .i64 K, .slice A l.length c] 24)
  go_enter Tryd.func12, Tryd.ntmps12
  go_upto_region 1 with fail
  generalize w.alloc (.cells #[.int .i64 L, .int .i64 K, .slice A l.length c] 24) = W at *
  have c0 := hk.cell_ 0 rfl
  have c1 := hk.cell_ 1 rfl
  have c2 := hk.cell_ 2 rfl
  cases hv : validK L K l
  case false =>
    have HV := hide hv
    have HE : Hid (chkE L K l pl = 40) := by show _ = _; rw [HD.out, hv]; rfl
    clear hv
    go_wp2_with fail
    refine (refKValidB_is L K A c l _ (hS.on hB) HV.out).mono ?_
    rintro e W ⟨rfl, hb⟩
    clear c0 c1 c2
    replace hk := hk.below hb hk.lt
    replace hB := hB.trans (hb.mono hB.size)
    clear hb
    have c0 := hk.cell_ 0 rfl
    have c1 := hk.cell_ 1 rfl
    have c2 := hk.cell_ 2 rfl
    go_wp2_with fail
    go_ret
    exact ⟨by rw [HE.out]; rfl, hB⟩
  have HV := hide hv
  clear hv
  go_wp2_with fail
  refine (refKValidB_is L K A c l _ (hS.on hB) HV.out).mono ?_
  rintro e W ⟨rfl, hb⟩
  clear c0 c1 c2
  replace hk := hk.below hb hk.lt
  replace hB := hB.trans (hb.mono hB.size)
  clear hb
  have c0 := hk.cell_ 0 rfl
  have c1 := hk.cell_ 1 rfl
  have c2 := hk.cell_ 2 rfl
  have HVK := hide (validK_iff.1 HV.out)
  have hl8 : l.length ≤ 8 := HVK.out.few
  by_cases h4 : (1000 : Int) < (pl.length : Int)
  · have HE : Hid (chkE L K l pl = 2) := by show _ = _; rw [HD.out, HV.out]; unfold shapedP; rw [decide_eq_false (by omega)]; rfl
    go_wp2_with fail
    go_ret
    exact ⟨by rw [HE.out]; rfl, hB⟩
  have HA0 : Hid (shapedP l.length pl = (pl.drop 0).all fun b => inB 1 b.t 1000 && decide (b.ps.length = l.length)) := by show _ = _; unfold shapedP; rw [decide_eq_true (by omega)]; rfl
  go_wp2_with fail
  clear c0 c1 c2
  go_loopw [5] (fun y W => ∃ (i : Nat), y = .int .i64 i ∧ i ≤ pl.length ∧ Hid (shapedP l.length pl = (pl.drop i).all fun b => inB 1 b.t 1000 && decide (b.ps.length = l.length)) ∧ Blk W w.heap.size 24 #[.int .i64 L, .int .i64 K, .slice A l.length c] ∧ Below w.heap.size w W) (fun y _ => pl.length - (intOf y).toNat)
  case atStart => exact ⟨0, rfl, Nat.zero_le _, HA0, hk, hB⟩
  case round =>
    clear hk hB HA0
    obtain ⟨W, rfl⟩ : ∃ W : World, W = wr := ⟨_, rfl⟩
    obtain ⟨i, rfl, hi, HA, hk, hB⟩ := hrel
    by_cases hlt : i < pl.length
    · obtain ⟨p, b, off, A', c', hp, hA, hbl, d0, d1, hQ0⟩ := plan_at (hP.on hB) hlt
      have hii : (i : Int) < (pl.length : Int) := by omega
      have HX := hide hp
      clear hp hQ0
      subst hA
      have c0 := hk.cell_ 0 rfl
      have c1 := hk.cell_ 1 rfl
      have c2 := hk.cell_ 2 rfl
      cases q1 : inB 1 p.t 1000
      case false =>
        have HE : Hid (chkE L K l pl = 2) := by show _ = _; rw [HD.out, HV.out, HA.out, all_drop HX.out, q1]; rfl
        have HQ := hide q1
        clear q1
        go_wp2_with fail
        refine wp_region_quiet (C := fun w' => ∃ u : Since W, w' = u.w) (by kernel_rfl) (by kernel_rfl) (Since.start W) ?_
        dsimp only
        have y_c0 := Since.cell c0
        have y_c1 := Since.cell c1
        have y_c2 := Since.cell c2
        have y_d0 := Since.cell d0
        have y_d1 := Since.cell d1
        clear c0 c1 c2
        repeat (go_big_quiet_step ((go_at_call 14; exact Since.calls_same (kfrom_is 1 p.t 1000 _ HQ.out))))
        refine wpQuiet_nil ?_
        rintro W ⟨⟨_, hb⟩, rfl⟩
        try dsimp only at hb ⊢
        replace d0 : W.cell? _ = _ := y_d0 ⟨W, hb⟩
        replace d1 : W.cell? _ = _ := y_d1 ⟨W, hb⟩
        clear y_c0 y_c1 y_c2 y_d0 y_d1
        replace hk := hk.below hb hk.lt
        replace hB := hB.trans (hb.mono hB.size)
        clear hb
        have c0 := hk.cell_ 0 rfl
        have c1 := hk.cell_ 1 rfl
        have c2 := hk.cell_ 2 rfl
        go_wp2_with fail
        go_ret
        exact ⟨by rw [HE.out]; rfl, hB⟩
      have HQ := hide q1
      clear q1
      by_cases h3 : p.ps.length = l.length
      · have HA2 : Hid (shapedP l.length pl = (pl.drop (i + 1)).all fun b => inB 1 b.t 1000 && decide (b.ps.length = l.length)) := by show _ = _; rw [HA.out, all_drop HX.out, HQ.out, decide_eq_true h3]; rfl
        have hne : ((p.ps.length : Int) != (l.length : Int)) = false := by simp [h3]
        clear h3
        go_wp2_with fail
        refine wp_region_quiet (C := fun w' => ∃ u : Since W, w' = u.w) (by kernel_rfl) (by kernel_rfl) (Since.start W) ?_
        dsimp only
        have y_c0 := Since.cell c0
        have y_c1 := Since.cell c1
        have y_c2 := Since.cell c2
        have y_d0 := Since.cell d0
        have y_d1 := Since.cell d1
        clear c0 c1 c2
        repeat (go_big_quiet_step ((go_at_call 14; exact Since.calls_same (kfrom_is 1 p.t 1000 _ HQ.out))))
        refine wpQuiet_nil ?_
        rintro W ⟨⟨_, hb⟩, rfl⟩
        try dsimp only at hb ⊢
        replace d0 : W.cell? _ = _ := y_d0 ⟨W, hb⟩
        replace d1 : W.cell? _ = _ := y_d1 ⟨W, hb⟩
        clear y_c0 y_c1 y_c2 y_d0 y_d1
        replace hk := hk.below hb hk.lt
        replace hB := hB.trans (hb.mono hB.size)
        clear hb
        have c0 := hk.cell_ 0 rfl
        have c1 := hk.cell_ 1 rfl
        have c2 := hk.cell_ 2 rfl
        go_wp2_with fail
        go_roundw
        case rel => exact ⟨i + 1, by go_num, by omega, HA2, hk, hB⟩
        case measure => simp [intOf]; omega
      · have HE : Hid (chkE L K l pl = 2) := by show _ = _; rw [HD.out, HV.out, HA.out, all_drop HX.out, HQ.out, decide_eq_false h3]; rfl
        have hne : ((p.ps.length : Int) != (l.length : Int)) = true := by simp; omega
        clear h3
        go_wp2_with fail
        refine wp_region_quiet (C := fun w' => ∃ u : Since W, w' = u.w) (by kernel_rfl) (by kernel_rfl) (Since.start W) ?_
        dsimp only
        have y_c0 := Since.cell c0
        have y_c1 := Since.cell c1
        have y_c2 := Since.cell c2
        have y_d0 := Since.cell d0
        have y_d1 := Since.cell d1
        clear c0 c1 c2
        repeat (go_big_quiet_step ((go_at_call 14; exact Since.calls_same (kfrom_is 1 p.t 1000 _ HQ.out))))
        refine wpQuiet_nil ?_
        rintro W ⟨⟨_, hb⟩, rfl⟩
        try dsimp only at hb ⊢
        replace d0 : W.cell? _ = _ := y_d0 ⟨W, hb⟩
        replace d1 : W.cell? _ = _ := y_d1 ⟨W, hb⟩
        clear y_c0 y_c1 y_c2 y_d0 y_d1
        replace hk := hk.below hb hk.lt
        replace hB := hB.trans (hb.mono hB.size)
        clear hb
        have c0 := hk.cell_ 0 rfl
        have c1 := hk.cell_ 1 rfl
        have c2 := hk.cell_ 2 rfl
        go_wp2_with fail
        go_ret
        exact ⟨by rw [HE.out]; rfl, hB⟩
    · obtain rfl : i = pl.length := by omega
      have HSH : Hid (shapedP l.length pl = true) := by show _ = _; rw [HA.out, List.drop_length]; rfl
      have HE0 : Hid (chkE L K l pl = if pl.all (fun b => fitsB L K l b.ps) then if madeB pl l then 0 else 42 else 41) := by show _ = _; rw [HD.out, HV.out, HSH.out]; rfl
      clear HD HA
      have c0 := hk.cell_ 0 rfl
      have c1 := hk.cell_ 1 rfl
      have c2 := hk.cell_ 2 rfl
      go_wp2_with fail
      clear c0 c1 c2
      go_loopw [6] (fun y W => ∃ (i : Nat), y = .int .i64 i ∧ i ≤ pl.length ∧ Hid (∀ (j : Nat) b, j < i → pl[j]? = some b → fitsB L K l b.ps = true) ∧ Blk W w.heap.size 24 #[.int .i64 L, .int .i64 K, .slice A l.length c] ∧ Below w.heap.size w W) (fun y _ => pl.length - (intOf y).toNat)
      case atStart => exact ⟨0, rfl, Nat.zero_le _, hide fun j b hj => absurd hj (Nat.not_lt_zero _), hk, hB⟩
      case round =>
        clear hk hB
        obtain ⟨W, rfl⟩ : ∃ W : World, W = wr := ⟨_, rfl⟩
        obtain ⟨i, rfl, hi, HF, hk, hB⟩ := hrel
        by_cases hlt : i < pl.length
        · obtain ⟨p, b, off, A', c', hp, hA, hbl, d0, d1, hQ0⟩ := plan_at (hP.on hB) hlt
          have hii : (i : Int) < (pl.length : Int) := by omega
          have HPN := hide (shaped_at HSH.out hp).2
          have HX := hide hp
          have HQS := hide hQ0
          have HSW := hide (hS.on hB)
          clear hp hQ0
          subst hA
          have c0 := hk.cell_ 0 rfl
          have c1 := hk.cell_ 1 rfl
          have c2 := hk.cell_ 2 rfl
          cases q1 : fitsB L K l p.ps
          case false =>
            have HE : Hid (chkE L K l pl = 41) := by
              show _ = _
              rw [HE0.out, if_neg]
              intro h
              have := all_at.1 h i p HX.out
              rw [q1] at this; exact absurd this (by simp)
            have HQ := hide q1
            clear q1
            go_wp2_with fail
            refine wp_region_quiet (C := fun w' => ∃ u : Since W, w' = u.w) (by kernel_rfl) (by kernel_rfl) (Since.start W) ?_
            dsimp only
            have y_c0 := Since.cell c0
            have y_c1 := Since.cell c1
            have y_c2 := Since.cell c2
            have y_d0 := Since.cell d0
            have y_d1 := Since.cell d1
            clear c0 c1 c2
            repeat (go_big_quiet_step ((go_at_call 23; exact Since.calls (refKFits_n L K A c l A' c' p.ps _ (Slc.on HSW.out (Since.h _)) (Slc.on HQS.out (Since.h _)) HVK.out HPN.out HQ.out))))
            refine wpQuiet_nil ?_
            rintro W ⟨⟨_, hb⟩, rfl⟩
            try dsimp only at hb ⊢
            replace d0 : W.cell? _ = _ := y_d0 ⟨W, hb⟩
            replace d1 : W.cell? _ = _ := y_d1 ⟨W, hb⟩
            clear y_c0 y_c1 y_c2 y_d0 y_d1
            replace hk := hk.below hb hk.lt
            replace hB := hB.trans (hb.mono hB.size)
            clear hb
            have c0 := hk.cell_ 0 rfl
            have c1 := hk.cell_ 1 rfl
            have c2 := hk.cell_ 2 rfl
            go_wp2_with fail
            go_ret
            exact ⟨by rw [HE.out]; rfl, hB⟩
          have HF2 : Hid (∀ (j : Nat) b, j < i + 1 → pl[j]? = some b → fitsB L K l b.ps = true) := fun q b' hq hb' => by
            rcases Nat.lt_or_ge q i with h | h
            · exact HF.out q b' h hb'
            · obtain rfl : q = i := by omega
              have h2 := HX.out
              rw [hb'] at h2
              injection h2 with h2
              subst h2; exact q1
          have HQ := hide q1
          clear q1
          go_wp2_with fail
          refine wp_region_quiet (C := fun w' => ∃ u : Since W, w' = u.w) (by kernel_rfl) (by kernel_rfl) (Since.start W) ?_
          dsimp only
          have y_c0 := Since.cell c0
          have y_c1 := Since.cell c1
          have y_c2 := Since.cell c2
          have y_d0 := Since.cell d0
          have y_d1 := Since.cell d1
          clear c0 c1 c2
          repeat (go_big_quiet_step ((go_at_call 23; exact Since.calls (refKFits_n L K A c l A' c' p.ps _ (Slc.on HSW.out (Since.h _)) (Slc.on HQS.out (Since.h _)) HVK.out HPN.out HQ.out))))
          refine wpQuiet_nil ?_
          rintro W ⟨⟨_, hb⟩, rfl⟩
          try dsimp only at hb ⊢
          replace d0 : W.cell? _ = _ := y_d0 ⟨W, hb⟩
          replace d1 : W.cell? _ = _ := y_d1 ⟨W, hb⟩
          clear y_c0 y_c1 y_c2 y_d0 y_d1
          replace hk := hk.below hb hk.lt
          replace hB := hB.trans (hb.mono hB.size)
          clear hb
          have c0 := hk.cell_ 0 rfl
          have c1 := hk.cell_ 1 rfl
          have c2 := hk.cell_ 2 rfl
          go_wp2_with fail
          go_roundw
          case rel => exact ⟨i + 1, by go_num, by omega, HF2, hk, hB⟩
          case measure => simp [intOf]; omega
        · obtain rfl : i = pl.length := by omega
          have HE1 : Hid (chkE L K l pl = if madeB pl l then 0 else 42) := by
            show _ = _
            rw [HE0.out, if_pos (all_at.2 fun j b hb => HF.out j b (List.getElem?_eq_some_iff.1 hb).1 hb)]
          have HTL : Hid (∀ i j, 0 ≤ totI (pl.take i) j ∧ totI (pl.take i) j ≤ 50000000) := fun i j => totI_take_low (n := l.length) (L := L) (K := K) (l := l) HSH.out (fun q b _ hb => HF.out q b (List.getElem?_eq_some_iff.1 hb).1 hb) j
          clear HE0
          have c0 := hk.cell_ 0 rfl
          have c1 := hk.cell_ 1 rfl
          have c2 := hk.cell_ 2 rfl
          go_wp2_with fail
          clear c0 c1 c2
          go_loopw [7] (fun y W => ∃ (i : Nat), y = .int .i64 i ∧ i ≤ l.length ∧ Hid (∀ j : Nat, j < i → askB pl l j = true) ∧ Blk W w.heap.size 24 #[.int .i64 L, .int .i64 K, .slice A l.length c] ∧ Below w.heap.size w W) (fun y _ => l.length - (intOf y).toNat)
          case atStart => exact ⟨0, rfl, Nat.zero_le _, hide fun j hj => absurd hj (Nat.not_lt_zero _), hk, hB⟩
          case round =>
            clear hk hB
            obtain ⟨W, rfl⟩ : ∃ W : World, W = wr := ⟨_, rfl⟩
            obtain ⟨i, rfl, hi, HA, hk, hB⟩ := hrel
            by_cases hlt : i < l.length
            · have hii : (i : Int) < (l.length : Int) := by omega
              have c0 := hk.cell_ 0 rfl
              have c1 := hk.cell_ 1 rfl
              have c2 := hk.cell_ 2 rfl
              go_wp2_with fail
              clear c0 c1 c2
              go_loopw [8, 9] (fun x y W => ∃ (j : Nat), x = .int .i64 (totI (pl.take j) i) ∧ y = .int .i64 j ∧ j ≤ pl.length ∧ Blk W w.heap.size 24 #[.int .i64 L, .int .i64 K, .slice A l.length c] ∧ Below w.heap.size w W) (fun x y _ => pl.length - (intOf y).toNat)
              case atStart => exact ⟨0, rfl, rfl, Nat.zero_le _, hk, hB⟩
              case round =>
                clear hk hB
                obtain ⟨W, rfl⟩ : ∃ W : World, W = wr := ⟨_, rfl⟩
                obtain ⟨j, rfl, rfl, hj, hk, hB⟩ := hrel
                by_cases hjl : j < pl.length
                · obtain ⟨p, b, off, A', c', hp, hA, hbl, d0, d1, hQ0⟩ := plan_at (hP.on hB) hjl
                  have hjj : (j : Int) < (pl.length : Int) := by omega
                  obtain ⟨hpt, hpn⟩ := shaped_at HSH.out hp
                  obtain ⟨v, b2, off2, hv, hA2, hb2, hcp⟩ := ints_at' (k := i) hQ0 (by omega)
                  have hip : (i : Int) < (p.ps.length : Int) := by omega
                  have hvo := fits_ok (HF.out j p hjl hp) v (List.mem_of_getElem? hv)
                  have hpr := term_ok hpt hvo
                  have HS := hide (totI_snoc hp i)
                  obtain ⟨pr, hpre⟩ : ∃ pr, p.t * v = pr := ⟨_, rfl⟩
                  rw [hpre] at hpr
                  have e1 : IntKind.i64.wrap (p.t * v) = pr := by rw [hpre]; exact IntWalk.i64_in _ (by omega)
                  have HS2 : Hid (totI (pl.take (j + 1)) i = totI (pl.take j) i + pr) := by show _ = _; rw [HS.out, getD_of hv, hpre]
                  have htl := HTL.out j i
                  clear hp hv hpre HS hQ0 hpn
                  subst hA hA2
                  generalize totI (pl.take j) i = S at *
                  have c0 := hk.cell_ 0 rfl
                  have c1 := hk.cell_ 1 rfl
                  have c2 := hk.cell_ 2 rfl
                  go_wp2_with fail
                  refine wp_region_quiet (C := fun w' => ∃ u : Since W, w' = u.w) (by kernel_rfl) (by kernel_rfl) (Since.start W) ?_
                  dsimp only
                  have y_c0 := Since.cell c0
                  have y_c1 := Since.cell c1
                  have y_c2 := Since.cell c2
                  have y_d0 := Since.cell d0
                  have y_d1 := Since.cell d1
                  have y_hcp := Since.cell hcp
                  clear c0 c1 c2
                  repeat (go_big_quiet_step ((fail)))
                  refine wpQuiet_nil ?_
                  rintro W ⟨⟨_, hb⟩, rfl⟩
                  try dsimp only at hb ⊢
                  replace d0 : W.cell? _ = _ := y_d0 ⟨W, hb⟩
                  replace d1 : W.cell? _ = _ := y_d1 ⟨W, hb⟩
                  replace hcp : W.cell? _ = _ := y_hcp ⟨W, hb⟩
                  clear y_c0 y_c1 y_c2 y_d0 y_d1 y_hcp
                  replace hk := hk.below hb hk.lt
                  replace hB := hB.trans (hb.mono hB.size)
                  clear hb
                  have c0 := hk.cell_ 0 rfl
                  have c1 := hk.cell_ 1 rfl
                  have c2 := hk.cell_ 2 rfl
                  go_wp2_with fail
                  go_roundw
                  case rel => exact ⟨j + 1, by rw [HS2.out], by go_num, by omega, hk, hB⟩
                  case measure => simp [intOf]; omega
                · obtain rfl : j = pl.length := by omega
                  obtain ⟨⟨ln, cn⟩, b, off, hx, hA, _, d0, d1⟩ := ask_at (hS.below hB) hlt
                  obtain ⟨S, hSe⟩ : ∃ S, totI (pl.take pl.length) i = S := ⟨_, rfl⟩
                  have HAB : Hid (askB pl l i = decide (S = cn)) := by show _ = _; unfold askB; rw [hx, ← hSe, List.take_length]; rfl
                  rw [hSe]
                  dsimp only at d0 d1
                  clear hx hSe
                  subst hA
                  have c0 := hk.cell_ 0 rfl
                  have c1 := hk.cell_ 1 rfl
                  have c2 := hk.cell_ 2 rfl
                  by_cases heq : S = cn
                  · have hne : (S != cn) = false := by simp [heq]
                    have HA2 : Hid (∀ j : Nat, j < i + 1 → askB pl l j = true) := fun j hj => by
                      rcases Nat.lt_or_ge j i with h | h
                      · exact HA.out j h
                      · obtain rfl : j = i := by omega
                        rw [HAB.out]; exact decide_eq_true heq
                    clear heq
                    go_wp2_with fail
                    go_roundw
                    case rel => exact ⟨i + 1, by go_num, by omega, HA2, hk, hB⟩
                    case measure => simp [intOf]; omega
                  · have hne : (S != cn) = true := by simp [heq]
                    have HE : Hid (chkE L K l pl = 42) := by
                      show _ = _
                      rw [HE1.out, if_neg]
                      intro h
                      unfold madeB at h
                      have := List.all_eq_true.1 h i (List.mem_range.2 hlt)
                      rw [HAB.out] at this
                      exact heq (of_decide_eq_true this)
                    clear heq
                    go_wp2_with fail
                    go_ret
                    exact ⟨by rw [HE.out]; rfl, hB⟩
            · obtain rfl : i = l.length := by omega
              have HE : Hid (chkE L K l pl = 0) := by
                show _ = _
                rw [HE1.out, if_pos]
                unfold madeB
                rw [List.all_eq_true]
                exact fun j hj => HA.out j (List.mem_range.1 hj)
              have c0 := hk.cell_ 0 rfl
              have c1 := hk.cell_ 1 rfl
              have c2 := hk.cell_ 2 rfl
              go_wp2_with fail
              go_ret
              exact ⟨by rw [HE.out]; rfl, hB⟩
end Go.Proofs.YtkcfalehebacpaaDoor

/- rolls, Lengths, Rolls, Waste of both texts: the walks. -/
namespace Go.Proofs.YtkcfalehebacpaaDoor
open Go Go.RowKit
def rollsI (pl : List Bat) : Int := (pl.map (·.t)).sum
def lenI (l : List Ask) : Int := (l.map fun a => a.cnt * a.len).sum
theorem rollsI_snoc {pl : List Bat} {i : Nat} {b : Bat} (h : pl[i]? = some b) : rollsI (pl.take (i + 1)) = rollsI (pl.take i) + b.t := by
  unfold rollsI
  rw [List.take_add_one, h, Option.toList_some, List.map_append, List.sum_append]; simp
theorem lenI_snoc {l : List Ask} {i : Nat} {a : Ask} (h : l[i]? = some a) : lenI (l.take (i + 1)) = lenI (l.take i) + a.cnt * a.len := by
  unfold lenI
  rw [List.take_add_one, h, Option.toList_some, List.map_append, List.sum_append]; simp
theorem rollsI_low : ∀ pl : List Bat, (∀ b ∈ pl, 1 ≤ b.t ∧ b.t ≤ 1000) → 0 ≤ rollsI pl ∧ rollsI pl ≤ pl.length * 1000
  | [], _ => by simp [rollsI]
  | b :: pl, h => by
    have ih := rollsI_low pl fun b hb => h b (List.mem_cons_of_mem _ hb)
    have h1 := h b (List.mem_cons_self ..)
    have e : rollsI (b :: pl) = b.t + rollsI pl := by simp [rollsI]
    rw [e, List.length_cons]; push_cast; omega
theorem rollsI_take {n : Nat} {pl : List Bat} (h : shapedP n pl = true) (i : Nat) : 0 ≤ rollsI (pl.take i) ∧ rollsI (pl.take i) ≤ 1000000 := by
  have h1 := rollsI_low (pl.take i) fun b hb => by
    obtain ⟨q, hq⟩ := List.getElem?_of_mem (List.mem_of_mem_take hb)
    exact (shaped_at h hq).1
  have h2 := shaped_few h
  have h3 : (pl.take i).length ≤ 1000 := by simp; omega
  omega
theorem aterm_ok {L K : Int} {l : List Ask} (hv : VK L K l) {a : Ask} (ha : a ∈ l) : 0 ≤ a.cnt * a.len ∧ a.cnt * a.len ≤ 50000 := by
  obtain ⟨h1, h2⟩ := hv.hL
  obtain ⟨h3, h4, h5⟩ := hv.ask a ha
  refine ⟨Int.mul_nonneg h4 (by omega), ?_⟩
  calc a.cnt * a.len ≤ 50 * 1000 := Int.mul_le_mul h5 (by omega) (by omega) (by omega)
    _ ≤ 50000 := by omega
theorem lenI_low {L K : Int} {l : List Ask} (hv : VK L K l) : ∀ m : List Ask, (∀ a ∈ m, a ∈ l) → 0 ≤ lenI m ∧ lenI m ≤ m.length * 50000
  | [], _ => by simp [lenI]
  | a :: m, h => by
    have ih := lenI_low hv m fun b hb => h b (List.mem_cons_of_mem _ hb)
    have h1 := aterm_ok hv (h a (List.mem_cons_self ..))
    have e : lenI (a :: m) = a.cnt * a.len + lenI m := by simp [lenI]
    rw [e, List.length_cons]; push_cast; omega
theorem lenI_take {L K : Int} {l : List Ask} (hv : VK L K l) (i : Nat) : 0 ≤ lenI (l.take i) ∧ lenI (l.take i) ≤ 400000 := by
  have h1 := lenI_low hv (l.take i) fun a ha => List.mem_of_mem_take ha
  have h2 := hv.few
  have h3 : (l.take i).length ≤ 8 := by simp; omega
  omega
theorem chk_zero {L K : Int} {l : List Ask} {pl : List Bat} (h : chkE L K l pl = 0) : validK L K l = true ∧ shapedP l.length pl = true ∧ (∀ (i : Nat) b, pl[i]? = some b → fitsB L K l b.ps = true) := by
  unfold chkE at h
  by_cases h1 : validK L K l = true
  · rw [if_pos h1] at h
    by_cases h2 : shapedP l.length pl = true
    · rw [if_pos h2] at h
      by_cases h3 : pl.all (fun b => fitsB L K l b.ps) = true
      · exact ⟨h1, h2, fun i b hb => all_at.1 h3 i b hb⟩
      · rw [if_neg h3] at h; omega
    · rw [if_neg h2] at h; omega
  · rw [if_neg h1] at h; omega
set_option maxRecDepth 100000 in
theorem rolls_any (n : Nat) (AB : Option Addr) (cB : Nat) (bs : List Bt) (pl : List Bat) (w : World) (hP : PlanAt w AB bs pl) (hs : shapedP n pl = true) :
    Calls Tryd.prog 22 #[.slice AB pl.length cB] w fun e w' => e = .returned (.int .i64 (rollsI pl)) ∧ Below w.heap.size w w' := by
  have HTL := hide (rollsI_take hs)
  have HS := hide hs
  have hpl := shaped_few hs
  clear hs
  have G : ∀ W, Below w.heap.size w W → Calls Tryd.prog 22 #[.slice AB pl.length cB] W fun e w' => e = .returned (.int .i64 (rollsI pl)) ∧ Below w.heap.size w w' := by
    intro W hB
    go_enter Tryd.func22, Tryd.ntmps22
    go_wp2_with fail
    go_loopw [3, 8] (fun x y W => ∃ (i : Nat), x = .int .i64 (rollsI (pl.take i)) ∧ y = .int .i64 i ∧ i ≤ pl.length ∧ Below w.heap.size w W) (fun x y _ => pl.length - (intOf y).toNat)
    case atStart => exact ⟨0, rfl, rfl, Nat.zero_le _, hB⟩
    case round =>
      clear hB
      obtain ⟨W, rfl⟩ : ∃ W : World, W = wr := ⟨_, rfl⟩
      obtain ⟨i, rfl, rfl, hi, hB⟩ := hrel
      by_cases hlt : i < pl.length
      · obtain ⟨p, b, off, A', c', hp, hA, hbl, d0, d1, hQ0⟩ := plan_at (hP.on hB) hlt
        have hii : (i : Int) < (pl.length : Int) := by omega
        have hpt := (shaped_at HS.out hp).1
        have HX := hide (rollsI_snoc hp)
        have htl := HTL.out i
        clear hp hQ0
        subst hA
        generalize rollsI (pl.take i) = S at *
        go_upto_region 5 with fail
        have hm := Blk.new W 43 #[.int .i64 p.t, .slice A' p.ps.length c']
        have hsz_bx : (W.alloc (.cells #[.int .i64 p.t, .slice A' p.ps.length c'] 43)).heap.size = W.heap.size + 1 := by simp
        have bxge := hB.size
        replace hB := hB.alloc hB.size (.cells #[.int .i64 p.t, .slice A' p.ps.length c'] 43)
        generalize hbx : W.heap.size = bx at *
        generalize W.alloc (.cells #[.int .i64 p.t, .slice A' p.ps.length c'] 43) = W at *
        clear hbx
        have m0 := hm.cell_ 0 rfl
        have m1 := hm.cell_ 1 rfl
        clear d0 d1
        go_wp2_with fail
        go_roundw
        case rel => exact ⟨i + 1, by rw [HX.out], by go_num, by omega, hB⟩
        case measure => simp [intOf]; omega
      · obtain rfl : i = pl.length := by omega
        rw [show rollsI (pl.take pl.length) = rollsI pl by rw [List.take_length]]
        go_wp2_with fail
        go_ret
        exact ⟨rfl, hB⟩
  exact G w (Below.refl _ _)
set_option maxRecDepth 100000 in
theorem lengths_any (L K : Int) (A : Option Addr) (c : Nat) (l : List Ask) (w : World) (hS : Slc Ask.enc 2 w w.heap.size A l) (hv : VK L K l) :
    Calls Tryd.prog 11 #[.agg #[.int .i64 L, .int .i64 K, .slice A l.length c]] w fun e w' => e = .returned (.int .i64 (lenI l)) ∧ Below w.heap.size w w' := by
  have HVK := hide hv
  have hl8 := hv.few
  have HTL := hide (lenI_take hv)
  clear hv
  have hk := Blk.new w 24 #[.int .i64 L, .int .i64 K, .slice A l.length c]
  have hB := (Below.refl w.heap.size w).alloc (Nat.le_refl _) (.cells #[.int .i64 L, .int .i64 K, .slice A l.length c] 24)
  go_enter Tryd.func11, Tryd.ntmps11
  go_upto_region 1 with fail
  generalize w.alloc (.cells #[.int .i64 L, .int .i64 K, .slice A l.length c] 24) = W at *
  have c0 := hk.cell_ 0 rfl
  have c1 := hk.cell_ 1 rfl
  have c2 := hk.cell_ 2 rfl
  go_wp2_with fail
  clear c0 c1 c2
  go_loopw [3, 4] (fun x y W => ∃ (i : Nat), x = .int .i64 (lenI (l.take i)) ∧ y = .int .i64 i ∧ i ≤ l.length ∧ Blk W w.heap.size 24 #[.int .i64 L, .int .i64 K, .slice A l.length c] ∧ Below w.heap.size w W) (fun x y _ => l.length - (intOf y).toNat)
  case atStart => exact ⟨0, rfl, rfl, Nat.zero_le _, hk, hB⟩
  case round =>
    clear hk hB
    obtain ⟨W, rfl⟩ : ∃ W : World, W = wr := ⟨_, rfl⟩
    obtain ⟨i, rfl, rfl, hi, hk, hB⟩ := hrel
    by_cases hlt : i < l.length
    · obtain ⟨⟨ln, cn⟩, b, off, hx, hA, _, d0, d1⟩ := ask_at (hS.below hB) hlt
      have hii : (i : Int) < (l.length : Int) := by omega
      have hat := aterm_ok HVK.out (List.mem_of_getElem? hx)
      have HX := hide (lenI_snoc hx)
      dsimp only at d0 d1 hat
      obtain ⟨pr, hpre⟩ : ∃ pr, cn * ln = pr := ⟨_, rfl⟩
      rw [hpre] at hat
      have e1 : IntKind.i64.wrap (cn * ln) = pr := by rw [hpre]; exact IntWalk.i64_in _ (by omega)
      have HX2 : Hid (lenI (l.take (i + 1)) = lenI (l.take i) + pr) := by show _ = _; rw [HX.out, hpre]
      have htl := HTL.out i
      clear hx HX hpre
      subst hA
      generalize lenI (l.take i) = S at *
      have c0 := hk.cell_ 0 rfl
      have c1 := hk.cell_ 1 rfl
      have c2 := hk.cell_ 2 rfl
      go_wp2_with fail
      refine wp_region_quiet (C := fun w' => ∃ u : Since W, w' = u.w) (by kernel_rfl) (by kernel_rfl) (Since.start W) ?_
      dsimp only
      have y_c0 := Since.cell c0
      have y_c1 := Since.cell c1
      have y_c2 := Since.cell c2
      have y_d0 := Since.cell d0
      have y_d1 := Since.cell d1
      clear c0 c1 c2
      repeat (go_big_quiet_step ((fail)))
      refine wpQuiet_nil ?_
      rintro W ⟨⟨_, hb⟩, rfl⟩
      try dsimp only at hb ⊢
      replace d0 : W.cell? _ = _ := y_d0 ⟨W, hb⟩
      replace d1 : W.cell? _ = _ := y_d1 ⟨W, hb⟩
      clear y_c0 y_c1 y_c2 y_d0 y_d1
      replace hk := hk.below hb hk.lt
      replace hB := hB.trans (hb.mono hB.size)
      clear hb
      have c0 := hk.cell_ 0 rfl
      have c1 := hk.cell_ 1 rfl
      have c2 := hk.cell_ 2 rfl
      go_wp2_with fail
      go_roundw
      case rel => exact ⟨i + 1, by rw [HX2.out], by go_num, by omega, hk, hB⟩
      case measure => simp [intOf]; omega
    · obtain rfl : i = l.length := by omega
      rw [show lenI (l.take l.length) = lenI l by rw [List.take_length]]
      have c0 := hk.cell_ 0 rfl
      have c1 := hk.cell_ 1 rfl
      have c2 := hk.cell_ 2 rfl
      go_wp2_with fail
      go_ret
      exact ⟨rfl, hB⟩
def rlE (L K : Int) (l : List Ask) (pl : List Bat) : Int := if chkE L K l pl = 0 then rollsI pl else 0
def wsE (L K : Int) (l : List Ask) (pl : List Bat) : Int := if chkE L K l pl = 0 then rollsI pl * L - lenI l else 0
theorem check_is (L K : Int) (A : Option Addr) (c : Nat) (l : List Ask) (AB : Option Addr) (cB : Nat) (bs : List Bt) (pl : List Bat) (w : World) (hS : Slc Ask.enc 2 w w.heap.size A l) (hP : PlanAt w AB bs pl) (hl : pl.length ≤ 100000) {v : Int} (h : chkE L K l pl = v) :
    Calls Tryd.prog 21 #[.agg #[.int .i64 L, .int .i64 K, .slice A l.length c], .slice AB pl.length cB] w fun e w' => e = .returned (.int .i64 v) ∧ Below w.heap.size w w' := by
  subst h; exact check_any L K A c l AB cB bs pl w hS hP hl
theorem refCheck_is (L K : Int) (A : Option Addr) (c : Nat) (l : List Ask) (AB : Option Addr) (cB : Nat) (bs : List Bt) (pl : List Bat) (w : World) (hS : Slc Ask.enc 2 w w.heap.size A l) (hP : PlanAt w AB bs pl) (hl : pl.length ≤ 100000) {v : Int} (h : chkE L K l pl = v) :
    Calls Tryd.prog 12 #[.agg #[.int .i64 L, .int .i64 K, .slice A l.length c], .slice AB pl.length cB] w fun e w' => e = .returned (.int .i64 v) ∧ Below w.heap.size w w' := by
  subst h; exact refCheck_any L K A c l AB cB bs pl w hS hP
set_option maxRecDepth 100000 in
theorem apiRolls_any (L K : Int) (A : Option Addr) (c : Nat) (l : List Ask) (AB : Option Addr) (cB : Nat) (bs : List Bt) (pl : List Bat) (w : World) (hS : Slc Ask.enc 2 w w.heap.size A l) (hP : PlanAt w AB bs pl) (hl : pl.length ≤ 100000) :
    Calls Tryd.prog 9 #[.agg #[.int .i64 L, .int .i64 K, .slice A l.length c], .slice AB pl.length cB] w fun e w' => e = .returned (.tuple #[.int .i64 (rlE L K l pl), .int .i64 (chkE L K l pl)]) ∧ Below w.heap.size w w' := by
  have hk := Blk.new w 24 #[.int .i64 L, .int .i64 K, .slice A l.length c]
  have hB := (Below.refl w.heap.size w).alloc (Nat.le_refl _) (.cells #[.int .i64 L, .int .i64 K, .slice A l.length c] 24)
  go_enter Tryd.func9, Tryd.ntmps9
  go_upto_region 1 with fail
  generalize w.alloc (.cells #[.int .i64 L, .int .i64 K, .slice A l.length c] 24) = W at *
  have c0 := hk.cell_ 0 rfl
  have c1 := hk.cell_ 1 rfl
  have c2 := hk.cell_ 2 rfl
  obtain ⟨E, hE⟩ : ∃ E, chkE L K l pl = E := ⟨_, rfl⟩
  have HE := hide hE
  clear hE
  go_wp2_with fail
  refine (check_is L K A c l AB cB bs pl _ (hS.on hB) (hP.on hB) hl HE.out).mono ?_
  rintro e W ⟨rfl, hb⟩
  clear c0 c1 c2
  replace hk := hk.below hb hk.lt
  replace hB := hB.trans (hb.mono hB.size)
  clear hb
  have c0 := hk.cell_ 0 rfl
  have c1 := hk.cell_ 1 rfl
  have c2 := hk.cell_ 2 rfl
  by_cases h0 : E = 0
  · subst h0
    have HZ := hide (chk_zero HE.out)
    have HR : Hid (rlE L K l pl = rollsI pl) := by show _ = _; unfold rlE; rw [if_pos HE.out]
    go_wp2_with fail
    refine (rolls_any l.length AB cB bs pl _ (hP.on hB) HZ.out.2.1).mono ?_
    rintro e W ⟨rfl, hb⟩
    clear c0 c1 c2
    replace hk := hk.below hb hk.lt
    replace hB := hB.trans (hb.mono hB.size)
    clear hb
    have c0 := hk.cell_ 0 rfl
    have c1 := hk.cell_ 1 rfl
    have c2 := hk.cell_ 2 rfl
    go_wp2_with fail
    go_ret2
    exact ⟨by rw [HE.out, HR.out]; rfl, hB⟩
  · have HR : Hid (rlE L K l pl = 0) := by show _ = _; unfold rlE; rw [if_neg (by rw [HE.out]; exact h0)]
    have hne : (E != 0) = true := by simp [h0]
    clear h0
    go_wp2_with fail
    go_ret2
    exact ⟨by rw [HE.out, HR.out]; rfl, hB⟩
end Go.Proofs.YtkcfalehebacpaaDoor

/- Waste of both texts: the walks. -/
namespace Go.Proofs.YtkcfalehebacpaaDoor
open Go Go.RowKit
theorem rolls_is (n : Nat) (AB : Option Addr) (cB : Nat) (bs : List Bt) (pl : List Bat) (w : World) (hP : PlanAt w AB bs pl) (hs : shapedP n pl = true) {v : Int} (h : rollsI pl = v) :
    Calls Tryd.prog 22 #[.slice AB pl.length cB] w fun e w' => e = .returned (.int .i64 v) ∧ Below w.heap.size w w' := by
  subst h; exact rolls_any n AB cB bs pl w hP hs
theorem lengths_is (L K : Int) (A : Option Addr) (c : Nat) (l : List Ask) (w : World) (hS : Slc Ask.enc 2 w w.heap.size A l) (hv : VK L K l) {v : Int} (h : lenI l = v) :
    Calls Tryd.prog 11 #[.agg #[.int .i64 L, .int .i64 K, .slice A l.length c]] w fun e w' => e = .returned (.int .i64 v) ∧ Below w.heap.size w w' := by
  subst h; exact lengths_any L K A c l w hS hv
set_option maxRecDepth 100000 in
set_option maxHeartbeats 1000000 in
theorem apiWaste_any (L K : Int) (A : Option Addr) (c : Nat) (l : List Ask) (AB : Option Addr) (cB : Nat) (bs : List Bt) (pl : List Bat) (w : World) (hS : Slc Ask.enc 2 w w.heap.size A l) (hP : PlanAt w AB bs pl) (hl : pl.length ≤ 100000) :
    Calls Tryd.prog 10 #[.agg #[.int .i64 L, .int .i64 K, .slice A l.length c], .slice AB pl.length cB] w fun e w' => e = .returned (.tuple #[.int .i64 (wsE L K l pl), .int .i64 (chkE L K l pl)]) ∧ Below w.heap.size w w' := by
  have hk := Blk.new w 24 #[.int .i64 L, .int .i64 K, .slice A l.length c]
  have hB := (Below.refl w.heap.size w).alloc (Nat.le_refl _) (.cells #[.int .i64 L, .int .i64 K, .slice A l.length c] 24)
  go_enter Tryd.func10, Tryd.ntmps10
  go_upto_region 1 with fail
  generalize w.alloc (.cells #[.int .i64 L, .int .i64 K, .slice A l.length c] 24) = W at *
  have c0 := hk.cell_ 0 rfl
  have c1 := hk.cell_ 1 rfl
  have c2 := hk.cell_ 2 rfl
  obtain ⟨E, hE⟩ : ∃ E, chkE L K l pl = E := ⟨_, rfl⟩
  have HE := hide hE
  clear hE
  go_wp2_with fail
  refine (check_is L K A c l AB cB bs pl _ (hS.on hB) (hP.on hB) hl HE.out).mono ?_
  rintro e W ⟨rfl, hb⟩
  clear c0 c1 c2
  replace hk := hk.below hb hk.lt
  replace hB := hB.trans (hb.mono hB.size)
  clear hb
  have c0 := hk.cell_ 0 rfl
  have c1 := hk.cell_ 1 rfl
  have c2 := hk.cell_ 2 rfl
  by_cases h0 : ¬ E = 0
  · have HR : Hid (wsE L K l pl = 0) := by show _ = _; unfold wsE; rw [if_neg (by rw [HE.out]; exact h0)]
    have hne : (E != 0) = true := by simp [h0]
    clear h0
    go_wp2_with fail
    go_ret2
    exact ⟨by rw [HE.out, HR.out]; rfl, hB⟩
  obtain rfl : E = 0 := Classical.not_not.1 h0
  clear h0
  have HZ := hide (chk_zero HE.out)
  have HR : Hid (wsE L K l pl = rollsI pl * L - lenI l) := by show _ = _; unfold wsE; rw [if_pos HE.out]
  have HVK := hide (validK_iff.1 HZ.out.1)
  obtain ⟨⟨vL1, vL2⟩, _, hl8, _⟩ := HVK.out
  have htr := rollsI_take HZ.out.2.1 pl.length
  rw [List.take_length] at htr
  obtain ⟨r, hr⟩ : ∃ r, rollsI pl = r := ⟨_, rfl⟩
  rw [hr] at htr
  obtain ⟨rp, hrp⟩ : ∃ rp, r * L = rp := ⟨_, rfl⟩
  have hrb : 0 ≤ rp ∧ rp ≤ 1000000000 := by
    subst hrp
    refine ⟨Int.mul_nonneg htr.1 (by omega), ?_⟩
    calc r * L ≤ 1000000 * 1000 := Int.mul_le_mul htr.2 vL2 (by omega) (by omega)
      _ ≤ 1000000000 := by omega
  have e1 : IntKind.i64.wrap (r * L) = rp := by rw [hrp]; exact IntWalk.i64_in _ (by omega)
  have HR2 : Hid (wsE L K l pl = rp - lenI l) := by show _ = _; rw [HR.out, hr, hrp]
  have HRO := hide hr
  have HTL := hide (lenI_take HVK.out)
  have T1 := hide (hP.on hB)
  have T2 := hide (hS.on hB)
  clear hr hrp HR
  go_wp2_with fail
  refine wp_region_quiet (C := fun w' => ∃ u : Since W, w' = u.w) (by kernel_rfl) (by kernel_rfl) (Since.start W) ?_
  dsimp only
  have y_c0 := Since.cell c0
  have y_c1 := Since.cell c1
  have y_c2 := Since.cell c2
  clear c0 c1 c2
  repeat (go_big_quiet_step ((go_at_call 22; exact Since.calls (rolls_is l.length AB cB bs pl _ (PlanAt.on T1.out (Since.h _)) HZ.out.2.1 HRO.out))))
  refine wpQuiet_nil ?_
  rintro W ⟨⟨_, hb⟩, rfl⟩
  try dsimp only at hb ⊢
  clear y_c0 y_c1 y_c2
  replace hk := hk.below hb hk.lt
  replace hB := hB.trans (hb.mono hB.size)
  clear hb
  have c0 := hk.cell_ 0 rfl
  have c1 := hk.cell_ 1 rfl
  have c2 := hk.cell_ 2 rfl
  clear e1
  go_wp2_with fail
  clear c0 c1 c2
  go_loopw [7, 24] (fun x y W => ∃ (i : Nat), x = .int .i64 (rp - lenI (l.take i)) ∧ y = .int .i64 i ∧ i ≤ l.length ∧ Blk W w.heap.size 24 #[.int .i64 L, .int .i64 K, .slice A l.length c] ∧ Below w.heap.size w W) (fun x y _ => l.length - (intOf y).toNat)
  case atStart => exact ⟨0, by show Value.int .i64 rp = _; rw [show lenI (l.take 0) = 0 from rfl, Int.sub_zero], rfl, Nat.zero_le _, hk, hB⟩
  case round =>
    clear hk hB
    obtain ⟨W, rfl⟩ : ∃ W : World, W = wr := ⟨_, rfl⟩
    obtain ⟨i, rfl, rfl, hi, hk, hB⟩ := hrel
    by_cases hlt : i < l.length
    · obtain ⟨⟨ln, cn⟩, b, off, hx, hA, _, d0, d1⟩ := ask_at (hS.below hB) hlt
      have hii : (i : Int) < (l.length : Int) := by omega
      have hat := aterm_ok HVK.out (List.mem_of_getElem? hx)
      have HX := hide (lenI_snoc hx)
      dsimp only at d0 d1 hat
      obtain ⟨pr, hpre⟩ : ∃ pr, cn * ln = pr := ⟨_, rfl⟩
      rw [hpre] at hat
      have e1 : IntKind.i64.wrap (cn * ln) = pr := by rw [hpre]; exact IntWalk.i64_in _ (by omega)
      have HX2 : Hid (lenI (l.take (i + 1)) = lenI (l.take i) + pr) := by show _ = _; rw [HX.out, hpre]
      have htl := HTL.out i
      clear hx HX hpre
      subst hA
      generalize lenI (l.take i) = S at *
      have c0 := hk.cell_ 0 rfl
      have c1 := hk.cell_ 1 rfl
      have c2 := hk.cell_ 2 rfl
      have q_c0 := (hk.alloc (.cells #[.int .i64 ln, .int .i64 cn] 46)).cell_ 0 rfl
      have q_c1 := (hk.alloc (.cells #[.int .i64 ln, .int .i64 cn] 46)).cell_ 1 rfl
      have q_c2 := (hk.alloc (.cells #[.int .i64 ln, .int .i64 cn] 46)).cell_ 2 rfl
      go_upto_region 8 with fail
      clear q_c0 q_c1 q_c2
      clear c0 c1 c2
      have hm := Blk.new W 46 #[.int .i64 ln, .int .i64 cn]
      replace hk := hk.alloc (.cells #[.int .i64 ln, .int .i64 cn] 46)
      have hsz_bx : (W.alloc (.cells #[.int .i64 ln, .int .i64 cn] 46)).heap.size = W.heap.size + 1 := by simp
      have bxge := hB.size
      replace hB := hB.alloc hB.size (.cells #[.int .i64 ln, .int .i64 cn] 46)
      generalize hbx : W.heap.size = bx at *
      generalize W.alloc (.cells #[.int .i64 ln, .int .i64 cn] 46) = W at *
      clear hbx
      have c0 := hk.cell_ 0 rfl
      have c1 := hk.cell_ 1 rfl
      have c2 := hk.cell_ 2 rfl
      have m0 := hm.cell_ 0 rfl
      have m1 := hm.cell_ 1 rfl
      clear d0 d1
      go_wp2_with fail
      go_roundw
      case rel => exact ⟨i + 1, by rw [HX2.out]; go_num, by go_num, by omega, hk, hB⟩
      case measure => simp [intOf]; omega
    · obtain rfl : i = l.length := by omega
      rw [show lenI (l.take l.length) = lenI l by rw [List.take_length]]
      have c0 := hk.cell_ 0 rfl
      have c1 := hk.cell_ 1 rfl
      have c2 := hk.cell_ 2 rfl
      go_wp2_with fail
      go_ret2
      exact ⟨by rw [HE.out, HR2.out]; rfl, hB⟩
end Go.Proofs.YtkcfalehebacpaaDoor

/- few of the law: at most so many pieces. -/
namespace Go.Proofs.YtkcfalehebacpaaDoor
open Go Go.RowKit
def cntT (l : List Ask) : Int := (l.map fun a => max 0 a.cnt).sum
def fewB (most : Int) (l : List Ask) : Bool := l.all (fun a => decide (a.cnt ≤ most)) && decide (cntT l ≤ most)
theorem cntT_snoc {l : List Ask} {i : Nat} {a : Ask} (h : l[i]? = some a) : cntT (l.take (i + 1)) = cntT (l.take i) + max 0 a.cnt := by
  unfold cntT
  rw [List.take_add_one, h, Option.toList_some, List.map_append, List.sum_append]; simp
theorem few_all {most : Int} {l : List Ask} (h : l.all (fun a => decide (a.cnt ≤ most)) = false) : fewB most l = false := by unfold fewB; rw [h]; rfl
end Go.Proofs.YtkcfalehebacpaaDoor

/- CutMore: the plain law. A longer roll, a lesser kerf, fewer pieces. -/
namespace Go.Proofs.YtkcfalehebacpaaDoor
open Go Go.RowKit
theorem few_total {L K : Int} : ∀ {l : List Ask}, (∀ a ∈ l, 0 ≤ a.cnt) → ((wdG K l).length : Int) = cntT l
  | [], _ => rfl
  | a :: l, h => by
    have ih := few_total (L := L) (K := K) (l := l) fun x hx => h x (List.mem_cons_of_mem _ hx)
    have h0 := h a (List.mem_cons_self ..)
    unfold wdG cntT at ih ⊢
    rw [List.flatMap_cons, List.length_append, List.length_replicate, List.map_cons, List.sum_cons]
    push_cast
    rw [ih, Int.max_eq_right h0]
    omega
theorem few_len {L K most : Int} {l : List Ask} (hv : VK L K l) (h : fewB most l = true) : ((wdG K l).length : Int) ≤ most := by
  rw [few_total (L := L) fun a ha => (hv.ask a ha).2.1]
  unfold fewB at h
  rw [Bool.and_eq_true, decide_eq_true_eq] at h
  exact h.2
theorem few_of {L K most : Int} {l : List Ask} (hv : VK L K l) (h : ((wdG K l).length : Int) ≤ most) : fewB most l = true := by
  have ht := few_total (L := L) (K := K) (l := l) fun a ha => (hv.ask a ha).2.1
  have hge : ∀ (m : List Ask), (∀ x ∈ m, 0 ≤ x.cnt) → ∀ x ∈ m, x.cnt ≤ cntT m ∧ 0 ≤ cntT m := by
    intro m
    induction m with
    | nil => intro _ x hx; cases hx
    | cons y m ih =>
      intro hm x hx
      have h1 := hm y (List.mem_cons_self ..)
      have e : cntT (y :: m) = y.cnt + cntT m := by unfold cntT; rw [List.map_cons, List.sum_cons, Int.max_eq_right h1]
      have h3 : 0 ≤ cntT m := by
        cases m with
        | nil => exact Int.le_refl _
        | cons z m => exact (ih (fun x hx => hm x (List.mem_cons_of_mem _ hx)) z (List.mem_cons_self ..)).2
      rcases List.mem_cons.1 hx with rfl | hx
      · omega
      · have := ih (fun x hx => hm x (List.mem_cons_of_mem _ hx)) x hx
        omega
  unfold fewB
  rw [Bool.and_eq_true, decide_eq_true_eq, List.all_eq_true]
  refine ⟨fun a ha => ?_, by omega⟩
  rw [decide_eq_true_eq]
  have := (hge l (fun a ha => (hv.ask a ha).2.1) a ha).1
  omega
theorem VK.long {L K L1 : Int} {l : List Ask} (h : VK L K l) (h1 : L ≤ L1) (h2 : L1 ≤ 1000) : VK L1 K l :=
  ⟨⟨by have := h.hL; omega, h2⟩, h.hK, h.few, fun a ha => by have := h.ask a ha; omega⟩
theorem VK.thin {L K K1 : Int} {l : List Ask} (h : VK L K l) (h1 : 0 ≤ K1) (h2 : K1 ≤ K) : VK L K1 l :=
  ⟨h.hL, ⟨h1, by have := h.hK; omega⟩, h.few, h.ask⟩
theorem VK.less {L K : Int} {l : List Ask} (h : VK L K l) {i : Nat} {a : Ask} (ha : l[i]? = some a) {k : Int} (h1 : 0 ≤ k) (h2 : k ≤ a.cnt) : VK L K (l.set i ⟨a.len, k⟩) :=
  ⟨h.hL, h.hK, by rw [List.length_set]; exact h.few, fun x hx => by
    rcases List.mem_or_eq_of_mem_set hx with h3 | h3
    · exact h.ask x h3
    · subst h3
      have := h.ask a (List.mem_of_getElem? ha)
      dsimp only
      omega⟩
theorem wdG_thin (K K1 : Int) (l : List Ask) : wdG K1 l = (wdG K l).map (· - (K - K1)) := by
  unfold wdG
  rw [List.map_flatMap]
  congr 1
  funext a
  rw [List.map_replicate, show a.len + K - (K - K1) = a.len + K1 by omega]
theorem wdG_less {L K : Int} {l : List Ask} (hv : VK L K l) {i : Nat} {a : Ask} (ha : l[i]? = some a) {k : Int} (h1 : 0 ≤ k) (h2 : k ≤ a.cnt) : ∃ xs : List Int, (∀ x ∈ xs, 0 ≤ x) ∧ (xs ++ wdG K (l.set i ⟨a.len, k⟩)).Perm (wdG K l) := by
  obtain ⟨p1, p2⟩ := List.getElem?_eq_some_iff.1 ha
  have e1 : l = l.take i ++ a :: l.drop (i + 1) := by rw [← p2, ← List.drop_eq_getElem_cons p1, List.take_append_drop]
  have e2 : l.set i ⟨a.len, k⟩ = l.take i ++ ⟨a.len, k⟩ :: l.drop (i + 1) := by rw [List.set_eq_take_append_cons_drop, if_pos p1]
  have hak := hv.ask a (List.mem_of_getElem? ha)
  have hK := hv.hK
  refine ⟨List.replicate (a.cnt.toNat - k.toNat) (a.len + K), fun x hx => by rw [(List.mem_replicate.1 hx).2]; omega, ?_⟩
  rw [e2]
  conv => rhs; rw [e1]
  unfold wdG
  rw [List.flatMap_append, List.flatMap_append, List.flatMap_cons, List.flatMap_cons]
  dsimp only
  have e3 : List.replicate a.cnt.toNat (a.len + K) = List.replicate (a.cnt.toNat - k.toNat) (a.len + K) ++ List.replicate k.toNat (a.len + K) := by
    rw [List.replicate_append_replicate]; congr 1; omega
  rw [e3, List.append_assoc]
  rw [← List.append_assoc]
  refine (List.perm_append_comm.append_right _).trans ?_
  rw [List.append_assoc]
theorem more_long {L K L1 : Int} {l : List Ask} {n a : Nat} (h : LeastPk (L + K) (wdG K l) n) (g : LeastPk (L1 + K) (wdG K l) a) (hL : L ≤ L1) : a ≤ n := g.2 n (h.1.wide (by omega))
theorem more_thin {L K K1 : Int} {l : List Ask} {n a : Nat} (h : LeastPk (L + K) (wdG K l) n) (g : LeastPk (L + K1) (wdG K1 l) a) (h1 : K1 ≤ K) (h2 : 0 ≤ L + K1) : a ≤ n := by
  have h3 := h.1.thin (d := K - K1) (by omega) (by omega)
  rw [← wdG_thin, show L + K - (K - K1) = L + K1 by omega] at h3
  exact g.2 n h3
theorem more_less {L K : Int} {l : List Ask} {n d : Nat} (hv : VK L K l) {i : Nat} {a : Ask} (ha : l[i]? = some a) {k : Int} (h1 : 0 ≤ k) (h2 : k ≤ a.cnt) (h : LeastPk (L + K) (wdG K l) n) (g : LeastPk (L + K) (wdG K (l.set i ⟨a.len, k⟩)) d) : d ≤ n := by
  obtain ⟨xs, x1, x2⟩ := wdG_less hv ha h1 h2
  exact g.2 n (Packs.drop x1 (h.1.perm x2.symm))
theorem less_len {L K : Int} {l : List Ask} (hv : VK L K l) {i : Nat} {a : Ask} (ha : l[i]? = some a) {k : Int} (h1 : 0 ≤ k) (h2 : k ≤ a.cnt) : (wdG K (l.set i ⟨a.len, k⟩)).length ≤ (wdG K l).length := by
  obtain ⟨xs, _, x2⟩ := wdG_less hv ha h1 h2
  have := x2.length_eq
  rw [List.length_append] at this
  omega
/-- what Least returns where all is right -/
theorem least_ok {L K n E : Int} {l : List Ask} (h : LeastV L K l n E) (hv : VK L K l) (h10 : (wdG K l).length ≤ 10) : E = 0 ∧ ∃ k : Nat, n = k ∧ LeastPk (L + K) (wdG K l) k := h.2.2 (validK_iff.2 hv) h10
end Go.Proofs.YtkcfalehebacpaaDoor

/- CutLong: the walk. -/
namespace Go.Proofs.YtkcfalehebacpaaDoor
open Go Go.RowKit
theorem shaped_long {n : Nat} {bs : List Bt} (h : 1000 < bs.length) : shapedB n bs = false := by
  unfold shapedB
  rw [decide_eq_false (by omega)]; rfl
theorem refKValidE_is (L K : Int) (A : Option Addr) (c : Nat) (l : List Ask) (w : World) (hS : Slc Ask.enc 2 w w.heap.size A l) {v : Bool} (h : validK L K l = v) :
    Calls Tryd.prog 5 #[.agg #[.int .i64 L, .int .i64 K, .slice A l.length c]] w fun e w' => e = .returned (.bool v) ∧ Below w.heap.size w w' := by
  subst h; exact refKValid_any L K A c l w hS
theorem wide_is (L K : Int) (A : Option Addr) (c : Nat) (l : List Ask) (AB : Option Addr) (cB n : Nat) (bs : List Bt) (w : World) (hS : Slc Bt.enc 2 w w.heap.size AB bs) (hn : bs.length = n) {v : Bool} (h : wideP l.length bs = v) :
    Calls Tryd.prog 4 #[.agg #[.int .i64 L, .int .i64 K, .slice A l.length c], .slice AB n cB] w fun e w' => e = .returned (.bool v) ∧ Below w.heap.size w w' := by
  subst h hn; exact wide_any L K A c l AB cB bs w hS
end Go.Proofs.YtkcfalehebacpaaDoor
