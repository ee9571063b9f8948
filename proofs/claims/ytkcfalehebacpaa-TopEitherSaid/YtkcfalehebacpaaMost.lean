/- most: the walk. -/
import Derived.Test.YtkcfalehebacpaaGrow
import Derived.Test.YtkcfalehebacpaaRepeat
import Derived.Test.YtkcfalehebacpaaBestP
import Derived.Deep.RegionLaw
namespace Go.Proofs.Ytkcfalehebacpaa
open Go Go.RowKit
theorem map_flat : ∀ l : List Int, l.map (Value.int .i64) = l.flatMap intEnc
  | [] => rfl
  | x :: r => by rw [List.map_cons, List.flatMap_cons, map_flat r]; rfl
theorem intJ_own {w : World} {base : Nat} {A : Option Addr} {c : Nat} {l : List Int} {n : Nat} (h : Own w base 3 1 intEnc (.slice A n c) l) (hl : l ≠ []) : ∃ b js, A = some ⟨b, 0, none⟩ ∧ base ≤ b ∧ Blk w b 3 (intJ l js) := by
  rcases h.2 with ⟨_, h2⟩ | ⟨g, cap, cur, h1, h2, h3, _, _, _, h7⟩
  · exact absurd (List.length_eq_zero_iff.1 h2) hl
  · injection h1 with h1 _ _
    have e := map_flat l
    have e2 : cur = intJ l (cur.toList.drop (l.length * 1)) := by
      unfold intJ
      rw [e, ← h7, List.take_append_drop]
    refine ⟨g, cur.toList.drop (l.length * 1), h1, h2, ?_⟩
    show _ = _
    rw [h3]
    exact congrArg (fun x => some (Obj.cells x 3 (0, 0))) e2
theorem nit_at {w : World} {B : Nat} {A : Option Addr} {xs : List Nit} {k : Nat} (h : Slc Nit.enc 8 w B A xs) (hk : k < xs.length) :
    ∃ n b off, xs[k]? = some n ∧ A = some ⟨b, off, none⟩ ∧ b < B ∧ ∀ (j : Nat) v, n.enc[j]? = some v → w.cell? ⟨b, off + k * 8 + j, none⟩ = some v := by
  have hx : xs[k]? = some xs[k] := List.getElem?_eq_getElem hk
  obtain ⟨b, off, ha, hb, h0⟩ := h k _ hx
  exact ⟨xs[k], b, off, hx, ha, hb, h0⟩
def capOf (ns : List Nit) : List Int := ns.map Nit.pl
def MostPost (AC : Option Addr) (cC : Nat) (C : List (List Int)) (cap : List Int) (w : World) (e : Ending) (w' : World) : Prop :=
  ∃ g bp bn cP cN N P, e = .returned (.tuple #[.pointer (some ⟨g, 0, none⟩), .int .i64 (doneN N)]) ∧ Mem (fun b => b < w.heap.size) w' g AC cC cP cN bp bn C N P ∧ Below w.heap.size w w' ∧ w.heap.size ≤ g ∧ w.heap.size ≤ bp ∧ w.heap.size ≤ bn ∧ VM C cap N P ∧ StuckTo C N P C.length
theorem capOf_succ {ns : List Nit} {k : Nat} {n : Nit} (h : ns[k]? = some n) : capOf (ns.take (k + 1)) = capOf (ns.take k) ++ [n.pl] := by
  unfold capOf
  rw [List.take_add_one, h, List.map_append]; rfl
theorem vm_none {C : List (List Int)} {cap : List Int} (hC : ChOk C cap.length) (hcap : CapOk cap) : VM C cap (List.replicate C.length (-1)) cap := by
  refine vm_mk (by simp) hC hcap rfl (fun i v hv => ?_) (fun k hk => ?_) fun i v hv => (hcap i v hv).1
  · rw [List.getElem?_replicate] at hv
    split at hv
    · injection hv with hv; exact .inl hv.symm
    · cases hv
  · unfold cntN
    rw [List.count_replicate]
    have : ((-1 : Int) == (k : Int)) = false := by simp <;> omega
    rw [this]; simp
theorem reps_intJ (n : Nat) : (reps n n).toArray = intJ (List.replicate n (-1)) [] := by
  unfold reps intJ
  simp
theorem NestIn.wit {K : Nat → Prop} {w w' : World} {A : Option Addr} {ls : List (List Int)} {B : Nat} (h : NestIn K w A ls) (hb : Below B w w') (hK : ∀ b, K b → b < B) : NestIn K w' A ls := fun i l hl => by
  obtain ⟨b, off, A', c', h1, h2, h3, h4⟩ := h i l hl
  refine ⟨b, off, A', c', h1, h2, (hb.cell (p := ⟨b, off + i, none⟩) (hK b h2)).trans h3, fun j x hx => ?_⟩
  obtain ⟨b', off', g1, g2, g3⟩ := h4 j x hx
  exact ⟨b', off', g1, g2, (hb.cell (p := ⟨b', off' + j, none⟩) (hK b' g2)).trans g3⟩
set_option maxRecDepth 100000 in
set_option maxHeartbeats 4000000 in
theorem most_any (AC : Option Addr) (cC : Nat) (C : List (List Int)) (A : Option Addr) (c : Nat) (ns : List Nit) (w : World) (hNest : NestIn (fun b => b < w.heap.size) w AC C) (hS : Slc Nit.enc 8 w w.heap.size A ns)
    (hl1 : C.length ≤ 100) (hl2 : ns.length ≤ 100) (hcr : ∀ (i : Nat) l, C[i]? = some l → l.length ≤ 100) (hC : ChOk C (capOf ns).length) (hcap : CapOk (capOf ns)) :
    Calls Try.prog 26 #[.slice AC C.length cC, .slice A ns.length c] w (MostPost AC cC C (capOf ns) w) := by
  have HP := hide (And.intro hcr (And.intro hC hcap))
  clear hcr hC hcap
  have hx := Blk.new w 3 #[.int .i64 (-1)]
  have hB := (Below.refl w.heap.size w).alloc (Nat.le_refl _) (.cells #[.int .i64 (-1)] 3)
  have hsz : (w.alloc (.cells #[.int .i64 (-1)] 3)).heap.size = w.heap.size + 1 := by simp
  go_enter Try.func26, Try.ntmps26
  go_wp2_with fail
  generalize w.alloc (.cells #[.int .i64 (-1)] 3) = W at *
  refine (repeat_any w.heap.size C.length hl1 W hx).mono ?_
  rintro e W ⟨bn, rfl, hb, hbn, hN⟩
  replace hx := hx.below hb hx.lt
  replace hB := hB.trans (hb.mono hB.size)
  clear hb
  have x0 := hx.cell_ 0 rfl
  have hN0 : Blk W bn 3 (intJ (List.replicate C.length (-1)) []) := by rw [← reps_intJ]; exact hN
  clear hN
  have q_x0 := (hx.alloc (.cells #[.slice AC C.length cC, .slice none 0 0, .slice (some ⟨bn, 0, none⟩) C.length C.length] 80)).cell_ 0 rfl
  go_wp2_with fail
  clear q_x0
  clear x0
  have hG := Blk.new W 80 #[.slice AC C.length cC, .slice none 0 0, .slice (some ⟨bn, 0, none⟩) C.length C.length]
  replace hx := hx.alloc (.cells #[.slice AC C.length cC, .slice none 0 0, .slice (some ⟨bn, 0, none⟩) C.length C.length] 80)
  replace hN0 := hN0.alloc (.cells #[.slice AC C.length cC, .slice none 0 0, .slice (some ⟨bn, 0, none⟩) C.length C.length] 80)
  have hsz_bg : (W.alloc (.cells #[.slice AC C.length cC, .slice none 0 0, .slice (some ⟨bn, 0, none⟩) C.length C.length] 80)).heap.size = W.heap.size + 1 := by simp
  have bgge := hB.size
  replace hB := hB.alloc hB.size (.cells #[.slice AC C.length cC, .slice none 0 0, .slice (some ⟨bn, 0, none⟩) C.length C.length] 80)
  generalize hbg : W.heap.size = bg at *
  generalize W.alloc (.cells #[.slice AC C.length cC, .slice none 0 0, .slice (some ⟨bn, 0, none⟩) C.length C.length] 80) = W at *
  clear hbg
  have x0 := hx.cell_ 0 rfl
  have g0 := hG.cell_ 0 rfl
  have g1 := hG.cell_ 1 rfl
  have g2 := hG.cell_ 2 rfl
  clear x0 g0 g1 g2
  have hO : Own W (bg + 1) 3 1 intEnc (.slice none 0 0) [] := Own.nil_
  have hbg : bn < bg := by
    have h1 := hN0.lt
    have h2 := hN0.ne_ hG (by decide)
    omega
  have hz : bg + 1 ≤ W.heap.size := hG.lt
  go_loopw [18] (fun y W => ∃ (k : Nat) (v : Value), y = .int .i64 k ∧ k ≤ ns.length ∧ (k = 0 → v = .slice none 0 0) ∧ Blk W w.heap.size 3 #[.int .i64 (-1)] ∧ Blk W bn 3 (intJ (List.replicate C.length (-1)) []) ∧ Blk W bg 80 #[.slice AC C.length cC, v, .slice (some ⟨bn, 0, none⟩) C.length C.length] ∧ Own W (bg + 1) 3 1 intEnc v (capOf (ns.take k)) ∧ bg + 1 ≤ W.heap.size ∧ Below w.heap.size w W) (fun y _ => ns.length - (intOf y).toNat)
  case atStart => exact ⟨0, _, rfl, Nat.zero_le _, fun _ => rfl, hx, hN0, hG, hO, hz, hB⟩
  case round =>
    clear hx hN0 hG hO hz hB
    obtain ⟨W, rfl⟩ : ∃ W : World, W = wr := ⟨_, rfl⟩
    obtain ⟨k, v, rfl, hk, hv0, hx, hN0, hG, hO, hz, hB⟩ := hrel
    by_cases hlt : k < ns.length
    · obtain ⟨n, b, off, hn, hA, hb0, hcn⟩ := nit_at (hS.below hB) hlt
      have d0 := hcn 0 _ rfl
      rw [Nat.add_zero] at d0
      have d1 := hcn 1 _ rfl
      have d2 := hcn 2 _ rfl
      have d3 := hcn 3 _ rfl
      have d4 := hcn 4 _ rfl
      have d5 := hcn 5 _ rfl
      have d6 := hcn 6 _ rfl
      have d7 := hcn 7 _ rfl
      have hki : (k : Int) < (ns.length : Int) := by omega
      have HC := hide (capOf_succ hn)
      clear hn hcn
      subst hA
      go_upto_region 5 with fail
      have hn := Blk.new W 69 #[.int .i64 n.day, .int .i64 n.road, .int .i64 n.lo, .int .i64 n.hi, .int .i64 n.crew, .int .i64 n.pl, .bool n.rain, .bool n.frost]
      replace hx := hx.alloc (.cells #[.int .i64 n.day, .int .i64 n.road, .int .i64 n.lo, .int .i64 n.hi, .int .i64 n.crew, .int .i64 n.pl, .bool n.rain, .bool n.frost] 69)
      replace hN0 := hN0.alloc (.cells #[.int .i64 n.day, .int .i64 n.road, .int .i64 n.lo, .int .i64 n.hi, .int .i64 n.crew, .int .i64 n.pl, .bool n.rain, .bool n.frost] 69)
      replace hG := hG.alloc (.cells #[.int .i64 n.day, .int .i64 n.road, .int .i64 n.lo, .int .i64 n.hi, .int .i64 n.crew, .int .i64 n.pl, .bool n.rain, .bool n.frost] 69)
      replace hO := hO.alloc (.cells #[.int .i64 n.day, .int .i64 n.road, .int .i64 n.lo, .int .i64 n.hi, .int .i64 n.crew, .int .i64 n.pl, .bool n.rain, .bool n.frost] 69)
      replace hz := Nat.le_trans hz ((Below.refl _ W).alloc (Nat.le_refl _) (.cells #[.int .i64 n.day, .int .i64 n.road, .int .i64 n.lo, .int .i64 n.hi, .int .i64 n.crew, .int .i64 n.pl, .bool n.rain, .bool n.frost] 69)).size
      have hsz_bm : (W.alloc (.cells #[.int .i64 n.day, .int .i64 n.road, .int .i64 n.lo, .int .i64 n.hi, .int .i64 n.crew, .int .i64 n.pl, .bool n.rain, .bool n.frost] 69)).heap.size = W.heap.size + 1 := by simp
      have bmge := hB.size
      replace hB := hB.alloc hB.size (.cells #[.int .i64 n.day, .int .i64 n.road, .int .i64 n.lo, .int .i64 n.hi, .int .i64 n.crew, .int .i64 n.pl, .bool n.rain, .bool n.frost] 69)
      generalize hbm : W.heap.size = bm at *
      generalize W.alloc (.cells #[.int .i64 n.day, .int .i64 n.road, .int .i64 n.lo, .int .i64 n.hi, .int .i64 n.crew, .int .i64 n.pl, .bool n.rain, .bool n.frost] 69) = W at *
      clear hbm
      have x0 := hx.cell_ 0 rfl
      have g0 := hG.cell_ 0 rfl
      have g1 := hG.cell_ 1 rfl
      have g2 := hG.cell_ 2 rfl
      have m0 := hn.cell_ 0 rfl
      have m1 := hn.cell_ 1 rfl
      have m2 := hn.cell_ 2 rfl
      have m3 := hn.cell_ 3 rfl
      have m4 := hn.cell_ 4 rfl
      have m5 := hn.cell_ 5 rfl
      have m6 := hn.cell_ 6 rfl
      have m7 := hn.cell_ 7 rfl
      clear d0 d1 d2 d3 d4 d5 d6 d7
      have hbm : bg < bm := by
        have h1 := hG.lt
        have h2 := hG.ne_ hn (by decide)
        omega
      clear hsz_bm
      have f1 := hG.frozen 1
      have g1a := (hG.alloc (.cells #[.int .i64 n.pl] 3)).cell_ 1 rfl
      have m5a := (hn.alloc (.cells #[.int .i64 n.pl] 3)).cell_ 5 rfl
      go_region_law (refine step_app _ _ rfl rfl et_ints (hO.alloc _).drew rfl rfl (y := n.pl) (Blk.new W _ _) rfl rfl rfl (by simp [capOf]; omega) (by simp; omega) ?_; intro v' W' hO' hb hgt; obtain ⟨A9, c9, rfl, _⟩ := hO'.form (fun _ => rfl); replace hG := ((hG.alloc (.cells #[.int .i64 n.pl] 3)).drew).below hb (by omega); replace hx := ((hx.alloc (.cells #[.int .i64 n.pl] 3)).drew).below hb (by omega); replace hN0 := ((hN0.alloc (.cells #[.int .i64 n.pl] 3)).drew).below hb (by omega); replace hB := ((hB.alloc hB.size (.cells #[.int .i64 n.pl] 3)).drew).trans (hb.mono (by omega)); have f1 := hG.frozen 1; have m1 := hG.cell_ 1 rfl)
      all_goals
        simp only [List.length_append, List.length_cons, List.length_nil, Nat.zero_add] at hO'
        rw [← HC.out] at hO'
        have hO2 := hO'.setBelow (p := ⟨bg, 1, none⟩) (show bg < bg + 1 by omega) (.slice A9 ((capOf (ns.take k)).length + 1) c9)
        have hG2 := hG.set_ 1 (.slice A9 ((capOf (ns.take k)).length + 1) c9)
        have hx2 := hx.far (p := ⟨bg, 1, none⟩) (by show w.heap.size ≠ bg; omega) (.slice A9 ((capOf (ns.take k)).length + 1) c9)
        have hN2 := hN0.far (p := ⟨bg, 1, none⟩) (by show bn ≠ bg; omega) (.slice A9 ((capOf (ns.take k)).length + 1) c9)
        have hB2 := hB.setCell (p := ⟨bg, 1, none⟩) (by show w.heap.size ≤ bg; omega) (.slice A9 ((capOf (ns.take k)).length + 1) c9)
        have hz2 : bg + 1 ≤ (W'.setCell ⟨bg, 1, none⟩ (.slice A9 ((capOf (ns.take k)).length + 1) c9)).heap.size := by simp; omega
        clear x0 g0 g1 g2 m0 m2 m3 m4 m5 m6 m7 g1a m5a f1 m1 hb
        go_wp2_with fail
        go_roundw
        case rel => exact ⟨k + 1, _, by go_num, by omega, fun h => absurd h (by omega), hx2, hN2, hG2, hO2, hz2, hB2⟩
        case measure => simp [intOf]; omega
    · obtain rfl : k = ns.length := by omega
      rw [List.take_length] at hO
      have hkey : ∃ bp js cP, v = .slice (adr bp (capOf ns)) (capOf ns).length cP ∧ Blk W bp 3 (intJ (capOf ns) js) ∧ bp ≠ bg ∧ bp ≠ bn ∧ w.heap.size ≤ bp := by
        by_cases h0 : ns = []
        · subst h0
          exact ⟨w.heap.size, [.int .i64 (-1)], 0, hv0 rfl, hx, by omega, by omega, Nat.le_refl _⟩
        · have hne : capOf ns ≠ [] := by unfold capOf; simpa using h0
          obtain ⟨A', c', hv, _⟩ := hO.form (fun _ => rfl)
          rw [hv] at hO
          obtain ⟨b, js, hA, hge, hbl⟩ := intJ_own hO hne
          refine ⟨b, js, c', ?_, hbl, by omega, by omega, by omega⟩
          rw [hv, hA, adr_pos (k := 0) (List.length_pos_iff.2 hne)]
      obtain ⟨bp, js, cP, rfl, hP, q1, q2, q3⟩ := hkey
      have hM : Mem (fun b => b < w.heap.size) W bg AC cC cP C.length bp bn C (List.replicate C.length (-1)) (capOf ns) :=
        ⟨by rw [List.length_replicate]; exact hG, hNest.wit hB (fun b h => h), ⟨js, hP⟩, ⟨[], hN0⟩, ⟨fun h => q1 h.symm, by omega, q2⟩, fun b hb => ⟨by omega, by omega⟩⟩
      have HB := hide hB
      clear hO hx hN0 hG hP hz hB
      go_wp2_with fail
      refine (grow_any (fun b => b < w.heap.size) bg AC cC cP C.length bp bn C (capOf ns) HP.out.1 (List.replicate C.length (-1)) (capOf ns) (by rw [List.length_replicate]; exact hl1) (by unfold capOf; rw [List.length_map]; exact hl2) W (fun b hb => Nat.lt_of_lt_of_le hb HB.out.size) hM (vm_none HP.out.2.1 HP.out.2.2)).mono ?_
      rintro e W2 ⟨N', P', rfl, hM2, hC2, hV2, hS2, _⟩
      have hB2 : Below w.heap.size w W2 := HB.out.trans (hC2.to_below HB.out.size fun q hq h => by
        rcases h with h | h <;> omega)
      have H2 := hide (And.intro hV2 hS2)
      clear hV2 hS2 hC2 hM
      go_wp2_with fail
      go_ret2
      exact ⟨bg, bp, bn, cP, _, N', P', rfl, hM2, hB2, by omega, q3, by omega, H2.out.1, H2.out.2⟩
end Go.Proofs.Ytkcfalehebacpaa
