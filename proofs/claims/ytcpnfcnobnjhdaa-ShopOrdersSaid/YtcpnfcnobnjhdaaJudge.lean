/- The judge of package shop: the walk. -/
import Derived.Test.YtcpnfcnobnjhdaaPlan
namespace Go.Proofs.Ytcpnfcnobnjhdaa
open Go.RowKit
theorem at7 {w : World} {B : Nat} {A : Option Addr} {xs : List At} {k : Nat} {x : At} (h : Slc At.enc 7 w B A xs) (hx : xs[k]? = some x) :
    ∃ b off, A = some ⟨b, off, none⟩ ∧ b < B ∧ w.cell? ⟨b, off + k * 7, none⟩ = some (.int .i64 x.j) ∧ w.cell? ⟨b, off + k * 7 + 1, none⟩ = some (.int .i64 x.k) ∧ w.cell? ⟨b, off + k * 7 + 2, none⟩ = some (.int .i64 x.t) ∧ w.cell? ⟨b, off + k * 7 + 3, none⟩ = some (.int .i64 x.x.m) ∧ w.cell? ⟨b, off + k * 7 + 4, none⟩ = some (.int .i64 x.x.mi) ∧ w.cell? ⟨b, off + k * 7 + 5, none⟩ = some (.int .i64 x.x.c) ∧ w.cell? ⟨b, off + k * 7 + 6, none⟩ = some (.int .i64 x.x.d) := by
  obtain ⟨b, off, ha, hb, hc⟩ := h k _ hx
  exact ⟨b, off, ha, hb, by simpa using hc 0 _ rfl, hc 1 _ rfl, hc 2 _ rfl, hc 3 _ rfl, hc 4 _ rfl, hc 5 _ rfl, hc 6 _ rfl⟩
theorem ret_eq3 {a b : Value} (h : a = b) : Ending.returned a = .returned b := by rw [h]
theorem Slc.drop_ {α : Type} {enc : α → List Value} {sz : Nat} {w : World} {B b off : Nat} {xs : List α} (h : Slc enc sz w B (some ⟨b, off, none⟩) xs) (n : Nat) : Slc enc sz w B (some ⟨b, off + n * sz, none⟩) (xs.drop n) := fun i x hx => by
  rw [List.getElem?_drop] at hx
  obtain ⟨b', off', hA, hb, hc⟩ := h _ x hx
  injection hA with hA
  injection hA with h1 h2
  subst h1 h2
  refine ⟨b, off + n * sz, rfl, hb, fun j v hv => ?_⟩
  have := hc j v hv
  rw [show off + n * sz + i * sz + j = off + (n + i) * sz + j by rw [Nat.add_mul]; omega]
  exact this
/-- what the two judges return -/
def JPost (p : Shop) (pl : List (List Int)) (w : World) (e : Ending) (w' : World) : Prop := e = .returned (V3 (judgeF p pl)) ∧ Below w.heap.size w w'
set_option maxRecDepth 100000 in
set_option maxHeartbeats 2000000 in
theorem judge_any (s : Sh) (A : Option Addr) (c : Nat) (pl : List (List Int)) (w : World) (hS : ShAt w w.heap.size s) (hv : VShop s.p) (hP : Plan w w.heap.size A pl) (hf : PFits pl) :
    Calls Try.prog 64 #[.agg #[.int .i64 s.p.op, .int .i64 s.p.cl, .slice s.aH s.p.hol.length s.cH, .int .i64 s.p.mach, .slice s.aS s.p.setup.length s.cS, .slice s.aJ s.p.jobs.length s.cJ], .slice A pl.length c] w (JPost s.p pl w) := by
  have hen := ents_len hv
  have v1 := hv.op0
  have v3 := hv.cl
  have HJ : Hid (judgeF s.p pl = if shapedB s.p pl then judgeL s.p (ats s.p pl) else (0, 0, 2)) := rfl
  have hk := Blk.new w 25 #[.int .i64 s.p.op, .int .i64 s.p.cl, .slice s.aH s.p.hol.length s.cH, .int .i64 s.p.mach, .slice s.aS s.p.setup.length s.cS, .slice s.aJ s.p.jobs.length s.cJ]
  have hB := (Below.refl w.heap.size w).alloc (Nat.le_refl _) (.cells #[.int .i64 s.p.op, .int .i64 s.p.cl, .slice s.aH s.p.hol.length s.cH, .int .i64 s.p.mach, .slice s.aS s.p.setup.length s.cS, .slice s.aJ s.p.jobs.length s.cJ] 25)
  go_enter Try.func64, Try.ntmps64
  go_wp2_with fail
  generalize w.alloc (.cells #[.int .i64 s.p.op, .int .i64 s.p.cl, .slice s.aH s.p.hol.length s.cH, .int .i64 s.p.mach, .slice s.aS s.p.setup.length s.cS, .slice s.aJ s.p.jobs.length s.cJ] 25) = W at *
  have c0 := hk.cell_ 0 rfl
  have c1 := hk.cell_ 1 rfl
  have c2 := hk.cell_ 2 rfl
  have c3 := hk.cell_ 3 rfl
  have c4 := hk.cell_ 4 rfl
  have c5 := hk.cell_ 5 rfl
  go_wp2_with fail
  refine (shaped_any s A c pl _ (hS.on hB) hv (hP.on hB) hf).mono ?_
  rintro e W ⟨rfl, hb⟩
  clear c0 c1 c2 c3 c4 c5
  replace hk := hk.below hb hk.lt
  replace hB := hB.trans (hb.mono hB.size)
  clear hb
  have c0 := hk.cell_ 0 rfl
  have c1 := hk.cell_ 1 rfl
  have c2 := hk.cell_ 2 rfl
  have c3 := hk.cell_ 3 rfl
  have c4 := hk.cell_ 4 rfl
  have c5 := hk.cell_ 5 rfl
  cases hsh : shapedB s.p pl
  · go_wp2_with fail
    go_ret3
    exact ⟨ret_eq (by rw [HJ.out, hsh]; rfl), hB⟩
  have hp := shaped_facts hsh
  have HJ2 := hide (show judgeF s.p pl = judgeL s.p (ats s.p pl) by rw [HJ.out, if_pos hsh])
  have hal := ats_len s.p pl
  have hal2 : (ats s.p pl).length ≤ 96 := by omega
  have HOK := hide (fun (a : At) (h : a ∈ ats s.p pl) => ats_ok hv hp h)
  have HPV := hide (fun (i : Nat) (a : At) (h : (ats s.p pl)[i]? = some a) (hk : 0 < a.k) => ats_prev h hk)
  clear HJ hsh hal
  go_wp2_with fail
  refine (list_any s A c pl _ (hS.on hB) hv (hP.on hB) hp).mono ?_
  rintro e W ⟨v, rfl, hb, hO⟩
  clear c0 c1 c2 c3 c4 c5
  replace hk := hk.below hb hk.lt
  replace hB := hB.trans (hb.mono hB.size)
  clear hb
  have c0 := hk.cell_ 0 rfl
  have c1 := hk.cell_ 1 rfl
  have c2 := hk.cell_ 2 rfl
  have c3 := hk.cell_ 3 rfl
  have c4 := hk.cell_ 4 rfl
  have c5 := hk.cell_ 5 rfl
  obtain ⟨AL, cL, rfl, hcap, hL⟩ := hO.form2 fun _ => rfl
  clear hO
  generalize ats s.p pl = L at *
  clear c0 c1 c2 c3 c4 c5
  go_wp2_with fail
  go_loopw [25] (fun x W => ∃ i : Nat, x = .int .i64 i ∧ i ≤ L.length ∧ Hid (shiftBad s.p L = shiftBad s.p (L.drop i)) ∧ Blk W w.heap.size 25 #[.int .i64 s.p.op, .int .i64 s.p.cl, .slice s.aH s.p.hol.length s.cH, .int .i64 s.p.mach, .slice s.aS s.p.setup.length s.cS, .slice s.aJ s.p.jobs.length s.cJ] ∧ Slc At.enc 7 W W.heap.size AL L ∧ Below w.heap.size w W) (fun x _ => L.length - (intOf x).toNat)
  case atStart => exact ⟨0, rfl, Nat.zero_le _, hide rfl, hk, hL, hB⟩
  case round =>
    clear hk hB hL
    obtain ⟨W, rfl⟩ : ∃ W : World, W = wr := ⟨_, rfl⟩
    obtain ⟨i, rfl, hi, HS, hk, hL, hB⟩ := hrel
    by_cases hlt : i < L.length
    · obtain ⟨a, ha⟩ : ∃ a, L[i]? = some a := ⟨_, List.getElem?_eq_getElem hlt⟩
      obtain ⟨b, off, hA, hb0, d0, d1, d2, d3, d4, d5, d6⟩ := at7 hL ha
      have hok := HOK.out a (List.mem_of_getElem? ha)
      have o1 := hok.t0
      have o2 := hok.t1
      have o3 := hok.mi0
      have o4 := hok.mi1
      have HST := hide (shiftBad_drop (p := s.p) ha)
      clear ha hok
      subst hA
      have c0 := hk.cell_ 0 rfl
      have c1 := hk.cell_ 1 rfl
      have c2 := hk.cell_ 2 rfl
      have c3 := hk.cell_ 3 rfl
      have c4 := hk.cell_ 4 rfl
      have c5 := hk.cell_ 5 rfl
      have q_c0 := (hk.alloc (.cells #[.int .i64 a.j, .int .i64 a.k, .int .i64 a.t, .int .i64 a.x.m, .int .i64 a.x.mi, .int .i64 a.x.c, .int .i64 a.x.d] 91)).cell_ 0 rfl
      have q_c1 := (hk.alloc (.cells #[.int .i64 a.j, .int .i64 a.k, .int .i64 a.t, .int .i64 a.x.m, .int .i64 a.x.mi, .int .i64 a.x.c, .int .i64 a.x.d] 91)).cell_ 1 rfl
      have q_c2 := (hk.alloc (.cells #[.int .i64 a.j, .int .i64 a.k, .int .i64 a.t, .int .i64 a.x.m, .int .i64 a.x.mi, .int .i64 a.x.c, .int .i64 a.x.d] 91)).cell_ 2 rfl
      have q_c3 := (hk.alloc (.cells #[.int .i64 a.j, .int .i64 a.k, .int .i64 a.t, .int .i64 a.x.m, .int .i64 a.x.mi, .int .i64 a.x.c, .int .i64 a.x.d] 91)).cell_ 3 rfl
      have q_c4 := (hk.alloc (.cells #[.int .i64 a.j, .int .i64 a.k, .int .i64 a.t, .int .i64 a.x.m, .int .i64 a.x.mi, .int .i64 a.x.c, .int .i64 a.x.d] 91)).cell_ 4 rfl
      have q_c5 := (hk.alloc (.cells #[.int .i64 a.j, .int .i64 a.k, .int .i64 a.t, .int .i64 a.x.m, .int .i64 a.x.mi, .int .i64 a.x.c, .int .i64 a.x.d] 91)).cell_ 5 rfl
      go_wp2_with fail
      clear q_c0 q_c1 q_c2 q_c3 q_c4 q_c5
      clear c0 c1 c2 c3 c4 c5
      have hx := Blk.new W 91 #[.int .i64 a.j, .int .i64 a.k, .int .i64 a.t, .int .i64 a.x.m, .int .i64 a.x.mi, .int .i64 a.x.c, .int .i64 a.x.d]
      replace hk := hk.alloc (.cells #[.int .i64 a.j, .int .i64 a.k, .int .i64 a.t, .int .i64 a.x.m, .int .i64 a.x.mi, .int .i64 a.x.c, .int .i64 a.x.d] 91)
      replace hL := (hL.below ((Below.refl _ W).alloc (Nat.le_refl _) (.cells #[.int .i64 a.j, .int .i64 a.k, .int .i64 a.t, .int .i64 a.x.m, .int .i64 a.x.mi, .int .i64 a.x.c, .int .i64 a.x.d] 91))).more ((Below.refl _ W).alloc (Nat.le_refl _) (.cells #[.int .i64 a.j, .int .i64 a.k, .int .i64 a.t, .int .i64 a.x.m, .int .i64 a.x.mi, .int .i64 a.x.c, .int .i64 a.x.d] 91)).size
      replace hB := hB.alloc hB.size (.cells #[.int .i64 a.j, .int .i64 a.k, .int .i64 a.t, .int .i64 a.x.m, .int .i64 a.x.mi, .int .i64 a.x.c, .int .i64 a.x.d] 91)
      generalize W.alloc (.cells #[.int .i64 a.j, .int .i64 a.k, .int .i64 a.t, .int .i64 a.x.m, .int .i64 a.x.mi, .int .i64 a.x.c, .int .i64 a.x.d] 91) = W at *
      have c0 := hk.cell_ 0 rfl
      have c1 := hk.cell_ 1 rfl
      have c2 := hk.cell_ 2 rfl
      have c3 := hk.cell_ 3 rfl
      have c4 := hk.cell_ 4 rfl
      have c5 := hk.cell_ 5 rfl
      have a0 := hx.cell_ 0 rfl
      have a1 := hx.cell_ 1 rfl
      have a2 := hx.cell_ 2 rfl
      have a3 := hx.cell_ 3 rfl
      have a4 := hx.cell_ 4 rfl
      have a5 := hx.cell_ 5 rfl
      have a6 := hx.cell_ 6 rfl
      clear d0 d1 d2 d3 d4 d5 d6
      go_wp2_with fail
      refine (inShift_any s a.t a.x.mi _ (hS.on hB) hv o1 (by omega) (by omega) (by omega)).mono ?_
      rintro e W ⟨rfl, hb⟩
      clear c0 c1 c2 c3 c4 c5 a0 a1 a2 a3 a4 a5 a6
      replace hk := hk.below hb hk.lt
      replace hL := (hL.below hb).more hb.size
      replace hx := hx.below hb hx.lt
      replace hB := hB.trans (hb.mono hB.size)
      clear hb
      have c0 := hk.cell_ 0 rfl
      have c1 := hk.cell_ 1 rfl
      have c2 := hk.cell_ 2 rfl
      have c3 := hk.cell_ 3 rfl
      have c4 := hk.cell_ 4 rfl
      have c5 := hk.cell_ 5 rfl
      have a0 := hx.cell_ 0 rfl
      have a1 := hx.cell_ 1 rfl
      have a2 := hx.cell_ 2 rfl
      have a3 := hx.cell_ 3 rfl
      have a4 := hx.cell_ 4 rfl
      have a5 := hx.cell_ 5 rfl
      have a6 := hx.cell_ 6 rfl
      cases hsb : shiftB s.p a.t a.x.mi
      · go_wp2_with fail
        refine wp_region_quiet (C := fun w' => ∃ u : Since W, w' = u.w) (by kernel_rfl) (by kernel_rfl) (Since.start W) ?_
        dsimp only
        have y_c0 := Since.cell c0
        have y_c1 := Since.cell c1
        have y_c2 := Since.cell c2
        have y_c3 := Since.cell c3
        have y_c4 := Since.cell c4
        have y_c5 := Since.cell c5
        have y_a0 := Since.cell a0
        have y_a1 := Since.cell a1
        have y_a2 := Since.cell a2
        have y_a3 := Since.cell a3
        have y_a4 := Since.cell a4
        have y_a5 := Since.cell a5
        have y_a6 := Since.cell a6
        clear c0 c1 c2 c3 c4 c5 a0 a1 a2 a3 a4 a5 a6
        repeat (go_big_quiet_step ((fail)))
        refine wpQuiet_nil ?_
        rintro W ⟨⟨_, hb⟩, rfl⟩
        try dsimp only at hb ⊢
        clear y_c0 y_c1 y_c2 y_c3 y_c4 y_c5 y_a0 y_a1 y_a2 y_a3 y_a4 y_a5 y_a6
        replace hk := hk.below hb hk.lt
        replace hL := (hL.below hb).more hb.size
        replace hx := hx.below hb hx.lt
        replace hB := hB.trans (hb.mono hB.size)
        clear hb
        have c0 := hk.cell_ 0 rfl
        have c1 := hk.cell_ 1 rfl
        have c2 := hk.cell_ 2 rfl
        have c3 := hk.cell_ 3 rfl
        have c4 := hk.cell_ 4 rfl
        have c5 := hk.cell_ 5 rfl
        have a0 := hx.cell_ 0 rfl
        have a1 := hx.cell_ 1 rfl
        have a2 := hx.cell_ 2 rfl
        have a3 := hx.cell_ 3 rfl
        have a4 := hx.cell_ 4 rfl
        have a5 := hx.cell_ 5 rfl
        have a6 := hx.cell_ 6 rfl
        go_wp2_with fail
        go_ret3
        exact ⟨ret_eq (by rw [HJ2.out]; unfold judgeL; rw [HS.out, HST.out, hsb]; rfl), hB⟩
      · go_wp2_with fail
        go_roundw
        case rel => exact ⟨i + 1, by go_num, by omega, (by show _ = _; rw [HS.out, HST.out, hsb]; rfl), hk, hL, hB⟩
        case measure => simp [intOf]; omega
    · obtain rfl : i = L.length := by omega
      have HS0 : Hid (shiftBad s.p L = none) := by show _ = _; rw [HS.out, nomore]; rfl
      clear HS
      have c0 := hk.cell_ 0 rfl
      have c1 := hk.cell_ 1 rfl
      have c2 := hk.cell_ 2 rfl
      have c3 := hk.cell_ 3 rfl
      have c4 := hk.cell_ 4 rfl
      have c5 := hk.cell_ 5 rfl
      go_wp2_with fail
      clear c0 c1 c2 c3 c4 c5
      go_loopw [44] (fun x W => ∃ (i : Nat) (dr : Int), x = .int .i64 i ∧ i ≤ L.length ∧ Hid (earlyBad 0 L = earlyBad dr (L.drop i)) ∧ Hid (∀ i', i = i' + 1 → ∃ b, L[i']? = some b ∧ dr = b.dry) ∧ Blk W w.heap.size 25 #[.int .i64 s.p.op, .int .i64 s.p.cl, .slice s.aH s.p.hol.length s.cH, .int .i64 s.p.mach, .slice s.aS s.p.setup.length s.cS, .slice s.aJ s.p.jobs.length s.cJ] ∧ Slc At.enc 7 W W.heap.size AL L ∧ Below w.heap.size w W) (fun x _ => L.length - (intOf x).toNat)
      case atStart => exact ⟨0, 0, rfl, Nat.zero_le _, hide rfl, hide fun i' h => by omega, hk, hL, hB⟩
      case round =>
        clear hk hB hL
        obtain ⟨W, rfl⟩ : ∃ W : World, W = wr := ⟨_, rfl⟩
        obtain ⟨i, dr, rfl, hi, HS, HPR, hk, hL, hB⟩ := hrel
        by_cases hlt : i < L.length
        · obtain ⟨a, ha⟩ : ∃ a, L[i]? = some a := ⟨_, List.getElem?_eq_getElem hlt⟩
          obtain ⟨b, off, hA, hb0, d0, d1, d2, d3, d4, d5, d6⟩ := at7 hL ha
          have hok := HOK.out a (List.mem_of_getElem? ha)
          have o1 := hok.t0
          have o2 := hok.t1
          have HST := hide (earlyBad_drop (dr := dr) ha)
          have HA := hide ha
          clear ha hok
          subst hA
          have c0 := hk.cell_ 0 rfl
          have c1 := hk.cell_ 1 rfl
          have c2 := hk.cell_ 2 rfl
          have c3 := hk.cell_ 3 rfl
          have c4 := hk.cell_ 4 rfl
          have c5 := hk.cell_ 5 rfl
          have q_c0 := (hk.alloc (.cells #[.int .i64 a.j, .int .i64 a.k, .int .i64 a.t, .int .i64 a.x.m, .int .i64 a.x.mi, .int .i64 a.x.c, .int .i64 a.x.d] 91)).cell_ 0 rfl
          have q_c1 := (hk.alloc (.cells #[.int .i64 a.j, .int .i64 a.k, .int .i64 a.t, .int .i64 a.x.m, .int .i64 a.x.mi, .int .i64 a.x.c, .int .i64 a.x.d] 91)).cell_ 1 rfl
          have q_c2 := (hk.alloc (.cells #[.int .i64 a.j, .int .i64 a.k, .int .i64 a.t, .int .i64 a.x.m, .int .i64 a.x.mi, .int .i64 a.x.c, .int .i64 a.x.d] 91)).cell_ 2 rfl
          have q_c3 := (hk.alloc (.cells #[.int .i64 a.j, .int .i64 a.k, .int .i64 a.t, .int .i64 a.x.m, .int .i64 a.x.mi, .int .i64 a.x.c, .int .i64 a.x.d] 91)).cell_ 3 rfl
          have q_c4 := (hk.alloc (.cells #[.int .i64 a.j, .int .i64 a.k, .int .i64 a.t, .int .i64 a.x.m, .int .i64 a.x.mi, .int .i64 a.x.c, .int .i64 a.x.d] 91)).cell_ 4 rfl
          have q_c5 := (hk.alloc (.cells #[.int .i64 a.j, .int .i64 a.k, .int .i64 a.t, .int .i64 a.x.m, .int .i64 a.x.mi, .int .i64 a.x.c, .int .i64 a.x.d] 91)).cell_ 5 rfl
          go_wp2_with fail
          clear q_c0 q_c1 q_c2 q_c3 q_c4 q_c5
          clear c0 c1 c2 c3 c4 c5
          have hx := Blk.new W 91 #[.int .i64 a.j, .int .i64 a.k, .int .i64 a.t, .int .i64 a.x.m, .int .i64 a.x.mi, .int .i64 a.x.c, .int .i64 a.x.d]
          replace hk := hk.alloc (.cells #[.int .i64 a.j, .int .i64 a.k, .int .i64 a.t, .int .i64 a.x.m, .int .i64 a.x.mi, .int .i64 a.x.c, .int .i64 a.x.d] 91)
          replace hL := (hL.below ((Below.refl _ W).alloc (Nat.le_refl _) (.cells #[.int .i64 a.j, .int .i64 a.k, .int .i64 a.t, .int .i64 a.x.m, .int .i64 a.x.mi, .int .i64 a.x.c, .int .i64 a.x.d] 91))).more ((Below.refl _ W).alloc (Nat.le_refl _) (.cells #[.int .i64 a.j, .int .i64 a.k, .int .i64 a.t, .int .i64 a.x.m, .int .i64 a.x.mi, .int .i64 a.x.c, .int .i64 a.x.d] 91)).size
          replace hB := hB.alloc hB.size (.cells #[.int .i64 a.j, .int .i64 a.k, .int .i64 a.t, .int .i64 a.x.m, .int .i64 a.x.mi, .int .i64 a.x.c, .int .i64 a.x.d] 91)
          generalize W.alloc (.cells #[.int .i64 a.j, .int .i64 a.k, .int .i64 a.t, .int .i64 a.x.m, .int .i64 a.x.mi, .int .i64 a.x.c, .int .i64 a.x.d] 91) = W at *
          have c0 := hk.cell_ 0 rfl
          have c1 := hk.cell_ 1 rfl
          have c2 := hk.cell_ 2 rfl
          have c3 := hk.cell_ 3 rfl
          have c4 := hk.cell_ 4 rfl
          have c5 := hk.cell_ 5 rfl
          have a0 := hx.cell_ 0 rfl
          have a1 := hx.cell_ 1 rfl
          have a2 := hx.cell_ 2 rfl
          have a3 := hx.cell_ 3 rfl
          have a4 := hx.cell_ 4 rfl
          have a5 := hx.cell_ 5 rfl
          have a6 := hx.cell_ 6 rfl
          clear d0 d1 d2 d3 d4 d5 d6
          by_cases hk0 : 0 < a.k
          · obtain ⟨i', hi', e, he, hej, hek⟩ := HPV.out i a HA.out hk0
            subst hi'
            obtain ⟨e', he', hdr⟩ := HPR.out i' rfl
            obtain rfl : e' = e := by rw [he] at he'; injection he' with he'; exact he'.symm
            have HDR := hide hdr
            clear hdr he'
            obtain ⟨b2, off2, hA2, hb2, e0, e1, e2, e3, e4, e5, e6⟩ := at7 hL he
            have hok2 := HOK.out _ (List.mem_of_getElem? he)
            have q1 := hok2.t0
            have q2 := hok2.t1
            have q3 := hok2.mi0
            have q4 := hok2.mi1
            have q5 := hok2.d0
            have q6 := hok2.d1
            clear he hok2 hej hek
            injection hA2 with hA2
            injection hA2 with h7 h8
            subst h7 h8
            have x1 : IntKind.i64.wrap (i' : Int) = (i' : Int) := IntWalk.i64_in _ (by omega)
            have x2 : (i' : Int) < (L.length : Int) := by omega
            have x3 : decide ((0 : Int) < (a.k : Int)) = true := by simp; omega
            have x4 : (0 : Int) < (a.k : Int) := by omega
            by_cases hbad : a.t < e'.dry
            · have x5 : decide (a.t < e'.dry) = true := decide_eq_true hbad
              go_wp2_with fail
              refine wp_region_quiet (C := fun w' => ∃ u : Since W, w' = u.w) (by kernel_rfl) (by kernel_rfl) (Since.start W) ?_
              dsimp only
              have y_c0 := Since.cell c0
              have y_c1 := Since.cell c1
              have y_c2 := Since.cell c2
              have y_c3 := Since.cell c3
              have y_c4 := Since.cell c4
              have y_c5 := Since.cell c5
              have y_a0 := Since.cell a0
              have y_a1 := Since.cell a1
              have y_a2 := Since.cell a2
              have y_a3 := Since.cell a3
              have y_a4 := Since.cell a4
              have y_a5 := Since.cell a5
              have y_a6 := Since.cell a6
              have y_e0 := Since.cell e0
              have y_e1 := Since.cell e1
              have y_e2 := Since.cell e2
              have y_e3 := Since.cell e3
              have y_e4 := Since.cell e4
              have y_e5 := Since.cell e5
              have y_e6 := Since.cell e6
              clear c0 c1 c2 c3 c4 c5 a0 a1 a2 a3 a4 a5 a6
              repeat (go_big_quiet_step ((go_at_call 78; exact Since.calls (dry_any e' _ ⟨by omega, by omega⟩ ⟨by omega, by omega⟩ ⟨q5, by omega⟩))))
              refine wpQuiet_nil ?_
              rintro W ⟨⟨_, hb⟩, rfl⟩
              try dsimp only at hb ⊢
              replace e0 : W.cell? _ = _ := y_e0 ⟨W, hb⟩
              replace e1 : W.cell? _ = _ := y_e1 ⟨W, hb⟩
              replace e2 : W.cell? _ = _ := y_e2 ⟨W, hb⟩
              replace e3 : W.cell? _ = _ := y_e3 ⟨W, hb⟩
              replace e4 : W.cell? _ = _ := y_e4 ⟨W, hb⟩
              replace e5 : W.cell? _ = _ := y_e5 ⟨W, hb⟩
              replace e6 : W.cell? _ = _ := y_e6 ⟨W, hb⟩
              clear y_c0 y_c1 y_c2 y_c3 y_c4 y_c5 y_a0 y_a1 y_a2 y_a3 y_a4 y_a5 y_a6 y_e0 y_e1 y_e2 y_e3 y_e4 y_e5 y_e6
              replace hk := hk.below hb hk.lt
              replace hL := (hL.below hb).more hb.size
              replace hx := hx.below hb hx.lt
              replace hB := hB.trans (hb.mono hB.size)
              clear hb
              have c0 := hk.cell_ 0 rfl
              have c1 := hk.cell_ 1 rfl
              have c2 := hk.cell_ 2 rfl
              have c3 := hk.cell_ 3 rfl
              have c4 := hk.cell_ 4 rfl
              have c5 := hk.cell_ 5 rfl
              have a0 := hx.cell_ 0 rfl
              have a1 := hx.cell_ 1 rfl
              have a2 := hx.cell_ 2 rfl
              have a3 := hx.cell_ 3 rfl
              have a4 := hx.cell_ 4 rfl
              have a5 := hx.cell_ 5 rfl
              have a6 := hx.cell_ 6 rfl
              go_wp2_with fail
              go_wp2_with fail
              refine wp_region_quiet (C := fun w' => ∃ u : Since W, w' = u.w) (by kernel_rfl) (by kernel_rfl) (Since.start W) ?_
              dsimp only
              have y_c0 := Since.cell c0
              have y_c1 := Since.cell c1
              have y_c2 := Since.cell c2
              have y_c3 := Since.cell c3
              have y_c4 := Since.cell c4
              have y_c5 := Since.cell c5
              have y_a0 := Since.cell a0
              have y_a1 := Since.cell a1
              have y_a2 := Since.cell a2
              have y_a3 := Since.cell a3
              have y_a4 := Since.cell a4
              have y_a5 := Since.cell a5
              have y_a6 := Since.cell a6
              clear c0 c1 c2 c3 c4 c5 a0 a1 a2 a3 a4 a5 a6
              repeat (go_big_quiet_step ((fail)))
              refine wpQuiet_nil ?_
              rintro W ⟨⟨_, hb⟩, rfl⟩
              try dsimp only at hb ⊢
              clear y_c0 y_c1 y_c2 y_c3 y_c4 y_c5 y_a0 y_a1 y_a2 y_a3 y_a4 y_a5 y_a6
              replace hk := hk.below hb hk.lt
              replace hL := (hL.below hb).more hb.size
              replace hx := hx.below hb hx.lt
              replace hB := hB.trans (hb.mono hB.size)
              clear hb
              have c0 := hk.cell_ 0 rfl
              have c1 := hk.cell_ 1 rfl
              have c2 := hk.cell_ 2 rfl
              have c3 := hk.cell_ 3 rfl
              have c4 := hk.cell_ 4 rfl
              have c5 := hk.cell_ 5 rfl
              have a0 := hx.cell_ 0 rfl
              have a1 := hx.cell_ 1 rfl
              have a2 := hx.cell_ 2 rfl
              have a3 := hx.cell_ 3 rfl
              have a4 := hx.cell_ 4 rfl
              have a5 := hx.cell_ 5 rfl
              have a6 := hx.cell_ 6 rfl
              go_wp2_with fail
              go_ret3
              exact ⟨ret_eq (by rw [HJ2.out]; unfold judgeL; rw [HS0.out, HS.out, HST.out, if_pos ⟨hk0, by rw [HDR.out]; exact hbad⟩]; rfl), hB⟩
            · have x5 : decide (a.t < e'.dry) = false := decide_eq_false hbad
              go_wp2_with fail
              refine wp_region_quiet (C := fun w' => ∃ u : Since W, w' = u.w) (by kernel_rfl) (by kernel_rfl) (Since.start W) ?_
              dsimp only
              have y_c0 := Since.cell c0
              have y_c1 := Since.cell c1
              have y_c2 := Since.cell c2
              have y_c3 := Since.cell c3
              have y_c4 := Since.cell c4
              have y_c5 := Since.cell c5
              have y_a0 := Since.cell a0
              have y_a1 := Since.cell a1
              have y_a2 := Since.cell a2
              have y_a3 := Since.cell a3
              have y_a4 := Since.cell a4
              have y_a5 := Since.cell a5
              have y_a6 := Since.cell a6
              have y_e0 := Since.cell e0
              have y_e1 := Since.cell e1
              have y_e2 := Since.cell e2
              have y_e3 := Since.cell e3
              have y_e4 := Since.cell e4
              have y_e5 := Since.cell e5
              have y_e6 := Since.cell e6
              clear c0 c1 c2 c3 c4 c5 a0 a1 a2 a3 a4 a5 a6
              repeat (go_big_quiet_step ((go_at_call 78; exact Since.calls (dry_any e' _ ⟨by omega, by omega⟩ ⟨by omega, by omega⟩ ⟨q5, by omega⟩))))
              refine wpQuiet_nil ?_
              rintro W ⟨⟨_, hb⟩, rfl⟩
              try dsimp only at hb ⊢
              replace e0 : W.cell? _ = _ := y_e0 ⟨W, hb⟩
              replace e1 : W.cell? _ = _ := y_e1 ⟨W, hb⟩
              replace e2 : W.cell? _ = _ := y_e2 ⟨W, hb⟩
              replace e3 : W.cell? _ = _ := y_e3 ⟨W, hb⟩
              replace e4 : W.cell? _ = _ := y_e4 ⟨W, hb⟩
              replace e5 : W.cell? _ = _ := y_e5 ⟨W, hb⟩
              replace e6 : W.cell? _ = _ := y_e6 ⟨W, hb⟩
              clear y_c0 y_c1 y_c2 y_c3 y_c4 y_c5 y_a0 y_a1 y_a2 y_a3 y_a4 y_a5 y_a6 y_e0 y_e1 y_e2 y_e3 y_e4 y_e5 y_e6
              replace hk := hk.below hb hk.lt
              replace hL := (hL.below hb).more hb.size
              replace hx := hx.below hb hx.lt
              replace hB := hB.trans (hb.mono hB.size)
              clear hb
              have c0 := hk.cell_ 0 rfl
              have c1 := hk.cell_ 1 rfl
              have c2 := hk.cell_ 2 rfl
              have c3 := hk.cell_ 3 rfl
              have c4 := hk.cell_ 4 rfl
              have c5 := hk.cell_ 5 rfl
              have a0 := hx.cell_ 0 rfl
              have a1 := hx.cell_ 1 rfl
              have a2 := hx.cell_ 2 rfl
              have a3 := hx.cell_ 3 rfl
              have a4 := hx.cell_ 4 rfl
              have a5 := hx.cell_ 5 rfl
              have a6 := hx.cell_ 6 rfl
              go_wp2_with fail
              go_roundw
              case rel => exact ⟨i' + 1 + 1, a.dry, by go_num, by omega, (by show _ = _; rw [HS.out, HST.out, if_neg (by rw [HDR.out]; omega)]), hide (fun j hj => by obtain rfl : j = i' + 1 := (by omega); exact ⟨a, HA.out, rfl⟩), hk, hL, hB⟩
              case measure => simp [intOf]; omega
          · have x3 : decide ((0 : Int) < (a.k : Int)) = false := by simp; omega
            have x4 : ¬ (0 : Int) < (a.k : Int) := by omega
            go_wp2_with fail
            refine wp_region_quiet (C := fun w' => ∃ u : Since W, w' = u.w) (by kernel_rfl) (by kernel_rfl) (Since.start W) ?_
            dsimp only
            have y_c0 := Since.cell c0
            have y_c1 := Since.cell c1
            have y_c2 := Since.cell c2
            have y_c3 := Since.cell c3
            have y_c4 := Since.cell c4
            have y_c5 := Since.cell c5
            have y_a0 := Since.cell a0
            have y_a1 := Since.cell a1
            have y_a2 := Since.cell a2
            have y_a3 := Since.cell a3
            have y_a4 := Since.cell a4
            have y_a5 := Since.cell a5
            have y_a6 := Since.cell a6
            clear c0 c1 c2 c3 c4 c5 a0 a1 a2 a3 a4 a5 a6
            repeat (go_big_quiet_step ((fail)))
            refine wpQuiet_nil ?_
            rintro W ⟨⟨_, hb⟩, rfl⟩
            try dsimp only at hb ⊢
            clear y_c0 y_c1 y_c2 y_c3 y_c4 y_c5 y_a0 y_a1 y_a2 y_a3 y_a4 y_a5 y_a6
            replace hk := hk.below hb hk.lt
            replace hL := (hL.below hb).more hb.size
            replace hx := hx.below hb hx.lt
            replace hB := hB.trans (hb.mono hB.size)
            clear hb
            have c0 := hk.cell_ 0 rfl
            have c1 := hk.cell_ 1 rfl
            have c2 := hk.cell_ 2 rfl
            have c3 := hk.cell_ 3 rfl
            have c4 := hk.cell_ 4 rfl
            have c5 := hk.cell_ 5 rfl
            have a0 := hx.cell_ 0 rfl
            have a1 := hx.cell_ 1 rfl
            have a2 := hx.cell_ 2 rfl
            have a3 := hx.cell_ 3 rfl
            have a4 := hx.cell_ 4 rfl
            have a5 := hx.cell_ 5 rfl
            have a6 := hx.cell_ 6 rfl
            go_wp2_with fail
            go_roundw
            case rel => exact ⟨i + 1, a.dry, by go_num, by omega, (by show _ = _; rw [HS.out, HST.out, if_neg (by omega)]), hide (fun j hj => by obtain rfl : j = i := (by omega); exact ⟨a, HA.out, rfl⟩), hk, hL, hB⟩
            case measure => simp [intOf]; omega
        · obtain rfl : i = L.length := by omega
          have HS1 : Hid (earlyBad 0 L = none) := by show _ = _; rw [HS.out, nomore]; rfl
          clear HS HPR
          have c0 := hk.cell_ 0 rfl
          have c1 := hk.cell_ 1 rfl
          have c2 := hk.cell_ 2 rfl
          have c3 := hk.cell_ 3 rfl
          have c4 := hk.cell_ 4 rfl
          have c5 := hk.cell_ 5 rfl
          go_wp2_with fail
          clear c0 c1 c2 c3 c4 c5
          go_loopw [70] (fun x W => ∃ i : Nat, x = .int .i64 i ∧ i ≤ L.length ∧ Hid (clashBad s.p L = clashBad s.p (L.drop i)) ∧ Blk W w.heap.size 25 #[.int .i64 s.p.op, .int .i64 s.p.cl, .slice s.aH s.p.hol.length s.cH, .int .i64 s.p.mach, .slice s.aS s.p.setup.length s.cS, .slice s.aJ s.p.jobs.length s.cJ] ∧ Slc At.enc 7 W W.heap.size AL L ∧ Below w.heap.size w W) (fun x _ => L.length - (intOf x).toNat)
          case atStart => exact ⟨0, rfl, Nat.zero_le _, hide rfl, hk, hL, hB⟩
          case round =>
            clear hk hB hL
            obtain ⟨W, rfl⟩ : ∃ W : World, W = wr := ⟨_, rfl⟩
            obtain ⟨i, rfl, hi, HS, hk, hL, hB⟩ := hrel
            by_cases hlt : i < L.length
            · obtain ⟨a, ha⟩ : ∃ a, L[i]? = some a := ⟨_, List.getElem?_eq_getElem hlt⟩
              obtain ⟨b, off, hA, hb0, d0, d1, d2, d3, d4, d5, d6⟩ := at7 hL ha
              have hfa := (HOK.out a (List.mem_of_getElem? ha)).fit hv
              have HST := hide (clashBad_drop (p := s.p) ha)
              clear ha
              subst hA
              have c0 := hk.cell_ 0 rfl
              have c1 := hk.cell_ 1 rfl
              have c2 := hk.cell_ 2 rfl
              have c3 := hk.cell_ 3 rfl
              have c4 := hk.cell_ 4 rfl
              have c5 := hk.cell_ 5 rfl
              by_cases hce : cL = i + 1
              · have q_c0 := (hk.alloc (.cells #[.int .i64 a.j, .int .i64 a.k, .int .i64 a.t, .int .i64 a.x.m, .int .i64 a.x.mi, .int .i64 a.x.c, .int .i64 a.x.d] 91)).cell_ 0 rfl
                have q_c1 := (hk.alloc (.cells #[.int .i64 a.j, .int .i64 a.k, .int .i64 a.t, .int .i64 a.x.m, .int .i64 a.x.mi, .int .i64 a.x.c, .int .i64 a.x.d] 91)).cell_ 1 rfl
                have q_c2 := (hk.alloc (.cells #[.int .i64 a.j, .int .i64 a.k, .int .i64 a.t, .int .i64 a.x.m, .int .i64 a.x.mi, .int .i64 a.x.c, .int .i64 a.x.d] 91)).cell_ 2 rfl
                have q_c3 := (hk.alloc (.cells #[.int .i64 a.j, .int .i64 a.k, .int .i64 a.t, .int .i64 a.x.m, .int .i64 a.x.mi, .int .i64 a.x.c, .int .i64 a.x.d] 91)).cell_ 3 rfl
                have q_c4 := (hk.alloc (.cells #[.int .i64 a.j, .int .i64 a.k, .int .i64 a.t, .int .i64 a.x.m, .int .i64 a.x.mi, .int .i64 a.x.c, .int .i64 a.x.d] 91)).cell_ 4 rfl
                have q_c5 := (hk.alloc (.cells #[.int .i64 a.j, .int .i64 a.k, .int .i64 a.t, .int .i64 a.x.m, .int .i64 a.x.mi, .int .i64 a.x.c, .int .i64 a.x.d] 91)).cell_ 5 rfl
                go_wp2_with fail
                clear q_c0 q_c1 q_c2 q_c3 q_c4 q_c5
                clear c0 c1 c2 c3 c4 c5
                have hx := Blk.new W 91 #[.int .i64 a.j, .int .i64 a.k, .int .i64 a.t, .int .i64 a.x.m, .int .i64 a.x.mi, .int .i64 a.x.c, .int .i64 a.x.d]
                replace hk := hk.alloc (.cells #[.int .i64 a.j, .int .i64 a.k, .int .i64 a.t, .int .i64 a.x.m, .int .i64 a.x.mi, .int .i64 a.x.c, .int .i64 a.x.d] 91)
                replace hL := (hL.below ((Below.refl _ W).alloc (Nat.le_refl _) (.cells #[.int .i64 a.j, .int .i64 a.k, .int .i64 a.t, .int .i64 a.x.m, .int .i64 a.x.mi, .int .i64 a.x.c, .int .i64 a.x.d] 91))).more ((Below.refl _ W).alloc (Nat.le_refl _) (.cells #[.int .i64 a.j, .int .i64 a.k, .int .i64 a.t, .int .i64 a.x.m, .int .i64 a.x.mi, .int .i64 a.x.c, .int .i64 a.x.d] 91)).size
                have hsz_bx : (W.alloc (.cells #[.int .i64 a.j, .int .i64 a.k, .int .i64 a.t, .int .i64 a.x.m, .int .i64 a.x.mi, .int .i64 a.x.c, .int .i64 a.x.d] 91)).heap.size = W.heap.size + 1 := by simp
                have bxge := hB.size
                replace hB := hB.alloc hB.size (.cells #[.int .i64 a.j, .int .i64 a.k, .int .i64 a.t, .int .i64 a.x.m, .int .i64 a.x.mi, .int .i64 a.x.c, .int .i64 a.x.d] 91)
                generalize hbx : W.heap.size = bx at *
                generalize W.alloc (.cells #[.int .i64 a.j, .int .i64 a.k, .int .i64 a.t, .int .i64 a.x.m, .int .i64 a.x.mi, .int .i64 a.x.c, .int .i64 a.x.d] 91) = W at *
                clear hbx
                have c0 := hk.cell_ 0 rfl
                have c1 := hk.cell_ 1 rfl
                have c2 := hk.cell_ 2 rfl
                have c3 := hk.cell_ 3 rfl
                have c4 := hk.cell_ 4 rfl
                have c5 := hk.cell_ 5 rfl
                have a0 := hx.cell_ 0 rfl
                have a1 := hx.cell_ 1 rfl
                have a2 := hx.cell_ 2 rfl
                have a3 := hx.cell_ 3 rfl
                have a4 := hx.cell_ 4 rfl
                have a5 := hx.cell_ 5 rfl
                have a6 := hx.cell_ 6 rfl
                clear d0 d1 d2 d3 d4 d5 d6 hsz_bx
                have hR : Slc At.enc 7 W W.heap.size (some ⟨b, off, none⟩) (L.drop (i + 1)) := by rw [List.drop_eq_nil_of_le (by omega)]; exact Slc.nil_
                go_wp2_with fail
                clear c0 c1 c2 c3 c4 c5 a0 a1 a2 a3 a4 a5 a6
                have hlr : (L.drop (i + 1)).length = L.length - (i + 1) := List.length_drop ..
                go_loopw [80] (fun y W => ∃ j : Nat, y = .int .i64 j ∧ j ≤ L.length - (i + 1) ∧ Hid ((L.drop (i + 1)).all (togB s.p a) = ((L.drop (i + 1)).drop j).all (togB s.p a)) ∧ Blk W w.heap.size 25 #[.int .i64 s.p.op, .int .i64 s.p.cl, .slice s.aH s.p.hol.length s.cH, .int .i64 s.p.mach, .slice s.aS s.p.setup.length s.cS, .slice s.aJ s.p.jobs.length s.cJ] ∧ Slc At.enc 7 W W.heap.size (some ⟨b, off, none⟩) L ∧ Blk W bx 91 #[.int .i64 a.j, .int .i64 a.k, .int .i64 a.t, .int .i64 a.x.m, .int .i64 a.x.mi, .int .i64 a.x.c, .int .i64 a.x.d] ∧ Slc At.enc 7 W W.heap.size (some ⟨b, off, none⟩) (L.drop (i + 1)) ∧ Below w.heap.size w W) (fun y _ => L.length - (i + 1) - (intOf y).toNat)
                case atStart => exact ⟨0, rfl, Nat.zero_le _, hide rfl, hk, hL, hx, hR, hB⟩
                case round =>
                  clear hk hB hL hx hR
                  obtain ⟨W, rfl⟩ : ∃ W : World, W = wr := ⟨_, rfl⟩
                  obtain ⟨j, rfl, hj, HS3, hk, hL, hx, hR, hB⟩ := hrel
                  have hlt2 : ¬ j < L.length - (i + 1) := by omega
                  have hjz : ¬ ((j : Int) < ((L.length - (i + 1) : Nat) : Int)) := by omega
                  have HS4 : Hid ((L.drop (i + 1)).all (togB s.p a) = true) := by show _ = _; rw [HS3.out, List.drop_eq_nil_of_le (by omega)]; rfl
                  go_wp2_with fail
                  go_roundw
                  case rel => exact ⟨i + 1, by go_num, by omega, (by show _ = _; rw [HS.out, HST.out, HS4.out]; rfl), hk, hL, hB⟩
                  case measure => simp [intOf]; omega
              · have q_c0 := (hk.alloc (.cells #[.int .i64 a.j, .int .i64 a.k, .int .i64 a.t, .int .i64 a.x.m, .int .i64 a.x.mi, .int .i64 a.x.c, .int .i64 a.x.d] 91)).cell_ 0 rfl
                have q_c1 := (hk.alloc (.cells #[.int .i64 a.j, .int .i64 a.k, .int .i64 a.t, .int .i64 a.x.m, .int .i64 a.x.mi, .int .i64 a.x.c, .int .i64 a.x.d] 91)).cell_ 1 rfl
                have q_c2 := (hk.alloc (.cells #[.int .i64 a.j, .int .i64 a.k, .int .i64 a.t, .int .i64 a.x.m, .int .i64 a.x.mi, .int .i64 a.x.c, .int .i64 a.x.d] 91)).cell_ 2 rfl
                have q_c3 := (hk.alloc (.cells #[.int .i64 a.j, .int .i64 a.k, .int .i64 a.t, .int .i64 a.x.m, .int .i64 a.x.mi, .int .i64 a.x.c, .int .i64 a.x.d] 91)).cell_ 3 rfl
                have q_c4 := (hk.alloc (.cells #[.int .i64 a.j, .int .i64 a.k, .int .i64 a.t, .int .i64 a.x.m, .int .i64 a.x.mi, .int .i64 a.x.c, .int .i64 a.x.d] 91)).cell_ 4 rfl
                have q_c5 := (hk.alloc (.cells #[.int .i64 a.j, .int .i64 a.k, .int .i64 a.t, .int .i64 a.x.m, .int .i64 a.x.mi, .int .i64 a.x.c, .int .i64 a.x.d] 91)).cell_ 5 rfl
                go_wp2_with fail
                clear q_c0 q_c1 q_c2 q_c3 q_c4 q_c5
                clear c0 c1 c2 c3 c4 c5
                have hx := Blk.new W 91 #[.int .i64 a.j, .int .i64 a.k, .int .i64 a.t, .int .i64 a.x.m, .int .i64 a.x.mi, .int .i64 a.x.c, .int .i64 a.x.d]
                replace hk := hk.alloc (.cells #[.int .i64 a.j, .int .i64 a.k, .int .i64 a.t, .int .i64 a.x.m, .int .i64 a.x.mi, .int .i64 a.x.c, .int .i64 a.x.d] 91)
                replace hL := (hL.below ((Below.refl _ W).alloc (Nat.le_refl _) (.cells #[.int .i64 a.j, .int .i64 a.k, .int .i64 a.t, .int .i64 a.x.m, .int .i64 a.x.mi, .int .i64 a.x.c, .int .i64 a.x.d] 91))).more ((Below.refl _ W).alloc (Nat.le_refl _) (.cells #[.int .i64 a.j, .int .i64 a.k, .int .i64 a.t, .int .i64 a.x.m, .int .i64 a.x.mi, .int .i64 a.x.c, .int .i64 a.x.d] 91)).size
                have hsz_bx : (W.alloc (.cells #[.int .i64 a.j, .int .i64 a.k, .int .i64 a.t, .int .i64 a.x.m, .int .i64 a.x.mi, .int .i64 a.x.c, .int .i64 a.x.d] 91)).heap.size = W.heap.size + 1 := by simp
                have bxge := hB.size
                replace hB := hB.alloc hB.size (.cells #[.int .i64 a.j, .int .i64 a.k, .int .i64 a.t, .int .i64 a.x.m, .int .i64 a.x.mi, .int .i64 a.x.c, .int .i64 a.x.d] 91)
                generalize hbx : W.heap.size = bx at *
                generalize W.alloc (.cells #[.int .i64 a.j, .int .i64 a.k, .int .i64 a.t, .int .i64 a.x.m, .int .i64 a.x.mi, .int .i64 a.x.c, .int .i64 a.x.d] 91) = W at *
                clear hbx
                have c0 := hk.cell_ 0 rfl
                have c1 := hk.cell_ 1 rfl
                have c2 := hk.cell_ 2 rfl
                have c3 := hk.cell_ 3 rfl
                have c4 := hk.cell_ 4 rfl
                have c5 := hk.cell_ 5 rfl
                have a0 := hx.cell_ 0 rfl
                have a1 := hx.cell_ 1 rfl
                have a2 := hx.cell_ 2 rfl
                have a3 := hx.cell_ 3 rfl
                have a4 := hx.cell_ 4 rfl
                have a5 := hx.cell_ 5 rfl
                have a6 := hx.cell_ 6 rfl
                clear d0 d1 d2 d3 d4 d5 d6 hsz_bx
                have hR := hL.drop_ (i + 1)
                go_wp2_with fail
                clear c0 c1 c2 c3 c4 c5 a0 a1 a2 a3 a4 a5 a6
                have hlr : (L.drop (i + 1)).length = L.length - (i + 1) := List.length_drop ..
                go_loopw [80] (fun y W => ∃ j : Nat, y = .int .i64 j ∧ j ≤ L.length - (i + 1) ∧ Hid ((L.drop (i + 1)).all (togB s.p a) = ((L.drop (i + 1)).drop j).all (togB s.p a)) ∧ Blk W w.heap.size 25 #[.int .i64 s.p.op, .int .i64 s.p.cl, .slice s.aH s.p.hol.length s.cH, .int .i64 s.p.mach, .slice s.aS s.p.setup.length s.cS, .slice s.aJ s.p.jobs.length s.cJ] ∧ Slc At.enc 7 W W.heap.size (some ⟨b, off, none⟩) L ∧ Blk W bx 91 #[.int .i64 a.j, .int .i64 a.k, .int .i64 a.t, .int .i64 a.x.m, .int .i64 a.x.mi, .int .i64 a.x.c, .int .i64 a.x.d] ∧ Slc At.enc 7 W W.heap.size (some ⟨b, off + (i + 1) * 7, none⟩) (L.drop (i + 1)) ∧ Below w.heap.size w W) (fun y _ => L.length - (i + 1) - (intOf y).toNat)
                case atStart => exact ⟨0, rfl, Nat.zero_le _, hide rfl, hk, hL, hx, hR, hB⟩
                case round =>
                  clear hk hB hL hx hR
                  obtain ⟨W, rfl⟩ : ∃ W : World, W = wr := ⟨_, rfl⟩
                  obtain ⟨j, rfl, hj, HS3, hk, hL, hx, hR, hB⟩ := hrel
                  by_cases hlt2 : j < L.length - (i + 1)
                  · obtain ⟨e, he⟩ : ∃ e, (L.drop (i + 1))[j]? = some e := ⟨_, List.getElem?_eq_getElem (by omega)⟩
                    obtain ⟨b2, off2, hA2, hb2, e0, e1, e2, e3, e4, e5, e6⟩ := at7 hR he
                    have hfe := (HOK.out e (List.mem_of_mem_drop (List.mem_of_getElem? he))).fit hv
                    have HSE := hide (all_drop (f := togB s.p a) he)
                    injection hA2 with hA2
                    injection hA2 with h7 h8
                    subst h7 h8
                    clear he
                    have c0 := hk.cell_ 0 rfl
                    have c1 := hk.cell_ 1 rfl
                    have c2 := hk.cell_ 2 rfl
                    have c3 := hk.cell_ 3 rfl
                    have c4 := hk.cell_ 4 rfl
                    have c5 := hk.cell_ 5 rfl
                    have a0 := hx.cell_ 0 rfl
                    have a1 := hx.cell_ 1 rfl
                    have a2 := hx.cell_ 2 rfl
                    have a3 := hx.cell_ 3 rfl
                    have a4 := hx.cell_ 4 rfl
                    have a5 := hx.cell_ 5 rfl
                    have a6 := hx.cell_ 6 rfl
                    have hjz : (j : Int) < ((L.length - (i + 1) : Nat) : Int) := by omega
                    have q_c0 := (hk.alloc (.cells #[.int .i64 e.j, .int .i64 e.k, .int .i64 e.t, .int .i64 e.x.m, .int .i64 e.x.mi, .int .i64 e.x.c, .int .i64 e.x.d] 91)).cell_ 0 rfl
                    have q_c1 := (hk.alloc (.cells #[.int .i64 e.j, .int .i64 e.k, .int .i64 e.t, .int .i64 e.x.m, .int .i64 e.x.mi, .int .i64 e.x.c, .int .i64 e.x.d] 91)).cell_ 1 rfl
                    have q_c2 := (hk.alloc (.cells #[.int .i64 e.j, .int .i64 e.k, .int .i64 e.t, .int .i64 e.x.m, .int .i64 e.x.mi, .int .i64 e.x.c, .int .i64 e.x.d] 91)).cell_ 2 rfl
                    have q_c3 := (hk.alloc (.cells #[.int .i64 e.j, .int .i64 e.k, .int .i64 e.t, .int .i64 e.x.m, .int .i64 e.x.mi, .int .i64 e.x.c, .int .i64 e.x.d] 91)).cell_ 3 rfl
                    have q_c4 := (hk.alloc (.cells #[.int .i64 e.j, .int .i64 e.k, .int .i64 e.t, .int .i64 e.x.m, .int .i64 e.x.mi, .int .i64 e.x.c, .int .i64 e.x.d] 91)).cell_ 4 rfl
                    have q_c5 := (hk.alloc (.cells #[.int .i64 e.j, .int .i64 e.k, .int .i64 e.t, .int .i64 e.x.m, .int .i64 e.x.mi, .int .i64 e.x.c, .int .i64 e.x.d] 91)).cell_ 5 rfl
                    have q_a0 := (hx.alloc (.cells #[.int .i64 e.j, .int .i64 e.k, .int .i64 e.t, .int .i64 e.x.m, .int .i64 e.x.mi, .int .i64 e.x.c, .int .i64 e.x.d] 91)).cell_ 0 rfl
                    have q_a1 := (hx.alloc (.cells #[.int .i64 e.j, .int .i64 e.k, .int .i64 e.t, .int .i64 e.x.m, .int .i64 e.x.mi, .int .i64 e.x.c, .int .i64 e.x.d] 91)).cell_ 1 rfl
                    have q_a2 := (hx.alloc (.cells #[.int .i64 e.j, .int .i64 e.k, .int .i64 e.t, .int .i64 e.x.m, .int .i64 e.x.mi, .int .i64 e.x.c, .int .i64 e.x.d] 91)).cell_ 2 rfl
                    have q_a3 := (hx.alloc (.cells #[.int .i64 e.j, .int .i64 e.k, .int .i64 e.t, .int .i64 e.x.m, .int .i64 e.x.mi, .int .i64 e.x.c, .int .i64 e.x.d] 91)).cell_ 3 rfl
                    have q_a4 := (hx.alloc (.cells #[.int .i64 e.j, .int .i64 e.k, .int .i64 e.t, .int .i64 e.x.m, .int .i64 e.x.mi, .int .i64 e.x.c, .int .i64 e.x.d] 91)).cell_ 4 rfl
                    have q_a5 := (hx.alloc (.cells #[.int .i64 e.j, .int .i64 e.k, .int .i64 e.t, .int .i64 e.x.m, .int .i64 e.x.mi, .int .i64 e.x.c, .int .i64 e.x.d] 91)).cell_ 5 rfl
                    have q_a6 := (hx.alloc (.cells #[.int .i64 e.j, .int .i64 e.k, .int .i64 e.t, .int .i64 e.x.m, .int .i64 e.x.mi, .int .i64 e.x.c, .int .i64 e.x.d] 91)).cell_ 6 rfl
                    go_wp2_with fail
                    clear q_c0 q_c1 q_c2 q_c3 q_c4 q_c5 q_a0 q_a1 q_a2 q_a3 q_a4 q_a5 q_a6
                    clear c0 c1 c2 c3 c4 c5 a0 a1 a2 a3 a4 a5 a6
                    have hy := Blk.new W 91 #[.int .i64 e.j, .int .i64 e.k, .int .i64 e.t, .int .i64 e.x.m, .int .i64 e.x.mi, .int .i64 e.x.c, .int .i64 e.x.d]
                    replace hk := hk.alloc (.cells #[.int .i64 e.j, .int .i64 e.k, .int .i64 e.t, .int .i64 e.x.m, .int .i64 e.x.mi, .int .i64 e.x.c, .int .i64 e.x.d] 91)
                    replace hL := (hL.below ((Below.refl _ W).alloc (Nat.le_refl _) (.cells #[.int .i64 e.j, .int .i64 e.k, .int .i64 e.t, .int .i64 e.x.m, .int .i64 e.x.mi, .int .i64 e.x.c, .int .i64 e.x.d] 91))).more ((Below.refl _ W).alloc (Nat.le_refl _) (.cells #[.int .i64 e.j, .int .i64 e.k, .int .i64 e.t, .int .i64 e.x.m, .int .i64 e.x.mi, .int .i64 e.x.c, .int .i64 e.x.d] 91)).size
                    replace hx := hx.alloc (.cells #[.int .i64 e.j, .int .i64 e.k, .int .i64 e.t, .int .i64 e.x.m, .int .i64 e.x.mi, .int .i64 e.x.c, .int .i64 e.x.d] 91)
                    replace hR := (hR.below ((Below.refl _ W).alloc (Nat.le_refl _) (.cells #[.int .i64 e.j, .int .i64 e.k, .int .i64 e.t, .int .i64 e.x.m, .int .i64 e.x.mi, .int .i64 e.x.c, .int .i64 e.x.d] 91))).more ((Below.refl _ W).alloc (Nat.le_refl _) (.cells #[.int .i64 e.j, .int .i64 e.k, .int .i64 e.t, .int .i64 e.x.m, .int .i64 e.x.mi, .int .i64 e.x.c, .int .i64 e.x.d] 91)).size
                    replace hB := hB.alloc hB.size (.cells #[.int .i64 e.j, .int .i64 e.k, .int .i64 e.t, .int .i64 e.x.m, .int .i64 e.x.mi, .int .i64 e.x.c, .int .i64 e.x.d] 91)
                    generalize W.alloc (.cells #[.int .i64 e.j, .int .i64 e.k, .int .i64 e.t, .int .i64 e.x.m, .int .i64 e.x.mi, .int .i64 e.x.c, .int .i64 e.x.d] 91) = W at *
                    have c0 := hk.cell_ 0 rfl
                    have c1 := hk.cell_ 1 rfl
                    have c2 := hk.cell_ 2 rfl
                    have c3 := hk.cell_ 3 rfl
                    have c4 := hk.cell_ 4 rfl
                    have c5 := hk.cell_ 5 rfl
                    have a0 := hx.cell_ 0 rfl
                    have a1 := hx.cell_ 1 rfl
                    have a2 := hx.cell_ 2 rfl
                    have a3 := hx.cell_ 3 rfl
                    have a4 := hx.cell_ 4 rfl
                    have a5 := hx.cell_ 5 rfl
                    have a6 := hx.cell_ 6 rfl
                    have y0 := hy.cell_ 0 rfl
                    have y1 := hy.cell_ 1 rfl
                    have y2 := hy.cell_ 2 rfl
                    have y3 := hy.cell_ 3 rfl
                    have y4 := hy.cell_ 4 rfl
                    have y5 := hy.cell_ 5 rfl
                    have y6 := hy.cell_ 6 rfl
                    clear e0 e1 e2 e3 e4 e5 e6
                    go_wp2_with fail
                    refine (together_any s a e _ (hS.on hB) hv hfa hfe).mono ?_
                    rintro e W ⟨rfl, hb⟩
                    clear c0 c1 c2 c3 c4 c5 a0 a1 a2 a3 a4 a5 a6 y0 y1 y2 y3 y4 y5 y6
                    replace hk := hk.below hb hk.lt
                    replace hL := (hL.below hb).more hb.size
                    replace hx := hx.below hb hx.lt
                    replace hR := (hR.below hb).more hb.size
                    replace hy := hy.below hb hy.lt
                    replace hB := hB.trans (hb.mono hB.size)
                    clear hb
                    have c0 := hk.cell_ 0 rfl
                    have c1 := hk.cell_ 1 rfl
                    have c2 := hk.cell_ 2 rfl
                    have c3 := hk.cell_ 3 rfl
                    have c4 := hk.cell_ 4 rfl
                    have c5 := hk.cell_ 5 rfl
                    have a0 := hx.cell_ 0 rfl
                    have a1 := hx.cell_ 1 rfl
                    have a2 := hx.cell_ 2 rfl
                    have a3 := hx.cell_ 3 rfl
                    have a4 := hx.cell_ 4 rfl
                    have a5 := hx.cell_ 5 rfl
                    have a6 := hx.cell_ 6 rfl
                    have y0 := hy.cell_ 0 rfl
                    have y1 := hy.cell_ 1 rfl
                    have y2 := hy.cell_ 2 rfl
                    have y3 := hy.cell_ 3 rfl
                    have y4 := hy.cell_ 4 rfl
                    have y5 := hy.cell_ 5 rfl
                    have y6 := hy.cell_ 6 rfl
                    cases htg : togB s.p a e
                    · go_wp2_with fail
                      refine wp_region_quiet (C := fun w' => ∃ u : Since W, w' = u.w) (by kernel_rfl) (by kernel_rfl) (Since.start W) ?_
                      dsimp only
                      have y_c0 := Since.cell c0
                      have y_c1 := Since.cell c1
                      have y_c2 := Since.cell c2
                      have y_c3 := Since.cell c3
                      have y_c4 := Since.cell c4
                      have y_c5 := Since.cell c5
                      have y_a0 := Since.cell a0
                      have y_a1 := Since.cell a1
                      have y_a2 := Since.cell a2
                      have y_a3 := Since.cell a3
                      have y_a4 := Since.cell a4
                      have y_a5 := Since.cell a5
                      have y_a6 := Since.cell a6
                      have y_y0 := Since.cell y0
                      have y_y1 := Since.cell y1
                      have y_y2 := Since.cell y2
                      have y_y3 := Since.cell y3
                      have y_y4 := Since.cell y4
                      have y_y5 := Since.cell y5
                      have y_y6 := Since.cell y6
                      clear c0 c1 c2 c3 c4 c5 a0 a1 a2 a3 a4 a5 a6 y0 y1 y2 y3 y4 y5 y6
                      repeat (go_big_quiet_step ((fail)))
                      refine wpQuiet_nil ?_
                      rintro W ⟨⟨_, hb⟩, rfl⟩
                      try dsimp only at hb ⊢
                      clear y_c0 y_c1 y_c2 y_c3 y_c4 y_c5 y_a0 y_a1 y_a2 y_a3 y_a4 y_a5 y_a6 y_y0 y_y1 y_y2 y_y3 y_y4 y_y5 y_y6
                      replace hk := hk.below hb hk.lt
                      replace hL := (hL.below hb).more hb.size
                      replace hx := hx.below hb hx.lt
                      replace hR := (hR.below hb).more hb.size
                      replace hy := hy.below hb hy.lt
                      replace hB := hB.trans (hb.mono hB.size)
                      clear hb
                      have c0 := hk.cell_ 0 rfl
                      have c1 := hk.cell_ 1 rfl
                      have c2 := hk.cell_ 2 rfl
                      have c3 := hk.cell_ 3 rfl
                      have c4 := hk.cell_ 4 rfl
                      have c5 := hk.cell_ 5 rfl
                      have a0 := hx.cell_ 0 rfl
                      have a1 := hx.cell_ 1 rfl
                      have a2 := hx.cell_ 2 rfl
                      have a3 := hx.cell_ 3 rfl
                      have a4 := hx.cell_ 4 rfl
                      have a5 := hx.cell_ 5 rfl
                      have a6 := hx.cell_ 6 rfl
                      have y0 := hy.cell_ 0 rfl
                      have y1 := hy.cell_ 1 rfl
                      have y2 := hy.cell_ 2 rfl
                      have y3 := hy.cell_ 3 rfl
                      have y4 := hy.cell_ 4 rfl
                      have y5 := hy.cell_ 5 rfl
                      have y6 := hy.cell_ 6 rfl
                      go_wp2_with fail
                      go_ret3
                      exact ⟨ret_eq (by rw [HJ2.out]; unfold judgeL; rw [HS0.out, HS1.out, HS.out, HST.out, HS3.out, HSE.out, htg]; rfl), hB⟩
                    · go_wp2_with fail
                      go_roundw
                      case rel => exact ⟨j + 1, by go_num, by omega, (by show _ = _; rw [HS3.out, HSE.out, htg]; rfl), hk, hL, hx, hR, hB⟩
                      case measure => simp [intOf]; omega
                  · have hjz : ¬ ((j : Int) < ((L.length - (i + 1) : Nat) : Int)) := by omega
                    have HS4 : Hid ((L.drop (i + 1)).all (togB s.p a) = true) := by show _ = _; rw [HS3.out, List.drop_eq_nil_of_le (by omega)]; rfl
                    go_wp2_with fail
                    go_roundw
                    case rel => exact ⟨i + 1, by go_num, by omega, (by show _ = _; rw [HS.out, HST.out, HS4.out]; rfl), hk, hL, hB⟩
                    case measure => simp [intOf]; omega
            · obtain rfl : i = L.length := by omega
              have HS2 : Hid (clashBad s.p L = none) := by show _ = _; rw [HS.out, nomore]; rfl
              go_wp2_with fail
              go_ret3
              exact ⟨ret_eq (by rw [HJ2.out]; unfold judgeL; rw [HS0.out, HS1.out, HS2.out]; rfl), hB⟩
end Go.Proofs.Ytcpnfcnobnjhdaa
