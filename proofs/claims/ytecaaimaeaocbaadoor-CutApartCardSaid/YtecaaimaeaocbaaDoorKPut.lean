/- Places of the program: the layout and put. -/
import Derived.Test.YtecaaimaeaocbaaDoorKUsed
import Derived.Test.YtecaaimaeaocbaaDoorKTreeQ
import Derived.Test.YtecaaimaeaocbaaDoorKClash
import Derived.Test.YtecaaimaeaocbaaDoorAppReg
import Derived.Lib.BufferKept
namespace Go.Proofs.YtecaaimaeaocbaaDoor
open Go Go.RowKit
abbrev OPl (ly : Nat) (w w' : World) : Prop := Lib.OthersKept 38 (some ly) w w'
theorem OPl.refl (ly : Nat) (w : World) : OPl ly w w := fun _ _ h _ _ => h
theorem OPl.trans {ly : Nat} {a b c : World} (h : OPl ly a b) (h2 : OPl ly b c) : OPl ly a c := fun k o hk hb ho => h2 k o (h k o hk hb ho) hb ho
theorem OPl.chg {ly : Nat} {a b : World} (h : Chg (fun k => k = ly) a b) : OPl ly a b := fun k o hk hb _ => by
  have hlt : k < a.heap.size := (Array.getElem?_eq_some_iff.1 hk).1
  exact (h.block k hlt (fun e => hb (by rw [e]))).trans hk
theorem OPl.below {ly : Nat} {a b : World} (h : Below a.heap.size a b) : OPl ly a b := fun k o hk _ _ => by
  have hlt : k < a.heap.size := (Array.getElem?_eq_some_iff.1 hk).1
  exact (h.block k hlt).trans hk
theorem OPl.grown {ly base : Nat} {a b : World} {v : Value} {l : List Pl} (hO : Own a base 38 5 Pl.enc v l) (hg : a.grownBy b v.ownBlock) : OPl ly a b := fun k o hk _ ho => by
  have hlt : k < a.heap.size := (Array.getElem?_eq_some_iff.1 hk).1
  refine (hg.block k hlt fun he => ?_).trans hk
  rcases hO.2 with ⟨h1, h2⟩ | ⟨g, cap, cur, h1, h2, h3, _⟩
  · rw [h1] at he; cases he
  · rw [h1] at he
    have he2 : k = g := by simpa [Value.ownBlock] using he
    subst he2
    rw [h3] at hk
    injection hk with hk
    exact ho _ _ hk.symm
theorem Blk.opl {w w' : World} {g b : Nat} {t : TypeId} {cs : Array Value} (h : Blk w g t cs) (hO : OPl b w w') (hg : g ≠ b) (ht : t ≠ 38) : Blk w' g t cs :=
  hO g _ h (fun e => by injection e with e; exact hg e) (fun c fz e => by injection e with _ e; exact ht e)
/-- the layout: its block, and its list of places -/
def LayAt (B ly : Nat) (K : Int) (A : Option Addr) (kl : List Pt) (c : Nat) (pl : List Pl) (g s : Bool) (w : World) : Prop :=
  ∃ v, Blk w ly 96 #[.int .i64 K, .slice A kl.length c, v, .bool g, .bool s] ∧ Own w B 38 5 Pl.enc v pl
theorem LayAt.below {B ly : Nat} {K : Int} {A : Option Addr} {kl : List Pt} {c : Nat} {pl : List Pl} {g s : Bool} {w w' : World} (h : LayAt B ly K A kl c pl g s w) (hb : Below w.heap.size w w') : LayAt B ly K A kl c pl g s w' := by
  obtain ⟨v, h1, h2⟩ := h
  exact ⟨v, h1.below hb h1.lt, h2.below hb⟩
theorem LayAt.lt {B ly : Nat} {K : Int} {A : Option Addr} {kl : List Pt} {c : Nat} {pl : List Pl} {g s : Bool} {w : World} (h : LayAt B ly K A kl c pl g s w) : ly < w.heap.size := by
  obtain ⟨v, h1, h2⟩ := h
  exact h1.lt
theorem own_keptP {α : Type} {w w' : World} {base : Nat} {e : TypeId} {sz : Nat} {f : α → List Value} {v : Value} {l : List α} {row : Option Nat} (h : Own w base e sz f v l) (hg : w.grownBy w' row) (hr : ∀ b, v.ownBlock = some b → row ≠ some b) : Own w' base e sz f v l :=
  World.ownsRow.kept h hg (by
    cases hv : v.ownBlock with
    | none => exact .inl rfl
    | some q => exact .inr fun he => hr q hv he.symm)
theorem own_chgP {α : Type} {w w' : World} {base ly : Nat} {e t : TypeId} {sz : Nat} {f : α → List Value} {v : Value} {l : List α} {cs : Array Value} (hO : Own w base e sz f v l) (hU : Blk w ly t cs) (hc : Chg (fun k => k = ly) w w') (hne : e ≠ t) : Own w' base e sz f v l :=
  own_keptP hO (row := some ly) ⟨hc.os, hc.tape, hc.output, hc.size, fun k hk hn => hc.block k hk fun e => hn (by rw [e])⟩ (fun b hb he => by injection he with he; exact own_ne_blk hO hU hne b hb he)
theorem pl_one : ∀ p : Pl, ∀ u ∈ p.enc, u.oneCell' = true := fun p u hu => by
  simp only [Pl.enc, List.mem_cons, List.not_mem_nil, or_false] at hu
  rcases hu with rfl | rfl | rfl | rfl | rfl <;> rfl
def PutPost (B ly : Nat) (K : Int) (A : Option Addr) (kl : List Pt) (c : Nat) (pl : List Pl) (g s : Bool) (pc : Int) (m : Nat) (x y rw' rh : Int) (w : World) (e : Ending) (w' : World) : Prop :=
  e = .returned (.tuple #[]) ∧ Below B w w' ∧ OPl ly w w' ∧ (kl.length ≤ m → LayAt B ly K A kl c pl true s w') ∧ (∀ q, kl[m]? = some q → LayAt B ly K A kl c (pl ++ [⟨pc, x, y, q.a, q.b⟩]) g (s || (decide (rw' < q.a) || decide (rh < q.b))) w')
set_option maxRecDepth 100000 in
set_option maxHeartbeats 4000000 in
theorem put_any (B ly : Nat) (K : Int) (A : Option Addr) (kl : List Pt) (c : Nat) (pl : List Pl) (g s : Bool) (pc : Int) (m : Nat) (x y rw' rh : Int) (w : World) (hpc : pc = 97 + (m : Int)) (h122 : m ≤ 25) (hU0 : LayAt B ly K A kl c pl g s w) (hly : B ≤ ly) (hS : Slc Pt.enc 2 w B A kl) (hkl : kl.length ≤ 1000) (hll : pl.length + 1 ≤ 1000000000) :
    Calls Tryd.prog 93 #[.pointer (some ⟨ly, 0, none⟩), .int .u8 pc, .agg #[.int .i64 x, .int .i64 y, .int .i64 rw', .int .i64 rh]] w fun e w' => PutPost B ly K A kl c pl g s pc m x y rw' rh w e w' := by
  obtain ⟨v, hU, hO⟩ := hU0
  have hlt := hU.lt
  have hr := Blk.new w 99 #[.int .i64 x, .int .i64 y, .int .i64 rw', .int .i64 rh]
  have hb0 := (Below.refl w.heap.size w).alloc (Nat.le_refl _) (.cells #[.int .i64 x, .int .i64 y, .int .i64 rw', .int .i64 rh] 99)
  replace hU := hU.below hb0 hU.lt
  replace hO := hO.below hb0
  have hB : Below B w _ := hb0.mono (by omega)
  replace hS := hS.below hB
  have hP : OPl ly w _ := OPl.below hb0
  clear hb0
  go_enter Tryd.func93, Tryd.ntmps93
  go_upto_region 1 with fail
  generalize w.alloc (.cells #[.int .i64 x, .int .i64 y, .int .i64 rw', .int .i64 rh] 99) = W at *
  have f2 : IntKind.u8.wrap (pc - 97) = (m : Int) := by
    have : pc - 97 = (m : Int) := by omega
    rw [this]; exact IntWalk.u8_in _ (by omega)
  have f3 : IntKind.i64.wrap (m : Int) = (m : Int) := IntWalk.i64_in _ (by omega)
  clear hpc
  have u0 := hU.cell_ 0 (v := .int .i64 K) rfl
  have u1 := hU.cell_ 1 (v := .slice A kl.length c) rfl
  have u2 := hU.cell_ 2 (v := v) rfl
  have u3 := hU.cell_ 3 (v := .bool g) rfl
  have u4 := hU.cell_ 4 (v := .bool s) rfl
  by_cases hm : kl.length ≤ m
  · have f4 : (kl.length : Int) ≤ (m : Int) := by omega
    go_wp2_with (refine wpList_store_at rfl 4 _ _ rfl (.bool true) hU rfl rfl (by kernel_rfl) rfl (by simp) rfl ?_; intro W3 hU3 hc3)
    have hO3 := own_chgP hO hU hc3 (by decide)
    refine bodyPost_ret (v := .tuple #[]) (results_none rfl _ _ _) rfl ?_
    refine ⟨rfl, hB.trans (hc3.below1 (by have := hB.size; omega) hly), hP.trans (OPl.chg hc3), fun _ => ⟨v, hU3, hO3⟩, fun q hq => ?_⟩
    rw [List.getElem?_eq_none (by omega)] at hq
    cases hq
  · have f4 : ¬ (kl.length : Int) ≤ (m : Int) := by omega
    have f5 : (m : Int) < (kl.length : Int) := by omega
    obtain ⟨q, b, off, hq0, hA, _, d0, d1⟩ := pt_at hS (k := m) (by omega)
    have HQ := hide hq0
    clear hq0
    subst hA
    have hq := Blk.new W 71 #[.int .i64 q.a, .int .i64 q.b]
    have hb0 := (Below.refl W.heap.size W).alloc (Nat.le_refl _) (.cells #[.int .i64 q.a, .int .i64 q.b] 71)
    have hlW : ly < W.heap.size := hU.lt
    have hrW : w.heap.size < W.heap.size := hr.lt
    go_upto_region 5 with fail
    clear d0 d1 u0 u1 u2 u3 u4
    replace hU := hU.below hb0 hU.lt
    replace hO := hO.below hb0
    replace hr := hr.below hb0 hr.lt
    replace hP := hP.trans (OPl.below hb0)
    replace hB := hB.trans (hb0.mono (by have := hB.size; omega))
    clear hb0 hS
    have u0 := hU.cell_ 0 (v := .int .i64 K) rfl
    have u1 := hU.cell_ 1 (v := .slice (some ⟨b, off, none⟩) kl.length c) rfl
    have u2 := hU.cell_ 2 (v := v) rfl
    have u3 := hU.cell_ 3 (v := .bool g) rfl
    have u4 := hU.cell_ 4 (v := .bool s) rfl
    generalize W.alloc (.cells #[.int .i64 q.a, .int .i64 q.b] 71) = W at *
    have r2 := hr.cell_ 2 (v := .int .i64 rw') rfl
    have r3 := hr.cell_ 3 (v := .int .i64 rh) rfl
    have k0 := hq.cell_ 0 (v := .int .i64 q.a) rfl
    have k1 := hq.cell_ 1 (v := .int .i64 q.b) rfl
    cases s with
    | true =>
      have HSB : Hid ((true || (decide (rw' < q.a) || decide (rh < q.b))) = true) := Bool.true_or _
      go_upto_region 6 with (refine wpList_store_at rfl 4 _ _ rfl (.bool true) hU rfl rfl (by kernel_rfl) rfl (by simp) rfl ?_; intro W3 hU3 hc3)
      have hU4 : Blk W3 ly 96 #[.int .i64 K, .slice (some ⟨b, off, none⟩) kl.length c, v, .bool g, .bool true] := hU3
      replace hO := own_chgP hO hU hc3 (by decide)
      replace hr := hr.chg1 hc3 (by omega)
      replace hq := hq.chg1 hc3 (by omega)
      replace hB := hB.trans (hc3.below1 (by have := hB.size; omega) hly)
      replace hP := hP.trans (OPl.chg hc3)
      clear hU hU3 hc3 u0 u1 u2 u3 u4 r2 r3 k0 k1
      have r0 := hr.cell_ 0 (v := .int .i64 x) rfl
      have r1 := hr.cell_ 1 (v := .int .i64 y) rfl
      have k0 := hq.cell_ 0 (v := .int .i64 q.a) rfl
      have k1 := hq.cell_ 1 (v := .int .i64 q.b) rfl
      obtain ⟨W, rfl⟩ : ∃ X : World, X = W3 := ⟨_, rfl⟩
      have hB1 : B ≤ W.heap.size := by have := hB.size; omega
      have hnb : ∀ k, v.ownBlock = some k → ly ≠ k := own_ne_blk hO hU4 (by decide)
      have hnr : ∀ k, v.ownBlock = some k → w.heap.size ≠ k := own_ne_blk hO hr (by decide)
      have hnq := own_ne_blk (e := 38) hO hq (by decide)
      have HKU := hide hU4
      have HKR := hide hr
      have HKQ := hide hq
      have HO := hide hO
      have HLL := hide hll
      have hgv : ∀ W', Chg (fun k => v.ownBlock = some k) W W' → W.grownBy W' v.ownBlock := fun W' hc => ⟨hc.os, hc.tape, hc.output, hc.size, fun k hk hn => hc.block k hk fun he => hn he.symm⟩
      have HGV := hide hgv
      clear hgv r0 r1 k0 k1 hr hq
      go_wp2_with fail
      refine wp_region_app 17 15 16 [0, 1, 2, 3, 4, 5, 6, 7, 8, 9, 10, 11, 12, 13, 14] (.tmp 53) (.tmp 64) (cs := #[.int .u8 pc, .int .i64 x, .int .i64 y, .int .i64 q.a, .int .i64 q.b]) (y := (⟨pc, x, y, q.a, q.b⟩ : Pl)) (by kernel_rfl) (by kernel_rfl) (by kernel_rfl) (by kernel_rfl) et_place hO (fun _ => rfl) pl_one hll hB1 rfl (by decide) rfl rfl rfl ?_
      clear hU4 hO
      apply Exists.intro
      refine ⟨fun W1 hc => ?_, ?_⟩
      · have g1 := HKU.out.grownv (HGV.out _ hc) hnb
        have g2 := HKR.out.grownv (HGV.out _ hc) hnr
        have g3 := HKQ.out.grownv (HGV.out _ hc) hnq
        have y_u2 := Since.cell (g1.cell_ 2 (v := v) rfl)
        have y_r0 := Since.cell (g2.cell_ 0 (v := .int .i64 x) rfl)
        have y_r1 := Since.cell (g2.cell_ 1 (v := .int .i64 y) rfl)
        have y_k0 := Since.cell (g3.cell_ 0 (v := .int .i64 q.a) rfl)
        have y_k1 := Since.cell (g3.cell_ 1 (v := .int .i64 q.b) rfl)
        dsimp only [pick, List.filterMap, List.getElem?_cons_succ, List.getElem?_cons_zero]
        repeat (go_big_quiet_step (fail))
        exact wpQuiet_nil rfl
      · refine ⟨rfl, fun w1 => exec_build rfl (by simp [Act.eval] <;> rfl) (run_build1 et_place (.agg #[.int .u8 pc, .int .i64 x, .int .i64 y, .int .i64 q.a, .int .i64 q.b]) rfl (by omega) w1), fun gz => ⟨rfl, rfl, rfl, fun ga ca W4 hc4 hO4 => ?_⟩⟩
        have hU5 := HKU.out.grownv (HGV.out _ hc4) hnb
        have hP4 := hP.trans (OPl.grown HO.out (HGV.out _ hc4))
        have hB4 := hB.trans (grownv_below (HGV.out _ hc4) hB1 (fun k hk => (World.ownsRow.lt HO.out k hk).1))
        dsimp only [Act.put]
        simp only [List.setIfInBounds_toArray, List.set_cons_succ, List.set_cons_zero, List.drop_succ_cons, List.drop_zero]
        go_wp2_with (refine wpList_store_at rfl 35 _ _ rfl (.slice (some ⟨ga, 0, none⟩) (pl.length + 1) ca) hU5 rfl rfl (by kernel_rfl) rfl (by simp) rfl ?_; intro W5 hU6 hc5)
        have hO5 := own_chgP hO4 hU5 hc5 (by decide)
        refine bodyPost_ret (v := .tuple #[]) (results_none rfl _ _ _) rfl ?_
        refine ⟨rfl, hB4.trans (hc5.below1 (by have := hB4.size; omega) hly), hP4.trans (OPl.chg hc5), fun h => absurd h (by omega), fun q2 hq2 => ?_⟩
        rw [HQ.out] at hq2
        injection hq2 with hq2
        subst hq2
        rw [HSB.out]
        exact ⟨.slice (some ⟨ga, 0, none⟩) (pl.length + 1) ca, hU6, hO5⟩
    | false =>
      by_cases c1 : rw' < q.a
      · have HSB : Hid ((false || (decide (rw' < q.a) || decide (rh < q.b))) = true) := by show _ = _; rw [decide_eq_true c1]; rfl
        go_upto_region 6 with (refine wpList_store_at rfl 4 _ _ rfl (.bool true) hU rfl rfl (by kernel_rfl) rfl (by simp) rfl ?_; intro W3 hU3 hc3)
        have hU4 : Blk W3 ly 96 #[.int .i64 K, .slice (some ⟨b, off, none⟩) kl.length c, v, .bool g, .bool true] := hU3
        replace hO := own_chgP hO hU hc3 (by decide)
        replace hr := hr.chg1 hc3 (by omega)
        replace hq := hq.chg1 hc3 (by omega)
        replace hB := hB.trans (hc3.below1 (by have := hB.size; omega) hly)
        replace hP := hP.trans (OPl.chg hc3)
        clear hU hU3 hc3 u0 u1 u2 u3 u4 r2 r3 k0 k1
        have r0 := hr.cell_ 0 (v := .int .i64 x) rfl
        have r1 := hr.cell_ 1 (v := .int .i64 y) rfl
        have k0 := hq.cell_ 0 (v := .int .i64 q.a) rfl
        have k1 := hq.cell_ 1 (v := .int .i64 q.b) rfl
        obtain ⟨W, rfl⟩ : ∃ X : World, X = W3 := ⟨_, rfl⟩
        have hB1 : B ≤ W.heap.size := by have := hB.size; omega
        have hnb : ∀ k, v.ownBlock = some k → ly ≠ k := own_ne_blk hO hU4 (by decide)
        have hnr : ∀ k, v.ownBlock = some k → w.heap.size ≠ k := own_ne_blk hO hr (by decide)
        have hnq := own_ne_blk (e := 38) hO hq (by decide)
        have HKU := hide hU4
        have HKR := hide hr
        have HKQ := hide hq
        have HO := hide hO
        have HLL := hide hll
        have hgv : ∀ W', Chg (fun k => v.ownBlock = some k) W W' → W.grownBy W' v.ownBlock := fun W' hc => ⟨hc.os, hc.tape, hc.output, hc.size, fun k hk hn => hc.block k hk fun he => hn he.symm⟩
        have HGV := hide hgv
        clear hgv r0 r1 k0 k1 hr hq
        go_wp2_with fail
        refine wp_region_app 17 15 16 [0, 1, 2, 3, 4, 5, 6, 7, 8, 9, 10, 11, 12, 13, 14] (.tmp 53) (.tmp 64) (cs := #[.int .u8 pc, .int .i64 x, .int .i64 y, .int .i64 q.a, .int .i64 q.b]) (y := (⟨pc, x, y, q.a, q.b⟩ : Pl)) (by kernel_rfl) (by kernel_rfl) (by kernel_rfl) (by kernel_rfl) et_place hO (fun _ => rfl) pl_one hll hB1 rfl (by decide) rfl rfl rfl ?_
        clear hU4 hO
        apply Exists.intro
        refine ⟨fun W1 hc => ?_, ?_⟩
        · have g1 := HKU.out.grownv (HGV.out _ hc) hnb
          have g2 := HKR.out.grownv (HGV.out _ hc) hnr
          have g3 := HKQ.out.grownv (HGV.out _ hc) hnq
          have y_u2 := Since.cell (g1.cell_ 2 (v := v) rfl)
          have y_r0 := Since.cell (g2.cell_ 0 (v := .int .i64 x) rfl)
          have y_r1 := Since.cell (g2.cell_ 1 (v := .int .i64 y) rfl)
          have y_k0 := Since.cell (g3.cell_ 0 (v := .int .i64 q.a) rfl)
          have y_k1 := Since.cell (g3.cell_ 1 (v := .int .i64 q.b) rfl)
          dsimp only [pick, List.filterMap, List.getElem?_cons_succ, List.getElem?_cons_zero]
          repeat (go_big_quiet_step (fail))
          exact wpQuiet_nil rfl
        · refine ⟨rfl, fun w1 => exec_build rfl (by simp [Act.eval] <;> rfl) (run_build1 et_place (.agg #[.int .u8 pc, .int .i64 x, .int .i64 y, .int .i64 q.a, .int .i64 q.b]) rfl (by omega) w1), fun gz => ⟨rfl, rfl, rfl, fun ga ca W4 hc4 hO4 => ?_⟩⟩
          have hU5 := HKU.out.grownv (HGV.out _ hc4) hnb
          have hP4 := hP.trans (OPl.grown HO.out (HGV.out _ hc4))
          have hB4 := hB.trans (grownv_below (HGV.out _ hc4) hB1 (fun k hk => (World.ownsRow.lt HO.out k hk).1))
          dsimp only [Act.put]
          simp only [List.setIfInBounds_toArray, List.set_cons_succ, List.set_cons_zero, List.drop_succ_cons, List.drop_zero]
          go_wp2_with (refine wpList_store_at rfl 35 _ _ rfl (.slice (some ⟨ga, 0, none⟩) (pl.length + 1) ca) hU5 rfl rfl (by kernel_rfl) rfl (by simp) rfl ?_; intro W5 hU6 hc5)
          have hO5 := own_chgP hO4 hU5 hc5 (by decide)
          refine bodyPost_ret (v := .tuple #[]) (results_none rfl _ _ _) rfl ?_
          refine ⟨rfl, hB4.trans (hc5.below1 (by have := hB4.size; omega) hly), hP4.trans (OPl.chg hc5), fun h => absurd h (by omega), fun q2 hq2 => ?_⟩
          rw [HQ.out] at hq2
          injection hq2 with hq2
          subst hq2
          rw [HSB.out]
          exact ⟨.slice (some ⟨ga, 0, none⟩) (pl.length + 1) ca, hU6, hO5⟩
      · by_cases c2 : rh < q.b
        · have HSB : Hid ((false || (decide (rw' < q.a) || decide (rh < q.b))) = true) := by show _ = _; rw [decide_eq_true c2]; simp
          go_upto_region 6 with (refine wpList_store_at rfl 4 _ _ rfl (.bool true) hU rfl rfl (by kernel_rfl) rfl (by simp) rfl ?_; intro W3 hU3 hc3)
          have hU4 : Blk W3 ly 96 #[.int .i64 K, .slice (some ⟨b, off, none⟩) kl.length c, v, .bool g, .bool true] := hU3
          replace hO := own_chgP hO hU hc3 (by decide)
          replace hr := hr.chg1 hc3 (by omega)
          replace hq := hq.chg1 hc3 (by omega)
          replace hB := hB.trans (hc3.below1 (by have := hB.size; omega) hly)
          replace hP := hP.trans (OPl.chg hc3)
          clear hU hU3 hc3 u0 u1 u2 u3 u4 r2 r3 k0 k1
          have r0 := hr.cell_ 0 (v := .int .i64 x) rfl
          have r1 := hr.cell_ 1 (v := .int .i64 y) rfl
          have k0 := hq.cell_ 0 (v := .int .i64 q.a) rfl
          have k1 := hq.cell_ 1 (v := .int .i64 q.b) rfl
          obtain ⟨W, rfl⟩ : ∃ X : World, X = W3 := ⟨_, rfl⟩
          have hB1 : B ≤ W.heap.size := by have := hB.size; omega
          have hnb : ∀ k, v.ownBlock = some k → ly ≠ k := own_ne_blk hO hU4 (by decide)
          have hnr : ∀ k, v.ownBlock = some k → w.heap.size ≠ k := own_ne_blk hO hr (by decide)
          have hnq := own_ne_blk (e := 38) hO hq (by decide)
          have HKU := hide hU4
          have HKR := hide hr
          have HKQ := hide hq
          have HO := hide hO
          have HLL := hide hll
          have hgv : ∀ W', Chg (fun k => v.ownBlock = some k) W W' → W.grownBy W' v.ownBlock := fun W' hc => ⟨hc.os, hc.tape, hc.output, hc.size, fun k hk hn => hc.block k hk fun he => hn he.symm⟩
          have HGV := hide hgv
          clear hgv r0 r1 k0 k1 hr hq
          go_wp2_with fail
          refine wp_region_app 17 15 16 [0, 1, 2, 3, 4, 5, 6, 7, 8, 9, 10, 11, 12, 13, 14] (.tmp 53) (.tmp 64) (cs := #[.int .u8 pc, .int .i64 x, .int .i64 y, .int .i64 q.a, .int .i64 q.b]) (y := (⟨pc, x, y, q.a, q.b⟩ : Pl)) (by kernel_rfl) (by kernel_rfl) (by kernel_rfl) (by kernel_rfl) et_place hO (fun _ => rfl) pl_one hll hB1 rfl (by decide) rfl rfl rfl ?_
          clear hU4 hO
          apply Exists.intro
          refine ⟨fun W1 hc => ?_, ?_⟩
          · have g1 := HKU.out.grownv (HGV.out _ hc) hnb
            have g2 := HKR.out.grownv (HGV.out _ hc) hnr
            have g3 := HKQ.out.grownv (HGV.out _ hc) hnq
            have y_u2 := Since.cell (g1.cell_ 2 (v := v) rfl)
            have y_r0 := Since.cell (g2.cell_ 0 (v := .int .i64 x) rfl)
            have y_r1 := Since.cell (g2.cell_ 1 (v := .int .i64 y) rfl)
            have y_k0 := Since.cell (g3.cell_ 0 (v := .int .i64 q.a) rfl)
            have y_k1 := Since.cell (g3.cell_ 1 (v := .int .i64 q.b) rfl)
            dsimp only [pick, List.filterMap, List.getElem?_cons_succ, List.getElem?_cons_zero]
            repeat (go_big_quiet_step (fail))
            exact wpQuiet_nil rfl
          · refine ⟨rfl, fun w1 => exec_build rfl (by simp [Act.eval] <;> rfl) (run_build1 et_place (.agg #[.int .u8 pc, .int .i64 x, .int .i64 y, .int .i64 q.a, .int .i64 q.b]) rfl (by omega) w1), fun gz => ⟨rfl, rfl, rfl, fun ga ca W4 hc4 hO4 => ?_⟩⟩
            have hU5 := HKU.out.grownv (HGV.out _ hc4) hnb
            have hP4 := hP.trans (OPl.grown HO.out (HGV.out _ hc4))
            have hB4 := hB.trans (grownv_below (HGV.out _ hc4) hB1 (fun k hk => (World.ownsRow.lt HO.out k hk).1))
            dsimp only [Act.put]
            simp only [List.setIfInBounds_toArray, List.set_cons_succ, List.set_cons_zero, List.drop_succ_cons, List.drop_zero]
            go_wp2_with (refine wpList_store_at rfl 35 _ _ rfl (.slice (some ⟨ga, 0, none⟩) (pl.length + 1) ca) hU5 rfl rfl (by kernel_rfl) rfl (by simp) rfl ?_; intro W5 hU6 hc5)
            have hO5 := own_chgP hO4 hU5 hc5 (by decide)
            refine bodyPost_ret (v := .tuple #[]) (results_none rfl _ _ _) rfl ?_
            refine ⟨rfl, hB4.trans (hc5.below1 (by have := hB4.size; omega) hly), hP4.trans (OPl.chg hc5), fun h => absurd h (by omega), fun q2 hq2 => ?_⟩
            rw [HQ.out] at hq2
            injection hq2 with hq2
            subst hq2
            rw [HSB.out]
            exact ⟨.slice (some ⟨ga, 0, none⟩) (pl.length + 1) ca, hU6, hO5⟩
        · have HSB : Hid ((false || (decide (rw' < q.a) || decide (rh < q.b))) = false) := by show _ = _; rw [decide_eq_false c1, decide_eq_false c2]; rfl
          go_upto_region 6 with (refine wpList_store_at rfl 4 _ _ rfl (.bool false) hU rfl rfl (by kernel_rfl) rfl (by simp) rfl ?_; intro W3 hU3 hc3)
          have hU4 : Blk W3 ly 96 #[.int .i64 K, .slice (some ⟨b, off, none⟩) kl.length c, v, .bool g, .bool false] := hU3
          replace hO := own_chgP hO hU hc3 (by decide)
          replace hr := hr.chg1 hc3 (by omega)
          replace hq := hq.chg1 hc3 (by omega)
          replace hB := hB.trans (hc3.below1 (by have := hB.size; omega) hly)
          replace hP := hP.trans (OPl.chg hc3)
          clear hU hU3 hc3 u0 u1 u2 u3 u4 r2 r3 k0 k1
          have r0 := hr.cell_ 0 (v := .int .i64 x) rfl
          have r1 := hr.cell_ 1 (v := .int .i64 y) rfl
          have k0 := hq.cell_ 0 (v := .int .i64 q.a) rfl
          have k1 := hq.cell_ 1 (v := .int .i64 q.b) rfl
          obtain ⟨W, rfl⟩ : ∃ X : World, X = W3 := ⟨_, rfl⟩
          have hB1 : B ≤ W.heap.size := by have := hB.size; omega
          have hnb : ∀ k, v.ownBlock = some k → ly ≠ k := own_ne_blk hO hU4 (by decide)
          have hnr : ∀ k, v.ownBlock = some k → w.heap.size ≠ k := own_ne_blk hO hr (by decide)
          have hnq := own_ne_blk (e := 38) hO hq (by decide)
          have HKU := hide hU4
          have HKR := hide hr
          have HKQ := hide hq
          have HO := hide hO
          have HLL := hide hll
          have hgv : ∀ W', Chg (fun k => v.ownBlock = some k) W W' → W.grownBy W' v.ownBlock := fun W' hc => ⟨hc.os, hc.tape, hc.output, hc.size, fun k hk hn => hc.block k hk fun he => hn he.symm⟩
          have HGV := hide hgv
          clear hgv r0 r1 k0 k1 hr hq
          go_wp2_with fail
          refine wp_region_app 17 15 16 [0, 1, 2, 3, 4, 5, 6, 7, 8, 9, 10, 11, 12, 13, 14] (.tmp 53) (.tmp 64) (cs := #[.int .u8 pc, .int .i64 x, .int .i64 y, .int .i64 q.a, .int .i64 q.b]) (y := (⟨pc, x, y, q.a, q.b⟩ : Pl)) (by kernel_rfl) (by kernel_rfl) (by kernel_rfl) (by kernel_rfl) et_place hO (fun _ => rfl) pl_one hll hB1 rfl (by decide) rfl rfl rfl ?_
          clear hU4 hO
          apply Exists.intro
          refine ⟨fun W1 hc => ?_, ?_⟩
          · have g1 := HKU.out.grownv (HGV.out _ hc) hnb
            have g2 := HKR.out.grownv (HGV.out _ hc) hnr
            have g3 := HKQ.out.grownv (HGV.out _ hc) hnq
            have y_u2 := Since.cell (g1.cell_ 2 (v := v) rfl)
            have y_r0 := Since.cell (g2.cell_ 0 (v := .int .i64 x) rfl)
            have y_r1 := Since.cell (g2.cell_ 1 (v := .int .i64 y) rfl)
            have y_k0 := Since.cell (g3.cell_ 0 (v := .int .i64 q.a) rfl)
            have y_k1 := Since.cell (g3.cell_ 1 (v := .int .i64 q.b) rfl)
            dsimp only [pick, List.filterMap, List.getElem?_cons_succ, List.getElem?_cons_zero]
            repeat (go_big_quiet_step (fail))
            exact wpQuiet_nil rfl
          · refine ⟨rfl, fun w1 => exec_build rfl (by simp [Act.eval] <;> rfl) (run_build1 et_place (.agg #[.int .u8 pc, .int .i64 x, .int .i64 y, .int .i64 q.a, .int .i64 q.b]) rfl (by omega) w1), fun gz => ⟨rfl, rfl, rfl, fun ga ca W4 hc4 hO4 => ?_⟩⟩
            have hU5 := HKU.out.grownv (HGV.out _ hc4) hnb
            have hP4 := hP.trans (OPl.grown HO.out (HGV.out _ hc4))
            have hB4 := hB.trans (grownv_below (HGV.out _ hc4) hB1 (fun k hk => (World.ownsRow.lt HO.out k hk).1))
            dsimp only [Act.put]
            simp only [List.setIfInBounds_toArray, List.set_cons_succ, List.set_cons_zero, List.drop_succ_cons, List.drop_zero]
            go_wp2_with (refine wpList_store_at rfl 35 _ _ rfl (.slice (some ⟨ga, 0, none⟩) (pl.length + 1) ca) hU5 rfl rfl (by kernel_rfl) rfl (by simp) rfl ?_; intro W5 hU6 hc5)
            have hO5 := own_chgP hO4 hU5 hc5 (by decide)
            refine bodyPost_ret (v := .tuple #[]) (results_none rfl _ _ _) rfl ?_
            refine ⟨rfl, hB4.trans (hc5.below1 (by have := hB4.size; omega) hly), hP4.trans (OPl.chg hc5), fun h => absurd h (by omega), fun q2 hq2 => ?_⟩
            rw [HQ.out] at hq2
            injection hq2 with hq2
            subst hq2
            rw [HSB.out]
            exact ⟨.slice (some ⟨ga, 0, none⟩) (pl.length + 1) ca, hU6, hO5⟩
end Go.Proofs.YtecaaimaeaocbaaDoor
