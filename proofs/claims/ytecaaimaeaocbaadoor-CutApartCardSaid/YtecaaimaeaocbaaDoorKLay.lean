/- Places of the program: lay. -/
import Derived.Test.YtecaaimaeaocbaaDoorKPut
namespace Go.Proofs.YtecaaimaeaocbaaDoor
open Go Go.RowKit
theorem TreeAt.belowBP {w w' : World} {L B f : Nat} {t : Tree} {v : TV} (h : TreeAt w L B f t v) (hb : Below B w w') : TreeAt w' L B f t v :=
  h.keep (fun p _ hp => hb.cell hp) (Nat.le_refl _) (Nat.le_refl _)
def kdL (kl : List Pt) : Kds := kl.map fun p => (p.a, p.b)
theorem kdL_get (kl : List Pt) (i : Nat) : (kdL kl)[i]? = (kl[i]?).map fun p => (p.a, p.b) := by unfold kdL; rw [List.getElem?_map]
theorem kdL_len (kl : List Pt) : (kdL kl).length = kl.length := by unfold kdL; rw [List.length_map]
/-- what a layout's walk keeps -/
structure LC (w0 : World) (B ly : Nat) (K : Int) (A : Option Addr) (kl : List Pt) (c f : Nat) (t : Tree) (v : TV) (pl : List Pl) (g s : Bool) (W : World) : Prop where
  tr : TreeAt W 0 B f t v
  la : LayAt B ly K A kl c pl g s W
  sl : Slc Pt.enc 2 W B A kl
  bl : Below B w0 W
  op : OPl ly w0 W
  lw : ly < w0.heap.size
  ge : B ≤ ly
section
variable {w0 : World} {B ly : Nat} {K : Int} {A : Option Addr} {kl : List Pt} {c f : Nat} {t : Tree} {v : TV} {pl : List Pl} {g s : Bool} {W W' : World}
theorem LC.size (h : LC w0 B ly K A kl c f t v pl g s W) : B ≤ W.heap.size := by have := h.bl.size; have := h.lw; have := h.ge; omega
theorem LC.below (h : LC w0 B ly K A kl c f t v pl g s W) (hb : Below W.heap.size W W') : LC w0 B ly K A kl c f t v pl g s W' :=
  ⟨h.tr.belowB hb h.size, h.la.below hb, h.sl.below (hb.mono h.size), h.bl.trans (hb.mono h.size), h.op.trans (OPl.below hb), h.lw, h.ge⟩
theorem LC.chgF {b : Nat} {ty : TypeId} {cs : Array Value} (h : LC w0 B ly K A kl c f t v pl g s W) (hc : Chg (fun k => k = b) W W') (hx : Blk W b ty cs) (ht : 38 ≠ ty) (hg : w0.heap.size ≤ b) : LC w0 B ly K A kl c f t v pl g s W' := by
  have hlw := h.lw
  have hge := h.ge
  have hb : Below B W W' := hc.below1 h.size (by omega)
  refine ⟨h.tr.belowBP hb, ?_, h.sl.below hb, h.bl.trans hb, fun k o hk hne ho => ?_, h.lw, h.ge⟩
  · obtain ⟨u, h1, h2⟩ := h.la
    exact ⟨u, h1.chg1 hc (by omega), own_chgP h2 hx hc ht⟩
  · have h1 := h.op k o hk hne ho
    have h2 : k < w0.heap.size := (Array.getElem?_eq_some_iff.1 hk).1
    have h3 : k < W.heap.size := (Array.getElem?_eq_some_iff.1 h1).1
    exact (hc.block k h3 (by show ¬ k = b; omega)).trans h1
theorem LC.step {pl' : List Pl} {g' s' : Bool} (h : LC w0 B ly K A kl c f t v pl g s W) (hb : Below B W W') (ho : OPl ly W W') (hl : LayAt B ly K A kl c pl' g' s' W') : LC w0 B ly K A kl c f t v pl' g' s' W' :=
  ⟨h.tr.belowBP hb, hl, h.sl.below hb, h.bl.trans hb, h.op.trans ho, h.lw, h.ge⟩
end
def Rb (f : Nat) (x : Int) : Prop := -(100000 - 2000 * (f : Int)) ≤ x ∧ x ≤ 100000 - 2000 * (f : Int)
def LayPost (B ly : Nat) (K : Int) (A : Option Addr) (kl : List Pt) (c : Nat) (pl : List Pl) (g s : Bool) (t : Tree) (x y rw' rh : Int) (w : World) (e : Ending) (w' : World) : Prop :=
  e = .returned (.tuple #[]) ∧ Below B w w' ∧ OPl ly w w' ∧ ∃ pl' s', LayAt B ly K A kl c pl' (g || goneT K (kdL kl) t rw' rh) s' w' ∧ pl'.length ≤ pl.length + (pcsT t).length ∧
    (goneT K (kdL kl) t rw' rh = false → pl' = pl ++ placesT K (kdL kl) t x y rw' rh ∧ s' = (s || smallT K (kdL kl) t rw' rh))
def LayWalk (f : Nat) : Prop := ∀ (t : Tree) (op n pc : Int) (A' : Option Addr) (k c' B ly : Nat) (K : Int) (A : Option Addr) (kl : List Pt) (c : Nat) (pl : List Pl) (g s : Bool) (x y rw' rh : Int) (w : World),
  Right t → TreeAt w 0 B f t ⟨op, n, pc, A', k, c'⟩ → LayAt B ly K A kl c pl g s w → B ≤ ly → Slc Pt.enc 2 w B A kl → kl.length ≤ 1000 → 0 ≤ K ∧ K ≤ 20 → Rb f x ∧ Rb f y ∧ Rb f rw' ∧ Rb f rh → pl.length + (pcsT t).length ≤ 1000000000 →
  Calls Tryd.prog 72 #[.pointer (some ⟨ly, 0, none⟩), .agg #[.int .i64 op, .int .i64 n, .int .u8 pc, .slice A' k c'], .agg #[.int .i64 x, .int .i64 y, .int .i64 rw', .int .i64 rh]] w fun e w' => LayPost B ly K A kl c pl g s t x y rw' rh w e w'
set_option maxRecDepth 100000 in
set_option maxHeartbeats 8000000 in
theorem lay_step (f : Nat) (hf : f ≤ 20) (H : LayWalk f) : LayWalk (f + 1) := by
  intro t op n pc A' k c' B ly K A kl c pl g s x y rw' rh w hr0 hT hL hly hS hkl hK hbd hM
  have HH := hide H
  have HR := hide hr0
  have HBD := hide hbd
  have HM := hide hM
  have hlw := hL.lt
  have hk := (Blk.new w 60 #[.int .i64 op, .int .i64 n, .int .u8 pc, .slice A' k c']).alloc (.cells #[.int .i64 x, .int .i64 y, .int .i64 rw', .int .i64 rh] 99)
  have hr := Blk.new (w.alloc (.cells #[.int .i64 op, .int .i64 n, .int .u8 pc, .slice A' k c'] 60)) 99 #[.int .i64 x, .int .i64 y, .int .i64 rw', .int .i64 rh]
  rw [show (w.alloc (.cells #[.int .i64 op, .int .i64 n, .int .u8 pc, .slice A' k c'] 60)).heap.size = w.heap.size + 1 by simp] at hr
  have hb0 := ((Below.refl w.heap.size w).alloc (Nat.le_refl _) (.cells #[.int .i64 op, .int .i64 n, .int .u8 pc, .slice A' k c'] 60)).alloc (by simp) (.cells #[.int .i64 x, .int .i64 y, .int .i64 rw', .int .i64 rh] 99)
  have hX := (LC.mk hT hL hS (Below.refl B w) (OPl.refl ly w) hlw hly).below hb0
  clear H hr0 hbd hM hT hL hS hb0
  go_enter Tryd.func72, Tryd.ntmps72
  go_upto_region 1 with fail
  generalize (w.alloc (.cells #[.int .i64 op, .int .i64 n, .int .u8 pc, .slice A' k c'] 60)).alloc (.cells #[.int .i64 x, .int .i64 y, .int .i64 rw', .int .i64 rh] 99) = W at *
  have hrl := hr.lt
  have r2 := hr.cell_ 2 (v := .int .i64 rw') rfl
  have r3 := hr.cell_ 3 (v := .int .i64 rh) rfl
  by_cases c1 : rw' < 1
  · have HNR : Hid (noRoom rw' rh = true) := by show _ = _; unfold noRoom; rw [decide_eq_true c1]; rfl
    have HGN : Hid ((g || true) = true) := Bool.or_true g
    obtain ⟨v, hU, hO⟩ := hX.la
    go_upto_region 3 with (refine wpList_store_at rfl 4 _ _ rfl (.bool true) hU rfl rfl (by kernel_rfl) rfl (by simp) rfl ?_; intro W3 hU3 hc3)
    replace hX := hX.step (hc3.below1 hX.size hly) (OPl.chg hc3) ⟨v, hU3, own_chgP hO hU hc3 (by decide)⟩
    replace hk := hk.chg1 hc3 (by omega)
    replace hr := hr.chg1 hc3 (by omega)
    have HW := hide hc3.size
    clear hU hO hU3 hc3 r2 r3
    have hrl := hr.lt
    try dsimp only [Act.put]
    obtain ⟨W, rfl⟩ : ∃ X : World, X = W3 := ⟨_, rfl⟩
    clear c1
    have q0 := hk.cell_ 0 rfl
    have q1 := hk.cell_ 1 rfl
    have q2 := hk.cell_ 2 rfl
    have q3 := hk.cell_ 3 rfl
    have r0 := hr.cell_ 0 rfl
    have r1 := hr.cell_ 1 rfl
    have r2 := hr.cell_ 2 rfl
    have r3 := hr.cell_ 3 rfl
    go_wp2_with fail
    have z_q0 := hide (fun w' (hb : Below W.heap.size W w') => Since.later hb q0)
    have z_q1 := hide (fun w' (hb : Below W.heap.size W w') => Since.later hb q1)
    have z_q2 := hide (fun w' (hb : Below W.heap.size W w') => Since.later hb q2)
    have z_q3 := hide (fun w' (hb : Below W.heap.size W w') => Since.later hb q3)
    have z_r0 := hide (fun w' (hb : Below W.heap.size W w') => Since.later hb r0)
    have z_r1 := hide (fun w' (hb : Below W.heap.size W w') => Since.later hb r1)
    have z_r2 := hide (fun w' (hb : Below W.heap.size W w') => Since.later hb r2)
    have z_r3 := hide (fun w' (hb : Below W.heap.size W w') => Since.later hb r3)
    have hok : FldOk W ([⟨2, .ptr, (.cells #[.int .i64 0, .int .i64 0, .int .i64 0, .int .i64 0] 99), 4, (.cells #[.int .i64 x, .int .i64 y, .int .i64 rw', .int .i64 rh] 99)⟩, ⟨3, .ptr, (.cells #[.int .i64 0, .int .i64 0, .int .i64 0, .int .i64 0] 99), 5, (.cells #[.int .i64 x, .int .i64 y, .int .i64 rw', .int .i64 rh] 99)⟩]) [] := FldOk.nil_
    refine wp_region_both 6 [0, 1] [2, 3, 4, 5] [⟨2, .ptr, (.cells #[.int .i64 0, .int .i64 0, .int .i64 0, .int .i64 0] 99), 4, (.cells #[.int .i64 x, .int .i64 y, .int .i64 rw', .int .i64 rh] 99)⟩, ⟨3, .ptr, (.cells #[.int .i64 0, .int .i64 0, .int .i64 0, .int .i64 0] 99), 5, (.cells #[.int .i64 x, .int .i64 y, .int .i64 rw', .int .i64 rh] 99)⟩] [] (fun f hf => by cases hf) (by kernel_rfl) (by kernel_rfl) (by kernel_rfl) (by kernel_rfl) (by kernel_rfl) (by simp) ?_
    apply Exists.intro
    refine ⟨fun W1 hc0 => ?_, ?_⟩
    · have hb := hc0.nil_
      have y_q0 := Since.cell (z_q0.out W1 hb)
      have y_q1 := Since.cell (z_q1.out W1 hb)
      have y_q2 := Since.cell (z_q2.out W1 hb)
      have y_q3 := Since.cell (z_q3.out W1 hb)
      have y_r0 := Since.cell (z_r0.out W1 hb)
      have y_r1 := Since.cell (z_r1.out W1 hb)
      have y_r2 := Since.cell (z_r2.out W1 hb)
      have y_r3 := Since.cell (z_r3.out W1 hb)
      replace hk := hk.below hb hk.lt
      replace hr := hr.below hb hr.lt
      replace hX := LC.below hX hb
      dsimp only [pick, List.filterMap, List.getElem?_cons_succ, List.getElem?_cons_zero]
      repeat (go_big_quiet_step ((fail)))
      exact wpQuiet_nil rfl
    · refine ownWalk_alloc ⟨2, .ptr, (.cells #[.int .i64 0, .int .i64 0, .int .i64 0, .int .i64 0] 99), 4, (.cells #[.int .i64 x, .int .i64 y, .int .i64 rw', .int .i64 rh] 99)⟩ hok (by kernel_rfl) rfl rfl rfl rfl (fun _ => rfl) (by simp) (by simp) (fun h => absurd h (by simp)) ?_
      intro hxb
      simp only [Shape.val, List.setIfInBounds_toArray, List.set_cons_succ, List.set_cons_zero]
      refine ownWalk_alloc ⟨3, .ptr, (.cells #[.int .i64 0, .int .i64 0, .int .i64 0, .int .i64 0] 99), 5, (.cells #[.int .i64 x, .int .i64 y, .int .i64 rw', .int .i64 rh] 99)⟩ hok (by kernel_rfl) rfl rfl rfl rfl (fun _ => rfl) (by simp) (by simp) (fun h => absurd h (by simp)) ?_
      intro hyb
      simp only [Shape.val, List.setIfInBounds_toArray, List.set_cons_succ, List.set_cons_zero]
      refine ownWalk_fill (cs := #[.int .i64 0, .int .i64 0, .int .i64 0, .int .i64 0]) (cs' := #[.int .i64 x, .int .i64 y, .int .i64 rw', .int .i64 rh]) ⟨2, .ptr, (.cells #[.int .i64 0, .int .i64 0, .int .i64 0, .int .i64 0] 99), 4, (.cells #[.int .i64 x, .int .i64 y, .int .i64 rw', .int .i64 rh] 99)⟩ hok (by kernel_rfl) rfl rfl rfl rfl rfl rfl rfl rfl (by kernel_rfl) rfl (by simp [Value.oneCell']) rfl rfl (by simp) (by simp) (by simp) rfl ?_ (by simp)
      refine ownWalk_fill (cs := #[.int .i64 0, .int .i64 0, .int .i64 0, .int .i64 0]) (cs' := #[.int .i64 x, .int .i64 y, .int .i64 rw', .int .i64 rh]) ⟨3, .ptr, (.cells #[.int .i64 0, .int .i64 0, .int .i64 0, .int .i64 0] 99), 5, (.cells #[.int .i64 x, .int .i64 y, .int .i64 rw', .int .i64 rh] 99)⟩ hok (by kernel_rfl) rfl rfl rfl rfl rfl rfl rfl rfl (by kernel_rfl) rfl (by simp [Value.oneCell']) rfl rfl (by simp) (by simp) (by simp) rfl ?_ (by simp)
      refine ownWalk_nil ?_
      intro w' hc0 hD
      have hb := hc0.nil_
      obtain ⟨hxge, hx⟩ := hD.box.get (x := ⟨2, .ptr, (.cells #[.int .i64 0, .int .i64 0, .int .i64 0, .int .i64 0] 99), 4, (.cells #[.int .i64 x, .int .i64 y, .int .i64 rw', .int .i64 rh] 99)⟩) (o := (.cells #[.int .i64 x, .int .i64 y, .int .i64 rw', .int .i64 rh] 99)) (by simp) rfl rfl
      replace hx : Blk _ _ _ _ := hx
      obtain ⟨hyge, hy⟩ := hD.box.get (x := ⟨3, .ptr, (.cells #[.int .i64 0, .int .i64 0, .int .i64 0, .int .i64 0] 99), 5, (.cells #[.int .i64 x, .int .i64 y, .int .i64 rw', .int .i64 rh] 99)⟩) (o := (.cells #[.int .i64 x, .int .i64 y, .int .i64 rw', .int .i64 rh] 99)) (by simp) rfl rfl
      replace hy : Blk _ _ _ _ := hy
      have hx_hy := hD.box.apart (x := ⟨2, .ptr, (.cells #[.int .i64 0, .int .i64 0, .int .i64 0, .int .i64 0] 99), 4, (.cells #[.int .i64 x, .int .i64 y, .int .i64 rw', .int .i64 rh] 99)⟩) (y := ⟨3, .ptr, (.cells #[.int .i64 0, .int .i64 0, .int .i64 0, .int .i64 0] 99), 5, (.cells #[.int .i64 x, .int .i64 y, .int .i64 rw', .int .i64 rh] 99)⟩) (by simp) (by simp) (by simp) rfl rfl
      clear hD
      try simp only [List.drop_succ_cons, List.drop_zero]
      clear z_q0 z_q1 z_q2 z_q3 z_r0 z_r1 z_r2 z_r3
      clear q0 q1 q2 q3 r0 r1 r2 r3
      replace hk := hk.below hb hk.lt
      replace hr := hr.below hb hr.lt
      replace hX := LC.below hX hb
      clear hb hok hc0
      obtain ⟨W, rfl⟩ : ∃ W : World, W = w' := ⟨_, rfl⟩
      have q0 := hk.cell_ 0 rfl
      have q1 := hk.cell_ 1 rfl
      have q2 := hk.cell_ 2 rfl
      have q3 := hk.cell_ 3 rfl
      have r0 := hr.cell_ 0 rfl
      have r1 := hr.cell_ 1 rfl
      have r2 := hr.cell_ 2 rfl
      have r3 := hr.cell_ 3 rfl
      have a0 := hx.cell_ 0 rfl
      have a1 := hx.cell_ 1 rfl
      have a2 := hx.cell_ 2 rfl
      have a3 := hx.cell_ 3 rfl
      have b0 := hy.cell_ 0 rfl
      have b1 := hy.cell_ 1 rfl
      have b2 := hy.cell_ 2 rfl
      have b3 := hy.cell_ 3 rfl
      go_upto_region 4 with fail
      have hr2 := HR.out
      cases hr2 with
      | waste =>
        obtain ⟨h1, -, -, -, -⟩ := hX.tr.head
        have h1' : op = 0 := h1
        subst h1'
        have HGF : Hid (goneT K (kdL kl) (.node 0 0 0 []) rw' rh = true) := by show _ = _; simp [goneT, HNR.out]
        clear hk hr hx hy
        have HX := hide hX
        clear hX h1
        go_wp2_with fail
        refine bodyPost_ret (v := .tuple #[]) (results_none rfl _ _ _) rfl ?_
        refine ⟨rfl, HX.out.bl, HX.out.op, pl, s, ?_, by omega, fun _ => ⟨by simp [placesT], by simp [smallT]⟩⟩
        rw [HGF.out, HGN.out]
        exact HX.out.la
      | piece pc' p1 p2 =>
        obtain ⟨h1, -, h3, -, -⟩ := hX.tr.head
        have h1' : op = 1 := h1
        subst h1'
        obtain ⟨m, rfl⟩ : ∃ m, pc' = 97 + m := ⟨pc' - 97, by omega⟩
        have hpc : pc = 97 + (m : Int) := by have : pc = ((97 + m : Nat) : Int) := h3; omega
        have hm25 : m ≤ 25 := by omega
        have hM2 : pl.length + 1 ≤ 1000000000 := by have := HM.out; simpa [pcsT] using this
        have HPC := hide hpc
        clear hx hy h1 h3 hpc p1 p2
        go_wp2_with fail
        refine (put_any B ly K A kl c pl true s pc m x y rw' rh W HPC.out hm25 hX.la hly hX.sl hkl hM2).mono ?_
        rintro e W2 ⟨rfl, hb2, ho2, hno, hyes⟩
        have hbl := hX.bl.trans hb2
        have hop := hX.op.trans ho2
        clear hX hk hr hb2 ho2
        go_wp2_with fail
        refine bodyPost_ret (v := .tuple #[]) (results_none rfl _ _ _) rfl ?_
        have e9 : ((97 + m : Nat) : Int) = pc := by rw [HPC.out]; push_cast; rfl
        rw [e9]
        have HG0 : goneT K (kdL kl) (.node 1 0 pc []) rw' rh = (true || decide (kl.length ≤ m)) := by
          simp only [goneT, kdL_len, HNR.out, decide_true, Bool.true_and]
          rw [show decide ((kl.length : Int) ≤ pc - 97) = decide (kl.length ≤ m) from decide_eq_decide.2 (by have := HPC.out; omega)]
        by_cases hm : kl.length ≤ m
        · rw [decide_eq_true hm, Bool.or_true] at HG0
          refine ⟨rfl, hbl, hop, pl, s, ?_, by omega, fun h => by rw [HG0] at h; cases h⟩
          rw [HG0, Bool.or_true]; exact hno hm
        · rw [decide_eq_false hm, Bool.or_false] at HG0
          obtain ⟨q, hq⟩ : ∃ q, kl[m]? = some q := ⟨_, List.getElem?_eq_getElem (by omega)⟩
          have e8 : (pc - 97).toNat = m := by have := HPC.out; omega
          refine ⟨rfl, hbl, hop, pl ++ [⟨pc, x, y, q.a, q.b⟩], s || (decide (rw' < q.a) || decide (rh < q.b)), ?_, by simp [pcsT], fun _ => ⟨?_, ?_⟩⟩
          · rw [HG0, HGN.out]; exact hyes q hq
          · simp only [placesT, if_true]
            rw [e8, kdL_get, hq]; rfl
          · simp only [smallT, decide_true, Bool.true_and]
            rw [e8, kdL_get, hq]; rfl
      | cut op' n' ta tb hop hn1 hn2 hra hrb =>
        obtain ⟨h1, h2, h3, h4, -⟩ := hX.tr.head
        have h1' : op = op' := h1
        have h2' : n = (n' : Int) := h2
        have h4' : k = 2 := h4
        have hn : 1 ≤ (n' : Int) ∧ (n' : Int) ≤ 1000 := by omega
        generalize hnn : (n' : Int) = nn at *
        have HNN := hide hnn
        clear hnn
        subst h1' h2' h4'
        have HRA := hide hra
        have HRB := hide hrb
        have HN := hide hn
        have HPC : Hid (pl.length + (pcsT ta ++ pcsT tb).length ≤ 1000000000) := HM.out
        clear hn hn1 hn2 hra hrb h1 h2 h3 h4
        rcases hop with rfl | rfl
        · have HG : Hid (goneT K (kdL kl) (.node 2 n 0 [ta, tb]) rw' rh = (true || (goneT K (kdL kl) ta rw' n || goneT K (kdL kl) tb rw' (rh - n - K)))) := by show _ = _; rw [goneT, HNR.out, if_pos rfl]
          have HPL : Hid (placesT K (kdL kl) (.node 2 n 0 [ta, tb]) x y rw' rh = placesT K (kdL kl) ta x y rw' n ++ placesT K (kdL kl) tb x (y + n + K) rw' (rh - n - K)) := by show _ = _; rw [placesT, if_pos rfl]
          have HSM : Hid (smallT K (kdL kl) (.node 2 n 0 [ta, tb]) rw' rh = (smallT K (kdL kl) ta rw' n || smallT K (kdL kl) tb rw' (rh - n - K))) := by show _ = _; rw [smallT, if_pos rfl]
          have h2 := HN.out
          have h3 := hK
          have h4 := HBD.out
          unfold Rb at h4
          have e1 : IntKind.i64.wrap (y + n) = y + n := IntWalk.i64_in _ (by omega)
          have e2 : IntKind.i64.wrap (y + n + K) = y + n + K := IntWalk.i64_in _ (by omega)
          have e3 : IntKind.i64.wrap (rh - n) = rh - n := IntWalk.i64_in _ (by omega)
          have e4 : IntKind.i64.wrap (rh - n - K) = rh - n - K := IntWalk.i64_in _ (by omega)
          clear h2 h3 h4
          go_upto_region 9 with (refine wpList_store_at rfl 3 _ _ rfl (.int .i64 n) hx rfl rfl (by kernel_rfl) rfl (by simp) rfl ?_; intro W3 hx3 hc3)
          have hx4 : Blk W3 hxb 99 #[.int .i64 x, .int .i64 y, .int .i64 rw', .int .i64 n] := hx3
          replace hX := hX.chgF hc3 hx (by decide) (by omega)
          replace hk := hk.chg1 hc3 (by omega)
          replace hr := hr.chg1 hc3 (by omega)
          replace hy := hy.chg1 hc3 (by omega)
          clear hx hx3 hc3 q0 q1 q2 q3 r0 r1 r2 r3 a0 a1 a2 a3 b0 b1 b2 b3
          obtain ⟨W, rfl⟩ : ∃ X : World, X = W3 := ⟨_, rfl⟩
          obtain ⟨v, hU, hO⟩ := hX.la
          have u0 := hU.cell_ 0 (v := .int .i64 K) rfl
          clear hU hO
          try dsimp only [Act.put]
          have q0 := hk.cell_ 0 rfl
          have q1 := hk.cell_ 1 rfl
          have q2 := hk.cell_ 2 rfl
          have q3 := hk.cell_ 3 rfl
          have r0 := hr.cell_ 0 rfl
          have r1 := hr.cell_ 1 rfl
          have r2 := hr.cell_ 2 rfl
          have r3 := hr.cell_ 3 rfl
          have b0 := hy.cell_ 0 rfl
          have b1 := hy.cell_ 1 rfl
          have b2 := hy.cell_ 2 rfl
          have b3 := hy.cell_ 3 rfl
          have a0 := hx4.cell_ 0 rfl
          have a1 := hx4.cell_ 1 rfl
          have a2 := hx4.cell_ 2 rfl
          have a3 := hx4.cell_ 3 rfl
          go_wp2_with fail
          have hok : FldOk W ([]) [⟨21, hyb, 99, (#[.int .i64 x, .int .i64 y, .int .i64 rw', .int .i64 rh]), ((#[.int .i64 x, .int .i64 y, .int .i64 rw', .int .i64 rh])).setIfInBounds (1) (.int .i64 (y + n + K))⟩] := FldOk.one_ hy.lt (by simp)
          refine wp_region_both 22 [0, 1, 2, 3, 4, 5, 6, 7, 8, 9, 10, 11, 12, 13, 14, 15, 16, 17, 18, 19, 20] [21] [] [⟨21, hyb, 99, (#[.int .i64 x, .int .i64 y, .int .i64 rw', .int .i64 rh]), ((#[.int .i64 x, .int .i64 y, .int .i64 rw', .int .i64 rh])).setIfInBounds (1) (.int .i64 (y + n + K))⟩] (fun f hf => by simp only [List.mem_singleton] at hf; subst hf; exact hy) (by kernel_rfl) (by kernel_rfl) (by kernel_rfl) (by kernel_rfl) (by kernel_rfl) (by simp) ?_
          apply Exists.intro
          refine ⟨fun W1 hc0 => ?_, ?_⟩
          · have hc1 : Chg (fun k => k = hyb) W W1 := hc0.one_
            replace u0 := hc1.cell1 u0 (by show _ ≠ _; (try dsimp only); omega)
            replace hk := hk.chg1 hc1 (by omega)
            replace hr := hr.chg1 hc1 (by omega)
            replace hX := LC.chgF hX hc1 hy (by decide) (by omega)
            replace hx4 := hx4.chg1 hc1 (by omega)
            have q0 := hk.cell_ 0 rfl
            have q1 := hk.cell_ 1 rfl
            have q2 := hk.cell_ 2 rfl
            have q3 := hk.cell_ 3 rfl
            have r0 := hr.cell_ 0 rfl
            have r1 := hr.cell_ 1 rfl
            have r2 := hr.cell_ 2 rfl
            have r3 := hr.cell_ 3 rfl
            have b0 := hy.cell_ 0 rfl
            have b1 := hy.cell_ 1 rfl
            have b2 := hy.cell_ 2 rfl
            have b3 := hy.cell_ 3 rfl
            have a0 := hx4.cell_ 0 rfl
            have a1 := hx4.cell_ 1 rfl
            have a2 := hx4.cell_ 2 rfl
            have a3 := hx4.cell_ 3 rfl
            have y_q0 := Since.cell q0
            have y_q1 := Since.cell q1
            have y_q2 := Since.cell q2
            have y_q3 := Since.cell q3
            have y_r0 := Since.cell r0
            have y_r1 := Since.cell r1
            have y_r2 := Since.cell r2
            have y_r3 := Since.cell r3
            have y_b0 := Since.cell b0
            have y_b1 := Since.cell b1
            have y_b2 := Since.cell b2
            have y_b3 := Since.cell b3
            have y_a0 := Since.cell a0
            have y_a1 := Since.cell a1
            have y_a2 := Since.cell a2
            have y_a3 := Since.cell a3
            have y_u0 := Since.cell u0
            dsimp only [pick, List.filterMap, List.getElem?_cons_succ, List.getElem?_cons_zero]
            repeat (go_big_quiet_step ((fail)))
            exact wpQuiet_nil rfl
          · refine ownWalk_put (i := 1) (v := .int .i64 (y + n + K)) ⟨21, hyb, 99, (#[.int .i64 x, .int .i64 y, .int .i64 rw', .int .i64 rh]), ((#[.int .i64 x, .int .i64 y, .int .i64 rw', .int .i64 rh])).setIfInBounds (1) (.int .i64 (y + n + K))⟩ hok (by simp) rfl rfl rfl rfl rfl rfl rfl (by kernel_rfl) rfl (by simp) rfl rfl (by simp) ?_
            refine ownWalk_nil ?_
            intro w' hc0 hD
            have hc1 : Chg (fun k => k = hyb) W w' := hc0.one_
            have n_hy := hD.get (f := ⟨21, hyb, 99, (#[.int .i64 x, .int .i64 y, .int .i64 rw', .int .i64 rh]), ((#[.int .i64 x, .int .i64 y, .int .i64 rw', .int .i64 rh])).setIfInBounds (1) (.int .i64 (y + n + K))⟩) (by simp) rfl
            clear hD
            try simp only [List.drop_succ_cons, List.drop_zero]
            replace u0 := hc1.cell1 u0 (by show _ ≠ _; (try dsimp only); omega)
            clear q0 q1 q2 q3 r0 r1 r2 r3 b0 b1 b2 b3 a0 a1 a2 a3
            replace hk := hk.chg1 hc1 (by omega)
            replace hr := hr.chg1 hc1 (by omega)
            replace hX := LC.chgF hX hc1 hy (by decide) (by omega)
            replace hx4 := hx4.chg1 hc1 (by omega)
            clear hy
            have hy := n_hy
            clear n_hy hc1 hc0 hok
            dsimp only at hy
            obtain ⟨W, rfl⟩ : ∃ W : World, W = w' := ⟨_, rfl⟩
            have q0 := hk.cell_ 0 rfl
            have q1 := hk.cell_ 1 rfl
            have q2 := hk.cell_ 2 rfl
            have q3 := hk.cell_ 3 rfl
            have r0 := hr.cell_ 0 rfl
            have r1 := hr.cell_ 1 rfl
            have r2 := hr.cell_ 2 rfl
            have r3 := hr.cell_ 3 rfl
            have b0 := hy.cell_ 0 rfl
            have b1 := hy.cell_ 1 rfl
            have b2 := hy.cell_ 2 rfl
            have b3 := hy.cell_ 3 rfl
            have a0 := hx4.cell_ 0 rfl
            have a1 := hx4.cell_ 1 rfl
            have a2 := hx4.cell_ 2 rfl
            have a3 := hx4.cell_ 3 rfl
            have hy6 : Blk W hyb 99 #[.int .i64 x, .int .i64 (y + n + K), .int .i64 rw', .int .i64 rh] := hy
            clear hy
            go_upto_region 13 with (refine wpList_store_at rfl 3 _ _ rfl (.int .i64 (rh - n - K)) hy6 rfl rfl (by kernel_rfl) rfl (by simp) rfl ?_; intro W4 hy4 hc4)
            try dsimp only [Act.put]
            have hy5 : Blk W4 hyb 99 #[.int .i64 x, .int .i64 (y + n + K), .int .i64 rw', .int .i64 (rh - n - K)] := hy4
            replace hX := hX.chgF hc4 hy6 (by decide) (by omega)
            replace hk := hk.chg1 hc4 (by omega)
            replace hr := hr.chg1 hc4 (by omega)
            replace hx4 := hx4.chg1 hc4 (by omega)
            clear hy6 hy4 hc4 u0 e1 e2 e3 e4
            try clear q0 q1 q2 q3
            try clear r0 r1 r2 r3
            try clear a0 a1 a2 a3
            try clear b0 b1 b2 b3
            obtain ⟨W, rfl⟩ : ∃ X : World, X = W4 := ⟨_, rfl⟩
            obtain ⟨t', o1, n1, p1, A1, k1, d1, pb, off, ht, hA, _, hT1, d0, d1', d2, d3⟩ := part_at hX.tr (i := 0) (by simp [Tree.ts])
            dsimp only at hA
            obtain rfl : ta = t' := by simpa [Tree.ts] using ht
            subst hA
            simp only [Nat.zero_mul, Nat.add_zero] at d0 d1' d2 d3
            clear ht
            have HBW : Hid (B ≤ W.heap.size) := hX.size
            have q0 := hk.cell_ 0 rfl
            have q1 := hk.cell_ 1 rfl
            have q2 := hk.cell_ 2 rfl
            have q3 := hk.cell_ 3 rfl
            have r0 := hr.cell_ 0 rfl
            have r1 := hr.cell_ 1 rfl
            have r2 := hr.cell_ 2 rfl
            have r3 := hr.cell_ 3 rfl
            have a0 := hx4.cell_ 0 rfl
            have a1 := hx4.cell_ 1 rfl
            have a2 := hx4.cell_ 2 rfl
            have a3 := hx4.cell_ 3 rfl
            have b0 := hy5.cell_ 0 rfl
            have b1 := hy5.cell_ 1 rfl
            have b2 := hy5.cell_ 2 rfl
            have b3 := hy5.cell_ 3 rfl
            go_wp2_with fail
            refine wp_region_quiet_tail (C := fun w' => ∃ u : Since W, w' = u.w) 6 (by kernel_rfl) (by kernel_rfl) (Since.start W) ?_
            simp only [List.take_succ_cons, List.take_zero, List.drop_succ_cons, List.drop_zero]
            have y_q0 := Since.cell q0
            have y_q1 := Since.cell q1
            have y_q2 := Since.cell q2
            have y_q3 := Since.cell q3
            have y_r0 := Since.cell r0
            have y_r1 := Since.cell r1
            have y_r2 := Since.cell r2
            have y_r3 := Since.cell r3
            have y_a0 := Since.cell a0
            have y_a1 := Since.cell a1
            have y_a2 := Since.cell a2
            have y_a3 := Since.cell a3
            have y_b0 := Since.cell b0
            have y_b1 := Since.cell b1
            have y_b2 := Since.cell b2
            have y_b3 := Since.cell b3
            have y_d0 := Since.cell d0
            have y_d1' := Since.cell d1'
            have y_d2 := Since.cell d2
            have y_d3 := Since.cell d3
            clear q0 q1 q2 q3 r0 r1 r2 r3 a0 a1 a2 a3 b0 b1 b2 b3
            repeat (go_big_quiet_step ((fail)))
            refine wpQuiet_nil ?_
            rintro W ⟨⟨_, hb⟩, rfl⟩
            try dsimp only at hb ⊢
            replace d0 : W.cell? _ = _ := y_d0 ⟨W, hb⟩
            replace d1' : W.cell? _ = _ := y_d1' ⟨W, hb⟩
            replace d2 : W.cell? _ = _ := y_d2 ⟨W, hb⟩
            replace d3 : W.cell? _ = _ := y_d3 ⟨W, hb⟩
            clear y_q0 y_q1 y_q2 y_q3 y_r0 y_r1 y_r2 y_r3 y_a0 y_a1 y_a2 y_a3 y_b0 y_b1 y_b2 y_b3 y_d0 y_d1' y_d2 y_d3
            replace hk := hk.below hb hk.lt
            replace hr := hr.below hb hr.lt
            replace hX := LC.below hX hb
            replace hx4 := hx4.below hb hx4.lt
            replace hy5 := hy5.below hb hy5.lt
            replace hT1 := TreeAt.belowBP hT1 (Below.mono hb HBW.out)
            clear hb
            have q0 := hk.cell_ 0 rfl
            have q1 := hk.cell_ 1 rfl
            have q2 := hk.cell_ 2 rfl
            have q3 := hk.cell_ 3 rfl
            have r0 := hr.cell_ 0 rfl
            have r1 := hr.cell_ 1 rfl
            have r2 := hr.cell_ 2 rfl
            have r3 := hr.cell_ 3 rfl
            have a0 := hx4.cell_ 0 rfl
            have a1 := hx4.cell_ 1 rfl
            have a2 := hx4.cell_ 2 rfl
            have a3 := hx4.cell_ 3 rfl
            have b0 := hy5.cell_ 0 rfl
            have b1 := hy5.cell_ 1 rfl
            have b2 := hy5.cell_ 2 rfl
            have b3 := hy5.cell_ 3 rfl
            clear HBW
            go_wp2_with fail
            refine (HH.out ta o1 n1 p1 A1 k1 d1 B ly K A kl c pl true s x y rw' n W HRA.out hT1 hX.la hly hX.sl hkl hK (by have h9 := HBD.out; have h8 := HN.out; unfold Rb at h9 ⊢; push_cast at h9; omega) (by have h9 := HPC.out; rw [List.length_append] at h9; omega)).mono ?_
            rintro e W2 ⟨rfl, hb2, ho2, pl1, s1, hl1, hn1, hr1⟩
            replace hX := hX.step hb2 ho2 hl1
            replace hk := hk.opl ho2 (by omega) (by decide)
            replace hr := hr.opl ho2 (by omega) (by decide)
            replace hy5 := hy5.opl ho2 (by omega) (by decide)
            have HR1 := hide hr1
            have HN1 := hide hn1
            clear hx4 hT1 hb2 ho2 hl1 hn1 hr1 d0 d1' d2 d3
            try clear q0 q1 q2 q3
            try clear r0 r1 r2 r3
            try clear a0 a1 a2 a3
            try clear b0 b1 b2 b3
            obtain ⟨W, rfl⟩ : ∃ X : World, X = W2 := ⟨_, rfl⟩
            obtain ⟨t', o1, n1, p1, A1, k1, d1, pb2, off2, ht, hA, _, hT1, d0, d1', d2, d3⟩ := part_at hX.tr (i := 1) (by simp [Tree.ts])
            dsimp only at hA
            obtain rfl : tb = t' := by simpa [Tree.ts] using ht
            injection hA with hA
            injection hA with hA1 hA2
            subst hA1 hA2
            simp only [Nat.one_mul] at d0 d1' d2 d3
            clear ht
            have HBW : Hid (B ≤ W.heap.size) := hX.size
            have q0 := hk.cell_ 0 rfl
            have q1 := hk.cell_ 1 rfl
            have q2 := hk.cell_ 2 rfl
            have q3 := hk.cell_ 3 rfl
            have r0 := hr.cell_ 0 rfl
            have r1 := hr.cell_ 1 rfl
            have r2 := hr.cell_ 2 rfl
            have r3 := hr.cell_ 3 rfl
            have b0 := hy5.cell_ 0 rfl
            have b1 := hy5.cell_ 1 rfl
            have b2 := hy5.cell_ 2 rfl
            have b3 := hy5.cell_ 3 rfl
            go_wp2_with fail
            refine wp_region_quiet_tail (C := fun w' => ∃ u : Since W, w' = u.w) 6 (by kernel_rfl) (by kernel_rfl) (Since.start W) ?_
            simp only [List.take_succ_cons, List.take_zero, List.drop_succ_cons, List.drop_zero]
            have y_q0 := Since.cell q0
            have y_q1 := Since.cell q1
            have y_q2 := Since.cell q2
            have y_q3 := Since.cell q3
            have y_r0 := Since.cell r0
            have y_r1 := Since.cell r1
            have y_r2 := Since.cell r2
            have y_r3 := Since.cell r3
            have y_b0 := Since.cell b0
            have y_b1 := Since.cell b1
            have y_b2 := Since.cell b2
            have y_b3 := Since.cell b3
            have y_d0 := Since.cell d0
            have y_d1' := Since.cell d1'
            have y_d2 := Since.cell d2
            have y_d3 := Since.cell d3
            clear q0 q1 q2 q3 r0 r1 r2 r3 b0 b1 b2 b3
            repeat (go_big_quiet_step ((fail)))
            refine wpQuiet_nil ?_
            rintro W ⟨⟨_, hb⟩, rfl⟩
            try dsimp only at hb ⊢
            replace d0 : W.cell? _ = _ := y_d0 ⟨W, hb⟩
            replace d1' : W.cell? _ = _ := y_d1' ⟨W, hb⟩
            replace d2 : W.cell? _ = _ := y_d2 ⟨W, hb⟩
            replace d3 : W.cell? _ = _ := y_d3 ⟨W, hb⟩
            clear y_q0 y_q1 y_q2 y_q3 y_r0 y_r1 y_r2 y_r3 y_b0 y_b1 y_b2 y_b3 y_d0 y_d1' y_d2 y_d3
            replace hk := hk.below hb hk.lt
            replace hr := hr.below hb hr.lt
            replace hX := LC.below hX hb
            replace hy5 := hy5.below hb hy5.lt
            replace hT1 := TreeAt.belowBP hT1 (Below.mono hb HBW.out)
            clear hb
            have q0 := hk.cell_ 0 rfl
            have q1 := hk.cell_ 1 rfl
            have q2 := hk.cell_ 2 rfl
            have q3 := hk.cell_ 3 rfl
            have r0 := hr.cell_ 0 rfl
            have r1 := hr.cell_ 1 rfl
            have r2 := hr.cell_ 2 rfl
            have r3 := hr.cell_ 3 rfl
            have b0 := hy5.cell_ 0 rfl
            have b1 := hy5.cell_ 1 rfl
            have b2 := hy5.cell_ 2 rfl
            have b3 := hy5.cell_ 3 rfl
            clear HBW
            go_wp2_with fail
            refine (HH.out tb o1 n1 p1 A1 k1 d1 B ly K A kl c pl1 (true || goneT K (kdL kl) ta rw' n) s1 x (y + n + K) rw' (rh - n - K) W HRB.out hT1 hX.la hly hX.sl hkl hK (by have h9 := HBD.out; have h8 := HN.out; unfold Rb at h9 ⊢; push_cast at h9; omega) (by have h9 := HPC.out; have h8 := HN1.out; rw [List.length_append] at h9; omega)).mono ?_
            rintro e W2 ⟨rfl, hb2, ho2, pl2, s2, hl2, hn2, hr2⟩
            replace hX := hX.step hb2 ho2 hl2
            have HX := hide hX
            have HR2 := hide hr2
            have HN2 := hide hn2
            clear hX hk hr hy5 hT1 hb2 ho2 hl2 hn2 hr2 d0 d1' d2 d3
            try clear q0 q1 q2 q3
            try clear r0 r1 r2 r3
            try clear b0 b1 b2 b3
            go_wp2_with fail
            refine bodyPost_ret (v := .tuple #[]) (results_none rfl _ _ _) rfl ?_
            refine ⟨rfl, HX.out.bl, HX.out.op, pl2, s2, by (try rw [HNN.out]); rw [HG.out, ← Bool.or_assoc, HGN.out, ← Bool.or_assoc]; exact HX.out.la, ?_, fun h => ?_⟩
            · have h1 := HN1.out
              have h2 := HN2.out
              show pl2.length ≤ pl.length + (pcsT ta ++ pcsT tb).length
              rw [List.length_append]; omega
            · try rw [HNN.out] at h
              try rw [HNN.out]
              rw [HG.out, Bool.or_eq_false_iff, Bool.or_eq_false_iff] at h
              obtain ⟨a1, a2⟩ := HR1.out h.2.1
              obtain ⟨b1, b2⟩ := HR2.out h.2.2
              exact ⟨by rw [HPL.out, b1, a1, List.append_assoc], by rw [HSM.out, b2, a2, Bool.or_assoc]⟩
        · have HG : Hid (goneT K (kdL kl) (.node 3 n 0 [ta, tb]) rw' rh = (true || (goneT K (kdL kl) ta n rh || goneT K (kdL kl) tb (rw' - n - K) rh))) := by show _ = _; rw [goneT, HNR.out, if_neg (by decide)]
          have HPL : Hid (placesT K (kdL kl) (.node 3 n 0 [ta, tb]) x y rw' rh = placesT K (kdL kl) ta x y n rh ++ placesT K (kdL kl) tb (x + n + K) y (rw' - n - K) rh) := by show _ = _; rw [placesT, if_neg (by decide)]
          have HSM : Hid (smallT K (kdL kl) (.node 3 n 0 [ta, tb]) rw' rh = (smallT K (kdL kl) ta n rh || smallT K (kdL kl) tb (rw' - n - K) rh)) := by show _ = _; rw [smallT, if_neg (by decide)]
          have h2 := HN.out
          have h3 := hK
          have h4 := HBD.out
          unfold Rb at h4
          have e1 : IntKind.i64.wrap (x + n) = x + n := IntWalk.i64_in _ (by omega)
          have e2 : IntKind.i64.wrap (x + n + K) = x + n + K := IntWalk.i64_in _ (by omega)
          have e3 : IntKind.i64.wrap (rw' - n) = rw' - n := IntWalk.i64_in _ (by omega)
          have e4 : IntKind.i64.wrap (rw' - n - K) = rw' - n - K := IntWalk.i64_in _ (by omega)
          clear h2 h3 h4
          go_upto_region 12 with (refine wpList_store_at rfl 3 _ _ rfl (.int .i64 n) hx rfl rfl (by kernel_rfl) rfl (by simp) rfl ?_; intro W3 hx3 hc3)
          have hx4 : Blk W3 hxb 99 #[.int .i64 x, .int .i64 y, .int .i64 n, .int .i64 rh] := hx3
          replace hX := hX.chgF hc3 hx (by decide) (by omega)
          replace hk := hk.chg1 hc3 (by omega)
          replace hr := hr.chg1 hc3 (by omega)
          replace hy := hy.chg1 hc3 (by omega)
          clear hx hx3 hc3 q0 q1 q2 q3 r0 r1 r2 r3 a0 a1 a2 a3 b0 b1 b2 b3
          obtain ⟨W, rfl⟩ : ∃ X : World, X = W3 := ⟨_, rfl⟩
          obtain ⟨v, hU, hO⟩ := hX.la
          have u0 := hU.cell_ 0 (v := .int .i64 K) rfl
          clear hU hO
          try dsimp only [Act.put]
          have q0 := hk.cell_ 0 rfl
          have q1 := hk.cell_ 1 rfl
          have q2 := hk.cell_ 2 rfl
          have q3 := hk.cell_ 3 rfl
          have r0 := hr.cell_ 0 rfl
          have r1 := hr.cell_ 1 rfl
          have r2 := hr.cell_ 2 rfl
          have r3 := hr.cell_ 3 rfl
          have b0 := hy.cell_ 0 rfl
          have b1 := hy.cell_ 1 rfl
          have b2 := hy.cell_ 2 rfl
          have b3 := hy.cell_ 3 rfl
          have a0 := hx4.cell_ 0 rfl
          have a1 := hx4.cell_ 1 rfl
          have a2 := hx4.cell_ 2 rfl
          have a3 := hx4.cell_ 3 rfl
          go_wp2_with fail
          have hok : FldOk W ([]) [⟨21, hyb, 99, (#[.int .i64 x, .int .i64 y, .int .i64 rw', .int .i64 rh]), ((#[.int .i64 x, .int .i64 y, .int .i64 rw', .int .i64 rh])).setIfInBounds (0) (.int .i64 (x + n + K))⟩] := FldOk.one_ hy.lt (by simp)
          refine wp_region_both 22 [0, 1, 2, 3, 4, 5, 6, 7, 8, 9, 10, 11, 12, 13, 14, 15, 16, 17, 18, 19, 20] [21] [] [⟨21, hyb, 99, (#[.int .i64 x, .int .i64 y, .int .i64 rw', .int .i64 rh]), ((#[.int .i64 x, .int .i64 y, .int .i64 rw', .int .i64 rh])).setIfInBounds (0) (.int .i64 (x + n + K))⟩] (fun f hf => by simp only [List.mem_singleton] at hf; subst hf; exact hy) (by kernel_rfl) (by kernel_rfl) (by kernel_rfl) (by kernel_rfl) (by kernel_rfl) (by simp) ?_
          apply Exists.intro
          refine ⟨fun W1 hc0 => ?_, ?_⟩
          · have hc1 : Chg (fun k => k = hyb) W W1 := hc0.one_
            replace u0 := hc1.cell1 u0 (by show _ ≠ _; (try dsimp only); omega)
            replace hk := hk.chg1 hc1 (by omega)
            replace hr := hr.chg1 hc1 (by omega)
            replace hX := LC.chgF hX hc1 hy (by decide) (by omega)
            replace hx4 := hx4.chg1 hc1 (by omega)
            have q0 := hk.cell_ 0 rfl
            have q1 := hk.cell_ 1 rfl
            have q2 := hk.cell_ 2 rfl
            have q3 := hk.cell_ 3 rfl
            have r0 := hr.cell_ 0 rfl
            have r1 := hr.cell_ 1 rfl
            have r2 := hr.cell_ 2 rfl
            have r3 := hr.cell_ 3 rfl
            have b0 := hy.cell_ 0 rfl
            have b1 := hy.cell_ 1 rfl
            have b2 := hy.cell_ 2 rfl
            have b3 := hy.cell_ 3 rfl
            have a0 := hx4.cell_ 0 rfl
            have a1 := hx4.cell_ 1 rfl
            have a2 := hx4.cell_ 2 rfl
            have a3 := hx4.cell_ 3 rfl
            have y_q0 := Since.cell q0
            have y_q1 := Since.cell q1
            have y_q2 := Since.cell q2
            have y_q3 := Since.cell q3
            have y_r0 := Since.cell r0
            have y_r1 := Since.cell r1
            have y_r2 := Since.cell r2
            have y_r3 := Since.cell r3
            have y_b0 := Since.cell b0
            have y_b1 := Since.cell b1
            have y_b2 := Since.cell b2
            have y_b3 := Since.cell b3
            have y_a0 := Since.cell a0
            have y_a1 := Since.cell a1
            have y_a2 := Since.cell a2
            have y_a3 := Since.cell a3
            have y_u0 := Since.cell u0
            dsimp only [pick, List.filterMap, List.getElem?_cons_succ, List.getElem?_cons_zero]
            repeat (go_big_quiet_step ((fail)))
            exact wpQuiet_nil rfl
          · refine ownWalk_put (i := 0) (v := .int .i64 (x + n + K)) ⟨21, hyb, 99, (#[.int .i64 x, .int .i64 y, .int .i64 rw', .int .i64 rh]), ((#[.int .i64 x, .int .i64 y, .int .i64 rw', .int .i64 rh])).setIfInBounds (0) (.int .i64 (x + n + K))⟩ hok (by simp) rfl rfl rfl rfl rfl rfl rfl (by kernel_rfl) rfl (by simp) rfl rfl (by simp) ?_
            refine ownWalk_nil ?_
            intro w' hc0 hD
            have hc1 : Chg (fun k => k = hyb) W w' := hc0.one_
            have n_hy := hD.get (f := ⟨21, hyb, 99, (#[.int .i64 x, .int .i64 y, .int .i64 rw', .int .i64 rh]), ((#[.int .i64 x, .int .i64 y, .int .i64 rw', .int .i64 rh])).setIfInBounds (0) (.int .i64 (x + n + K))⟩) (by simp) rfl
            clear hD
            try simp only [List.drop_succ_cons, List.drop_zero]
            replace u0 := hc1.cell1 u0 (by show _ ≠ _; (try dsimp only); omega)
            clear q0 q1 q2 q3 r0 r1 r2 r3 b0 b1 b2 b3 a0 a1 a2 a3
            replace hk := hk.chg1 hc1 (by omega)
            replace hr := hr.chg1 hc1 (by omega)
            replace hX := LC.chgF hX hc1 hy (by decide) (by omega)
            replace hx4 := hx4.chg1 hc1 (by omega)
            clear hy
            have hy := n_hy
            clear n_hy hc1 hc0 hok
            dsimp only at hy
            obtain ⟨W, rfl⟩ : ∃ W : World, W = w' := ⟨_, rfl⟩
            have q0 := hk.cell_ 0 rfl
            have q1 := hk.cell_ 1 rfl
            have q2 := hk.cell_ 2 rfl
            have q3 := hk.cell_ 3 rfl
            have r0 := hr.cell_ 0 rfl
            have r1 := hr.cell_ 1 rfl
            have r2 := hr.cell_ 2 rfl
            have r3 := hr.cell_ 3 rfl
            have b0 := hy.cell_ 0 rfl
            have b1 := hy.cell_ 1 rfl
            have b2 := hy.cell_ 2 rfl
            have b3 := hy.cell_ 3 rfl
            have a0 := hx4.cell_ 0 rfl
            have a1 := hx4.cell_ 1 rfl
            have a2 := hx4.cell_ 2 rfl
            have a3 := hx4.cell_ 3 rfl
            have hy6 : Blk W hyb 99 #[.int .i64 (x + n + K), .int .i64 y, .int .i64 rw', .int .i64 rh] := hy
            clear hy
            go_upto_region 13 with (refine wpList_store_at rfl 3 _ _ rfl (.int .i64 (rw' - n - K)) hy6 rfl rfl (by kernel_rfl) rfl (by simp) rfl ?_; intro W4 hy4 hc4)
            try dsimp only [Act.put]
            have hy5 : Blk W4 hyb 99 #[.int .i64 (x + n + K), .int .i64 y, .int .i64 (rw' - n - K), .int .i64 rh] := hy4
            replace hX := hX.chgF hc4 hy6 (by decide) (by omega)
            replace hk := hk.chg1 hc4 (by omega)
            replace hr := hr.chg1 hc4 (by omega)
            replace hx4 := hx4.chg1 hc4 (by omega)
            clear hy6 hy4 hc4 u0 e1 e2 e3 e4
            try clear q0 q1 q2 q3
            try clear r0 r1 r2 r3
            try clear a0 a1 a2 a3
            try clear b0 b1 b2 b3
            obtain ⟨W, rfl⟩ : ∃ X : World, X = W4 := ⟨_, rfl⟩
            obtain ⟨t', o1, n1, p1, A1, k1, d1, pb, off, ht, hA, _, hT1, d0, d1', d2, d3⟩ := part_at hX.tr (i := 0) (by simp [Tree.ts])
            dsimp only at hA
            obtain rfl : ta = t' := by simpa [Tree.ts] using ht
            subst hA
            simp only [Nat.zero_mul, Nat.add_zero] at d0 d1' d2 d3
            clear ht
            have HBW : Hid (B ≤ W.heap.size) := hX.size
            have q0 := hk.cell_ 0 rfl
            have q1 := hk.cell_ 1 rfl
            have q2 := hk.cell_ 2 rfl
            have q3 := hk.cell_ 3 rfl
            have r0 := hr.cell_ 0 rfl
            have r1 := hr.cell_ 1 rfl
            have r2 := hr.cell_ 2 rfl
            have r3 := hr.cell_ 3 rfl
            have a0 := hx4.cell_ 0 rfl
            have a1 := hx4.cell_ 1 rfl
            have a2 := hx4.cell_ 2 rfl
            have a3 := hx4.cell_ 3 rfl
            have b0 := hy5.cell_ 0 rfl
            have b1 := hy5.cell_ 1 rfl
            have b2 := hy5.cell_ 2 rfl
            have b3 := hy5.cell_ 3 rfl
            go_wp2_with fail
            refine wp_region_quiet_tail (C := fun w' => ∃ u : Since W, w' = u.w) 6 (by kernel_rfl) (by kernel_rfl) (Since.start W) ?_
            simp only [List.take_succ_cons, List.take_zero, List.drop_succ_cons, List.drop_zero]
            have y_q0 := Since.cell q0
            have y_q1 := Since.cell q1
            have y_q2 := Since.cell q2
            have y_q3 := Since.cell q3
            have y_r0 := Since.cell r0
            have y_r1 := Since.cell r1
            have y_r2 := Since.cell r2
            have y_r3 := Since.cell r3
            have y_a0 := Since.cell a0
            have y_a1 := Since.cell a1
            have y_a2 := Since.cell a2
            have y_a3 := Since.cell a3
            have y_b0 := Since.cell b0
            have y_b1 := Since.cell b1
            have y_b2 := Since.cell b2
            have y_b3 := Since.cell b3
            have y_d0 := Since.cell d0
            have y_d1' := Since.cell d1'
            have y_d2 := Since.cell d2
            have y_d3 := Since.cell d3
            clear q0 q1 q2 q3 r0 r1 r2 r3 a0 a1 a2 a3 b0 b1 b2 b3
            repeat (go_big_quiet_step ((fail)))
            refine wpQuiet_nil ?_
            rintro W ⟨⟨_, hb⟩, rfl⟩
            try dsimp only at hb ⊢
            replace d0 : W.cell? _ = _ := y_d0 ⟨W, hb⟩
            replace d1' : W.cell? _ = _ := y_d1' ⟨W, hb⟩
            replace d2 : W.cell? _ = _ := y_d2 ⟨W, hb⟩
            replace d3 : W.cell? _ = _ := y_d3 ⟨W, hb⟩
            clear y_q0 y_q1 y_q2 y_q3 y_r0 y_r1 y_r2 y_r3 y_a0 y_a1 y_a2 y_a3 y_b0 y_b1 y_b2 y_b3 y_d0 y_d1' y_d2 y_d3
            replace hk := hk.below hb hk.lt
            replace hr := hr.below hb hr.lt
            replace hX := LC.below hX hb
            replace hx4 := hx4.below hb hx4.lt
            replace hy5 := hy5.below hb hy5.lt
            replace hT1 := TreeAt.belowBP hT1 (Below.mono hb HBW.out)
            clear hb
            have q0 := hk.cell_ 0 rfl
            have q1 := hk.cell_ 1 rfl
            have q2 := hk.cell_ 2 rfl
            have q3 := hk.cell_ 3 rfl
            have r0 := hr.cell_ 0 rfl
            have r1 := hr.cell_ 1 rfl
            have r2 := hr.cell_ 2 rfl
            have r3 := hr.cell_ 3 rfl
            have a0 := hx4.cell_ 0 rfl
            have a1 := hx4.cell_ 1 rfl
            have a2 := hx4.cell_ 2 rfl
            have a3 := hx4.cell_ 3 rfl
            have b0 := hy5.cell_ 0 rfl
            have b1 := hy5.cell_ 1 rfl
            have b2 := hy5.cell_ 2 rfl
            have b3 := hy5.cell_ 3 rfl
            clear HBW
            go_wp2_with fail
            refine (HH.out ta o1 n1 p1 A1 k1 d1 B ly K A kl c pl true s x y n rh W HRA.out hT1 hX.la hly hX.sl hkl hK (by have h9 := HBD.out; have h8 := HN.out; unfold Rb at h9 ⊢; push_cast at h9; omega) (by have h9 := HPC.out; rw [List.length_append] at h9; omega)).mono ?_
            rintro e W2 ⟨rfl, hb2, ho2, pl1, s1, hl1, hn1, hr1⟩
            replace hX := hX.step hb2 ho2 hl1
            replace hk := hk.opl ho2 (by omega) (by decide)
            replace hr := hr.opl ho2 (by omega) (by decide)
            replace hy5 := hy5.opl ho2 (by omega) (by decide)
            have HR1 := hide hr1
            have HN1 := hide hn1
            clear hx4 hT1 hb2 ho2 hl1 hn1 hr1 d0 d1' d2 d3
            try clear q0 q1 q2 q3
            try clear r0 r1 r2 r3
            try clear a0 a1 a2 a3
            try clear b0 b1 b2 b3
            obtain ⟨W, rfl⟩ : ∃ X : World, X = W2 := ⟨_, rfl⟩
            obtain ⟨t', o1, n1, p1, A1, k1, d1, pb2, off2, ht, hA, _, hT1, d0, d1', d2, d3⟩ := part_at hX.tr (i := 1) (by simp [Tree.ts])
            dsimp only at hA
            obtain rfl : tb = t' := by simpa [Tree.ts] using ht
            injection hA with hA
            injection hA with hA1 hA2
            subst hA1 hA2
            simp only [Nat.one_mul] at d0 d1' d2 d3
            clear ht
            have HBW : Hid (B ≤ W.heap.size) := hX.size
            have q0 := hk.cell_ 0 rfl
            have q1 := hk.cell_ 1 rfl
            have q2 := hk.cell_ 2 rfl
            have q3 := hk.cell_ 3 rfl
            have r0 := hr.cell_ 0 rfl
            have r1 := hr.cell_ 1 rfl
            have r2 := hr.cell_ 2 rfl
            have r3 := hr.cell_ 3 rfl
            have b0 := hy5.cell_ 0 rfl
            have b1 := hy5.cell_ 1 rfl
            have b2 := hy5.cell_ 2 rfl
            have b3 := hy5.cell_ 3 rfl
            go_wp2_with fail
            refine wp_region_quiet_tail (C := fun w' => ∃ u : Since W, w' = u.w) 6 (by kernel_rfl) (by kernel_rfl) (Since.start W) ?_
            simp only [List.take_succ_cons, List.take_zero, List.drop_succ_cons, List.drop_zero]
            have y_q0 := Since.cell q0
            have y_q1 := Since.cell q1
            have y_q2 := Since.cell q2
            have y_q3 := Since.cell q3
            have y_r0 := Since.cell r0
            have y_r1 := Since.cell r1
            have y_r2 := Since.cell r2
            have y_r3 := Since.cell r3
            have y_b0 := Since.cell b0
            have y_b1 := Since.cell b1
            have y_b2 := Since.cell b2
            have y_b3 := Since.cell b3
            have y_d0 := Since.cell d0
            have y_d1' := Since.cell d1'
            have y_d2 := Since.cell d2
            have y_d3 := Since.cell d3
            clear q0 q1 q2 q3 r0 r1 r2 r3 b0 b1 b2 b3
            repeat (go_big_quiet_step ((fail)))
            refine wpQuiet_nil ?_
            rintro W ⟨⟨_, hb⟩, rfl⟩
            try dsimp only at hb ⊢
            replace d0 : W.cell? _ = _ := y_d0 ⟨W, hb⟩
            replace d1' : W.cell? _ = _ := y_d1' ⟨W, hb⟩
            replace d2 : W.cell? _ = _ := y_d2 ⟨W, hb⟩
            replace d3 : W.cell? _ = _ := y_d3 ⟨W, hb⟩
            clear y_q0 y_q1 y_q2 y_q3 y_r0 y_r1 y_r2 y_r3 y_b0 y_b1 y_b2 y_b3 y_d0 y_d1' y_d2 y_d3
            replace hk := hk.below hb hk.lt
            replace hr := hr.below hb hr.lt
            replace hX := LC.below hX hb
            replace hy5 := hy5.below hb hy5.lt
            replace hT1 := TreeAt.belowBP hT1 (Below.mono hb HBW.out)
            clear hb
            have q0 := hk.cell_ 0 rfl
            have q1 := hk.cell_ 1 rfl
            have q2 := hk.cell_ 2 rfl
            have q3 := hk.cell_ 3 rfl
            have r0 := hr.cell_ 0 rfl
            have r1 := hr.cell_ 1 rfl
            have r2 := hr.cell_ 2 rfl
            have r3 := hr.cell_ 3 rfl
            have b0 := hy5.cell_ 0 rfl
            have b1 := hy5.cell_ 1 rfl
            have b2 := hy5.cell_ 2 rfl
            have b3 := hy5.cell_ 3 rfl
            clear HBW
            go_wp2_with fail
            refine (HH.out tb o1 n1 p1 A1 k1 d1 B ly K A kl c pl1 (true || goneT K (kdL kl) ta n rh) s1 (x + n + K) y (rw' - n - K) rh W HRB.out hT1 hX.la hly hX.sl hkl hK (by have h9 := HBD.out; have h8 := HN.out; unfold Rb at h9 ⊢; push_cast at h9; omega) (by have h9 := HPC.out; have h8 := HN1.out; rw [List.length_append] at h9; omega)).mono ?_
            rintro e W2 ⟨rfl, hb2, ho2, pl2, s2, hl2, hn2, hr2⟩
            replace hX := hX.step hb2 ho2 hl2
            have HX := hide hX
            have HR2 := hide hr2
            have HN2 := hide hn2
            clear hX hk hr hy5 hT1 hb2 ho2 hl2 hn2 hr2 d0 d1' d2 d3
            try clear q0 q1 q2 q3
            try clear r0 r1 r2 r3
            try clear b0 b1 b2 b3
            go_wp2_with fail
            refine bodyPost_ret (v := .tuple #[]) (results_none rfl _ _ _) rfl ?_
            refine ⟨rfl, HX.out.bl, HX.out.op, pl2, s2, by (try rw [HNN.out]); rw [HG.out, ← Bool.or_assoc, HGN.out, ← Bool.or_assoc]; exact HX.out.la, ?_, fun h => ?_⟩
            · have h1 := HN1.out
              have h2 := HN2.out
              show pl2.length ≤ pl.length + (pcsT ta ++ pcsT tb).length
              rw [List.length_append]; omega
            · try rw [HNN.out] at h
              try rw [HNN.out]
              rw [HG.out, Bool.or_eq_false_iff, Bool.or_eq_false_iff] at h
              obtain ⟨a1, a2⟩ := HR1.out h.2.1
              obtain ⟨b1, b2⟩ := HR2.out h.2.2
              exact ⟨by rw [HPL.out, b1, a1, List.append_assoc], by rw [HSM.out, b2, a2, Bool.or_assoc]⟩
  by_cases c2 : rh < 1
  · have HNR : Hid (noRoom rw' rh = true) := by show _ = _; unfold noRoom; rw [decide_eq_true c2]; simp
    have HGN : Hid ((g || true) = true) := Bool.or_true g
    obtain ⟨v, hU, hO⟩ := hX.la
    go_upto_region 3 with (refine wpList_store_at rfl 4 _ _ rfl (.bool true) hU rfl rfl (by kernel_rfl) rfl (by simp) rfl ?_; intro W3 hU3 hc3)
    replace hX := hX.step (hc3.below1 hX.size hly) (OPl.chg hc3) ⟨v, hU3, own_chgP hO hU hc3 (by decide)⟩
    replace hk := hk.chg1 hc3 (by omega)
    replace hr := hr.chg1 hc3 (by omega)
    have HW := hide hc3.size
    clear hU hO hU3 hc3 r2 r3
    have hrl := hr.lt
    try dsimp only [Act.put]
    obtain ⟨W, rfl⟩ : ∃ X : World, X = W3 := ⟨_, rfl⟩
    clear c1 c2
    have q0 := hk.cell_ 0 rfl
    have q1 := hk.cell_ 1 rfl
    have q2 := hk.cell_ 2 rfl
    have q3 := hk.cell_ 3 rfl
    have r0 := hr.cell_ 0 rfl
    have r1 := hr.cell_ 1 rfl
    have r2 := hr.cell_ 2 rfl
    have r3 := hr.cell_ 3 rfl
    go_wp2_with fail
    have z_q0 := hide (fun w' (hb : Below W.heap.size W w') => Since.later hb q0)
    have z_q1 := hide (fun w' (hb : Below W.heap.size W w') => Since.later hb q1)
    have z_q2 := hide (fun w' (hb : Below W.heap.size W w') => Since.later hb q2)
    have z_q3 := hide (fun w' (hb : Below W.heap.size W w') => Since.later hb q3)
    have z_r0 := hide (fun w' (hb : Below W.heap.size W w') => Since.later hb r0)
    have z_r1 := hide (fun w' (hb : Below W.heap.size W w') => Since.later hb r1)
    have z_r2 := hide (fun w' (hb : Below W.heap.size W w') => Since.later hb r2)
    have z_r3 := hide (fun w' (hb : Below W.heap.size W w') => Since.later hb r3)
    have hok : FldOk W ([⟨2, .ptr, (.cells #[.int .i64 0, .int .i64 0, .int .i64 0, .int .i64 0] 99), 4, (.cells #[.int .i64 x, .int .i64 y, .int .i64 rw', .int .i64 rh] 99)⟩, ⟨3, .ptr, (.cells #[.int .i64 0, .int .i64 0, .int .i64 0, .int .i64 0] 99), 5, (.cells #[.int .i64 x, .int .i64 y, .int .i64 rw', .int .i64 rh] 99)⟩]) [] := FldOk.nil_
    refine wp_region_both 6 [0, 1] [2, 3, 4, 5] [⟨2, .ptr, (.cells #[.int .i64 0, .int .i64 0, .int .i64 0, .int .i64 0] 99), 4, (.cells #[.int .i64 x, .int .i64 y, .int .i64 rw', .int .i64 rh] 99)⟩, ⟨3, .ptr, (.cells #[.int .i64 0, .int .i64 0, .int .i64 0, .int .i64 0] 99), 5, (.cells #[.int .i64 x, .int .i64 y, .int .i64 rw', .int .i64 rh] 99)⟩] [] (fun f hf => by cases hf) (by kernel_rfl) (by kernel_rfl) (by kernel_rfl) (by kernel_rfl) (by kernel_rfl) (by simp) ?_
    apply Exists.intro
    refine ⟨fun W1 hc0 => ?_, ?_⟩
    · have hb := hc0.nil_
      have y_q0 := Since.cell (z_q0.out W1 hb)
      have y_q1 := Since.cell (z_q1.out W1 hb)
      have y_q2 := Since.cell (z_q2.out W1 hb)
      have y_q3 := Since.cell (z_q3.out W1 hb)
      have y_r0 := Since.cell (z_r0.out W1 hb)
      have y_r1 := Since.cell (z_r1.out W1 hb)
      have y_r2 := Since.cell (z_r2.out W1 hb)
      have y_r3 := Since.cell (z_r3.out W1 hb)
      replace hk := hk.below hb hk.lt
      replace hr := hr.below hb hr.lt
      replace hX := LC.below hX hb
      dsimp only [pick, List.filterMap, List.getElem?_cons_succ, List.getElem?_cons_zero]
      repeat (go_big_quiet_step ((fail)))
      exact wpQuiet_nil rfl
    · refine ownWalk_alloc ⟨2, .ptr, (.cells #[.int .i64 0, .int .i64 0, .int .i64 0, .int .i64 0] 99), 4, (.cells #[.int .i64 x, .int .i64 y, .int .i64 rw', .int .i64 rh] 99)⟩ hok (by kernel_rfl) rfl rfl rfl rfl (fun _ => rfl) (by simp) (by simp) (fun h => absurd h (by simp)) ?_
      intro hxb
      simp only [Shape.val, List.setIfInBounds_toArray, List.set_cons_succ, List.set_cons_zero]
      refine ownWalk_alloc ⟨3, .ptr, (.cells #[.int .i64 0, .int .i64 0, .int .i64 0, .int .i64 0] 99), 5, (.cells #[.int .i64 x, .int .i64 y, .int .i64 rw', .int .i64 rh] 99)⟩ hok (by kernel_rfl) rfl rfl rfl rfl (fun _ => rfl) (by simp) (by simp) (fun h => absurd h (by simp)) ?_
      intro hyb
      simp only [Shape.val, List.setIfInBounds_toArray, List.set_cons_succ, List.set_cons_zero]
      refine ownWalk_fill (cs := #[.int .i64 0, .int .i64 0, .int .i64 0, .int .i64 0]) (cs' := #[.int .i64 x, .int .i64 y, .int .i64 rw', .int .i64 rh]) ⟨2, .ptr, (.cells #[.int .i64 0, .int .i64 0, .int .i64 0, .int .i64 0] 99), 4, (.cells #[.int .i64 x, .int .i64 y, .int .i64 rw', .int .i64 rh] 99)⟩ hok (by kernel_rfl) rfl rfl rfl rfl rfl rfl rfl rfl (by kernel_rfl) rfl (by simp [Value.oneCell']) rfl rfl (by simp) (by simp) (by simp) rfl ?_ (by simp)
      refine ownWalk_fill (cs := #[.int .i64 0, .int .i64 0, .int .i64 0, .int .i64 0]) (cs' := #[.int .i64 x, .int .i64 y, .int .i64 rw', .int .i64 rh]) ⟨3, .ptr, (.cells #[.int .i64 0, .int .i64 0, .int .i64 0, .int .i64 0] 99), 5, (.cells #[.int .i64 x, .int .i64 y, .int .i64 rw', .int .i64 rh] 99)⟩ hok (by kernel_rfl) rfl rfl rfl rfl rfl rfl rfl rfl (by kernel_rfl) rfl (by simp [Value.oneCell']) rfl rfl (by simp) (by simp) (by simp) rfl ?_ (by simp)
      refine ownWalk_nil ?_
      intro w' hc0 hD
      have hb := hc0.nil_
      obtain ⟨hxge, hx⟩ := hD.box.get (x := ⟨2, .ptr, (.cells #[.int .i64 0, .int .i64 0, .int .i64 0, .int .i64 0] 99), 4, (.cells #[.int .i64 x, .int .i64 y, .int .i64 rw', .int .i64 rh] 99)⟩) (o := (.cells #[.int .i64 x, .int .i64 y, .int .i64 rw', .int .i64 rh] 99)) (by simp) rfl rfl
      replace hx : Blk _ _ _ _ := hx
      obtain ⟨hyge, hy⟩ := hD.box.get (x := ⟨3, .ptr, (.cells #[.int .i64 0, .int .i64 0, .int .i64 0, .int .i64 0] 99), 5, (.cells #[.int .i64 x, .int .i64 y, .int .i64 rw', .int .i64 rh] 99)⟩) (o := (.cells #[.int .i64 x, .int .i64 y, .int .i64 rw', .int .i64 rh] 99)) (by simp) rfl rfl
      replace hy : Blk _ _ _ _ := hy
      have hx_hy := hD.box.apart (x := ⟨2, .ptr, (.cells #[.int .i64 0, .int .i64 0, .int .i64 0, .int .i64 0] 99), 4, (.cells #[.int .i64 x, .int .i64 y, .int .i64 rw', .int .i64 rh] 99)⟩) (y := ⟨3, .ptr, (.cells #[.int .i64 0, .int .i64 0, .int .i64 0, .int .i64 0] 99), 5, (.cells #[.int .i64 x, .int .i64 y, .int .i64 rw', .int .i64 rh] 99)⟩) (by simp) (by simp) (by simp) rfl rfl
      clear hD
      try simp only [List.drop_succ_cons, List.drop_zero]
      clear z_q0 z_q1 z_q2 z_q3 z_r0 z_r1 z_r2 z_r3
      clear q0 q1 q2 q3 r0 r1 r2 r3
      replace hk := hk.below hb hk.lt
      replace hr := hr.below hb hr.lt
      replace hX := LC.below hX hb
      clear hb hok hc0
      obtain ⟨W, rfl⟩ : ∃ W : World, W = w' := ⟨_, rfl⟩
      have q0 := hk.cell_ 0 rfl
      have q1 := hk.cell_ 1 rfl
      have q2 := hk.cell_ 2 rfl
      have q3 := hk.cell_ 3 rfl
      have r0 := hr.cell_ 0 rfl
      have r1 := hr.cell_ 1 rfl
      have r2 := hr.cell_ 2 rfl
      have r3 := hr.cell_ 3 rfl
      have a0 := hx.cell_ 0 rfl
      have a1 := hx.cell_ 1 rfl
      have a2 := hx.cell_ 2 rfl
      have a3 := hx.cell_ 3 rfl
      have b0 := hy.cell_ 0 rfl
      have b1 := hy.cell_ 1 rfl
      have b2 := hy.cell_ 2 rfl
      have b3 := hy.cell_ 3 rfl
      go_upto_region 4 with fail
      have hr2 := HR.out
      cases hr2 with
      | waste =>
        obtain ⟨h1, -, -, -, -⟩ := hX.tr.head
        have h1' : op = 0 := h1
        subst h1'
        have HGF : Hid (goneT K (kdL kl) (.node 0 0 0 []) rw' rh = true) := by show _ = _; simp [goneT, HNR.out]
        clear hk hr hx hy
        have HX := hide hX
        clear hX h1
        go_wp2_with fail
        refine bodyPost_ret (v := .tuple #[]) (results_none rfl _ _ _) rfl ?_
        refine ⟨rfl, HX.out.bl, HX.out.op, pl, s, ?_, by omega, fun _ => ⟨by simp [placesT], by simp [smallT]⟩⟩
        rw [HGF.out, HGN.out]
        exact HX.out.la
      | piece pc' p1 p2 =>
        obtain ⟨h1, -, h3, -, -⟩ := hX.tr.head
        have h1' : op = 1 := h1
        subst h1'
        obtain ⟨m, rfl⟩ : ∃ m, pc' = 97 + m := ⟨pc' - 97, by omega⟩
        have hpc : pc = 97 + (m : Int) := by have : pc = ((97 + m : Nat) : Int) := h3; omega
        have hm25 : m ≤ 25 := by omega
        have hM2 : pl.length + 1 ≤ 1000000000 := by have := HM.out; simpa [pcsT] using this
        have HPC := hide hpc
        clear hx hy h1 h3 hpc p1 p2
        go_wp2_with fail
        refine (put_any B ly K A kl c pl true s pc m x y rw' rh W HPC.out hm25 hX.la hly hX.sl hkl hM2).mono ?_
        rintro e W2 ⟨rfl, hb2, ho2, hno, hyes⟩
        have hbl := hX.bl.trans hb2
        have hop := hX.op.trans ho2
        clear hX hk hr hb2 ho2
        go_wp2_with fail
        refine bodyPost_ret (v := .tuple #[]) (results_none rfl _ _ _) rfl ?_
        have e9 : ((97 + m : Nat) : Int) = pc := by rw [HPC.out]; push_cast; rfl
        rw [e9]
        have HG0 : goneT K (kdL kl) (.node 1 0 pc []) rw' rh = (true || decide (kl.length ≤ m)) := by
          simp only [goneT, kdL_len, HNR.out, decide_true, Bool.true_and]
          rw [show decide ((kl.length : Int) ≤ pc - 97) = decide (kl.length ≤ m) from decide_eq_decide.2 (by have := HPC.out; omega)]
        by_cases hm : kl.length ≤ m
        · rw [decide_eq_true hm, Bool.or_true] at HG0
          refine ⟨rfl, hbl, hop, pl, s, ?_, by omega, fun h => by rw [HG0] at h; cases h⟩
          rw [HG0, Bool.or_true]; exact hno hm
        · rw [decide_eq_false hm, Bool.or_false] at HG0
          obtain ⟨q, hq⟩ : ∃ q, kl[m]? = some q := ⟨_, List.getElem?_eq_getElem (by omega)⟩
          have e8 : (pc - 97).toNat = m := by have := HPC.out; omega
          refine ⟨rfl, hbl, hop, pl ++ [⟨pc, x, y, q.a, q.b⟩], s || (decide (rw' < q.a) || decide (rh < q.b)), ?_, by simp [pcsT], fun _ => ⟨?_, ?_⟩⟩
          · rw [HG0, HGN.out]; exact hyes q hq
          · simp only [placesT, if_true]
            rw [e8, kdL_get, hq]; rfl
          · simp only [smallT, decide_true, Bool.true_and]
            rw [e8, kdL_get, hq]; rfl
      | cut op' n' ta tb hop hn1 hn2 hra hrb =>
        obtain ⟨h1, h2, h3, h4, -⟩ := hX.tr.head
        have h1' : op = op' := h1
        have h2' : n = (n' : Int) := h2
        have h4' : k = 2 := h4
        have hn : 1 ≤ (n' : Int) ∧ (n' : Int) ≤ 1000 := by omega
        generalize hnn : (n' : Int) = nn at *
        have HNN := hide hnn
        clear hnn
        subst h1' h2' h4'
        have HRA := hide hra
        have HRB := hide hrb
        have HN := hide hn
        have HPC : Hid (pl.length + (pcsT ta ++ pcsT tb).length ≤ 1000000000) := HM.out
        clear hn hn1 hn2 hra hrb h1 h2 h3 h4
        rcases hop with rfl | rfl
        · have HG : Hid (goneT K (kdL kl) (.node 2 n 0 [ta, tb]) rw' rh = (true || (goneT K (kdL kl) ta rw' n || goneT K (kdL kl) tb rw' (rh - n - K)))) := by show _ = _; rw [goneT, HNR.out, if_pos rfl]
          have HPL : Hid (placesT K (kdL kl) (.node 2 n 0 [ta, tb]) x y rw' rh = placesT K (kdL kl) ta x y rw' n ++ placesT K (kdL kl) tb x (y + n + K) rw' (rh - n - K)) := by show _ = _; rw [placesT, if_pos rfl]
          have HSM : Hid (smallT K (kdL kl) (.node 2 n 0 [ta, tb]) rw' rh = (smallT K (kdL kl) ta rw' n || smallT K (kdL kl) tb rw' (rh - n - K))) := by show _ = _; rw [smallT, if_pos rfl]
          have h2 := HN.out
          have h3 := hK
          have h4 := HBD.out
          unfold Rb at h4
          have e1 : IntKind.i64.wrap (y + n) = y + n := IntWalk.i64_in _ (by omega)
          have e2 : IntKind.i64.wrap (y + n + K) = y + n + K := IntWalk.i64_in _ (by omega)
          have e3 : IntKind.i64.wrap (rh - n) = rh - n := IntWalk.i64_in _ (by omega)
          have e4 : IntKind.i64.wrap (rh - n - K) = rh - n - K := IntWalk.i64_in _ (by omega)
          clear h2 h3 h4
          go_upto_region 9 with (refine wpList_store_at rfl 3 _ _ rfl (.int .i64 n) hx rfl rfl (by kernel_rfl) rfl (by simp) rfl ?_; intro W3 hx3 hc3)
          have hx4 : Blk W3 hxb 99 #[.int .i64 x, .int .i64 y, .int .i64 rw', .int .i64 n] := hx3
          replace hX := hX.chgF hc3 hx (by decide) (by omega)
          replace hk := hk.chg1 hc3 (by omega)
          replace hr := hr.chg1 hc3 (by omega)
          replace hy := hy.chg1 hc3 (by omega)
          clear hx hx3 hc3 q0 q1 q2 q3 r0 r1 r2 r3 a0 a1 a2 a3 b0 b1 b2 b3
          obtain ⟨W, rfl⟩ : ∃ X : World, X = W3 := ⟨_, rfl⟩
          obtain ⟨v, hU, hO⟩ := hX.la
          have u0 := hU.cell_ 0 (v := .int .i64 K) rfl
          clear hU hO
          try dsimp only [Act.put]
          have q0 := hk.cell_ 0 rfl
          have q1 := hk.cell_ 1 rfl
          have q2 := hk.cell_ 2 rfl
          have q3 := hk.cell_ 3 rfl
          have r0 := hr.cell_ 0 rfl
          have r1 := hr.cell_ 1 rfl
          have r2 := hr.cell_ 2 rfl
          have r3 := hr.cell_ 3 rfl
          have b0 := hy.cell_ 0 rfl
          have b1 := hy.cell_ 1 rfl
          have b2 := hy.cell_ 2 rfl
          have b3 := hy.cell_ 3 rfl
          have a0 := hx4.cell_ 0 rfl
          have a1 := hx4.cell_ 1 rfl
          have a2 := hx4.cell_ 2 rfl
          have a3 := hx4.cell_ 3 rfl
          go_wp2_with fail
          have hok : FldOk W ([]) [⟨21, hyb, 99, (#[.int .i64 x, .int .i64 y, .int .i64 rw', .int .i64 rh]), ((#[.int .i64 x, .int .i64 y, .int .i64 rw', .int .i64 rh])).setIfInBounds (1) (.int .i64 (y + n + K))⟩] := FldOk.one_ hy.lt (by simp)
          refine wp_region_both 22 [0, 1, 2, 3, 4, 5, 6, 7, 8, 9, 10, 11, 12, 13, 14, 15, 16, 17, 18, 19, 20] [21] [] [⟨21, hyb, 99, (#[.int .i64 x, .int .i64 y, .int .i64 rw', .int .i64 rh]), ((#[.int .i64 x, .int .i64 y, .int .i64 rw', .int .i64 rh])).setIfInBounds (1) (.int .i64 (y + n + K))⟩] (fun f hf => by simp only [List.mem_singleton] at hf; subst hf; exact hy) (by kernel_rfl) (by kernel_rfl) (by kernel_rfl) (by kernel_rfl) (by kernel_rfl) (by simp) ?_
          apply Exists.intro
          refine ⟨fun W1 hc0 => ?_, ?_⟩
          · have hc1 : Chg (fun k => k = hyb) W W1 := hc0.one_
            replace u0 := hc1.cell1 u0 (by show _ ≠ _; (try dsimp only); omega)
            replace hk := hk.chg1 hc1 (by omega)
            replace hr := hr.chg1 hc1 (by omega)
            replace hX := LC.chgF hX hc1 hy (by decide) (by omega)
            replace hx4 := hx4.chg1 hc1 (by omega)
            have q0 := hk.cell_ 0 rfl
            have q1 := hk.cell_ 1 rfl
            have q2 := hk.cell_ 2 rfl
            have q3 := hk.cell_ 3 rfl
            have r0 := hr.cell_ 0 rfl
            have r1 := hr.cell_ 1 rfl
            have r2 := hr.cell_ 2 rfl
            have r3 := hr.cell_ 3 rfl
            have b0 := hy.cell_ 0 rfl
            have b1 := hy.cell_ 1 rfl
            have b2 := hy.cell_ 2 rfl
            have b3 := hy.cell_ 3 rfl
            have a0 := hx4.cell_ 0 rfl
            have a1 := hx4.cell_ 1 rfl
            have a2 := hx4.cell_ 2 rfl
            have a3 := hx4.cell_ 3 rfl
            have y_q0 := Since.cell q0
            have y_q1 := Since.cell q1
            have y_q2 := Since.cell q2
            have y_q3 := Since.cell q3
            have y_r0 := Since.cell r0
            have y_r1 := Since.cell r1
            have y_r2 := Since.cell r2
            have y_r3 := Since.cell r3
            have y_b0 := Since.cell b0
            have y_b1 := Since.cell b1
            have y_b2 := Since.cell b2
            have y_b3 := Since.cell b3
            have y_a0 := Since.cell a0
            have y_a1 := Since.cell a1
            have y_a2 := Since.cell a2
            have y_a3 := Since.cell a3
            have y_u0 := Since.cell u0
            dsimp only [pick, List.filterMap, List.getElem?_cons_succ, List.getElem?_cons_zero]
            repeat (go_big_quiet_step ((fail)))
            exact wpQuiet_nil rfl
          · refine ownWalk_put (i := 1) (v := .int .i64 (y + n + K)) ⟨21, hyb, 99, (#[.int .i64 x, .int .i64 y, .int .i64 rw', .int .i64 rh]), ((#[.int .i64 x, .int .i64 y, .int .i64 rw', .int .i64 rh])).setIfInBounds (1) (.int .i64 (y + n + K))⟩ hok (by simp) rfl rfl rfl rfl rfl rfl rfl (by kernel_rfl) rfl (by simp) rfl rfl (by simp) ?_
            refine ownWalk_nil ?_
            intro w' hc0 hD
            have hc1 : Chg (fun k => k = hyb) W w' := hc0.one_
            have n_hy := hD.get (f := ⟨21, hyb, 99, (#[.int .i64 x, .int .i64 y, .int .i64 rw', .int .i64 rh]), ((#[.int .i64 x, .int .i64 y, .int .i64 rw', .int .i64 rh])).setIfInBounds (1) (.int .i64 (y + n + K))⟩) (by simp) rfl
            clear hD
            try simp only [List.drop_succ_cons, List.drop_zero]
            replace u0 := hc1.cell1 u0 (by show _ ≠ _; (try dsimp only); omega)
            clear q0 q1 q2 q3 r0 r1 r2 r3 b0 b1 b2 b3 a0 a1 a2 a3
            replace hk := hk.chg1 hc1 (by omega)
            replace hr := hr.chg1 hc1 (by omega)
            replace hX := LC.chgF hX hc1 hy (by decide) (by omega)
            replace hx4 := hx4.chg1 hc1 (by omega)
            clear hy
            have hy := n_hy
            clear n_hy hc1 hc0 hok
            dsimp only at hy
            obtain ⟨W, rfl⟩ : ∃ W : World, W = w' := ⟨_, rfl⟩
            have q0 := hk.cell_ 0 rfl
            have q1 := hk.cell_ 1 rfl
            have q2 := hk.cell_ 2 rfl
            have q3 := hk.cell_ 3 rfl
            have r0 := hr.cell_ 0 rfl
            have r1 := hr.cell_ 1 rfl
            have r2 := hr.cell_ 2 rfl
            have r3 := hr.cell_ 3 rfl
            have b0 := hy.cell_ 0 rfl
            have b1 := hy.cell_ 1 rfl
            have b2 := hy.cell_ 2 rfl
            have b3 := hy.cell_ 3 rfl
            have a0 := hx4.cell_ 0 rfl
            have a1 := hx4.cell_ 1 rfl
            have a2 := hx4.cell_ 2 rfl
            have a3 := hx4.cell_ 3 rfl
            have hy6 : Blk W hyb 99 #[.int .i64 x, .int .i64 (y + n + K), .int .i64 rw', .int .i64 rh] := hy
            clear hy
            go_upto_region 13 with (refine wpList_store_at rfl 3 _ _ rfl (.int .i64 (rh - n - K)) hy6 rfl rfl (by kernel_rfl) rfl (by simp) rfl ?_; intro W4 hy4 hc4)
            try dsimp only [Act.put]
            have hy5 : Blk W4 hyb 99 #[.int .i64 x, .int .i64 (y + n + K), .int .i64 rw', .int .i64 (rh - n - K)] := hy4
            replace hX := hX.chgF hc4 hy6 (by decide) (by omega)
            replace hk := hk.chg1 hc4 (by omega)
            replace hr := hr.chg1 hc4 (by omega)
            replace hx4 := hx4.chg1 hc4 (by omega)
            clear hy6 hy4 hc4 u0 e1 e2 e3 e4
            try clear q0 q1 q2 q3
            try clear r0 r1 r2 r3
            try clear a0 a1 a2 a3
            try clear b0 b1 b2 b3
            obtain ⟨W, rfl⟩ : ∃ X : World, X = W4 := ⟨_, rfl⟩
            obtain ⟨t', o1, n1, p1, A1, k1, d1, pb, off, ht, hA, _, hT1, d0, d1', d2, d3⟩ := part_at hX.tr (i := 0) (by simp [Tree.ts])
            dsimp only at hA
            obtain rfl : ta = t' := by simpa [Tree.ts] using ht
            subst hA
            simp only [Nat.zero_mul, Nat.add_zero] at d0 d1' d2 d3
            clear ht
            have HBW : Hid (B ≤ W.heap.size) := hX.size
            have q0 := hk.cell_ 0 rfl
            have q1 := hk.cell_ 1 rfl
            have q2 := hk.cell_ 2 rfl
            have q3 := hk.cell_ 3 rfl
            have r0 := hr.cell_ 0 rfl
            have r1 := hr.cell_ 1 rfl
            have r2 := hr.cell_ 2 rfl
            have r3 := hr.cell_ 3 rfl
            have a0 := hx4.cell_ 0 rfl
            have a1 := hx4.cell_ 1 rfl
            have a2 := hx4.cell_ 2 rfl
            have a3 := hx4.cell_ 3 rfl
            have b0 := hy5.cell_ 0 rfl
            have b1 := hy5.cell_ 1 rfl
            have b2 := hy5.cell_ 2 rfl
            have b3 := hy5.cell_ 3 rfl
            go_wp2_with fail
            refine wp_region_quiet_tail (C := fun w' => ∃ u : Since W, w' = u.w) 6 (by kernel_rfl) (by kernel_rfl) (Since.start W) ?_
            simp only [List.take_succ_cons, List.take_zero, List.drop_succ_cons, List.drop_zero]
            have y_q0 := Since.cell q0
            have y_q1 := Since.cell q1
            have y_q2 := Since.cell q2
            have y_q3 := Since.cell q3
            have y_r0 := Since.cell r0
            have y_r1 := Since.cell r1
            have y_r2 := Since.cell r2
            have y_r3 := Since.cell r3
            have y_a0 := Since.cell a0
            have y_a1 := Since.cell a1
            have y_a2 := Since.cell a2
            have y_a3 := Since.cell a3
            have y_b0 := Since.cell b0
            have y_b1 := Since.cell b1
            have y_b2 := Since.cell b2
            have y_b3 := Since.cell b3
            have y_d0 := Since.cell d0
            have y_d1' := Since.cell d1'
            have y_d2 := Since.cell d2
            have y_d3 := Since.cell d3
            clear q0 q1 q2 q3 r0 r1 r2 r3 a0 a1 a2 a3 b0 b1 b2 b3
            repeat (go_big_quiet_step ((fail)))
            refine wpQuiet_nil ?_
            rintro W ⟨⟨_, hb⟩, rfl⟩
            try dsimp only at hb ⊢
            replace d0 : W.cell? _ = _ := y_d0 ⟨W, hb⟩
            replace d1' : W.cell? _ = _ := y_d1' ⟨W, hb⟩
            replace d2 : W.cell? _ = _ := y_d2 ⟨W, hb⟩
            replace d3 : W.cell? _ = _ := y_d3 ⟨W, hb⟩
            clear y_q0 y_q1 y_q2 y_q3 y_r0 y_r1 y_r2 y_r3 y_a0 y_a1 y_a2 y_a3 y_b0 y_b1 y_b2 y_b3 y_d0 y_d1' y_d2 y_d3
            replace hk := hk.below hb hk.lt
            replace hr := hr.below hb hr.lt
            replace hX := LC.below hX hb
            replace hx4 := hx4.below hb hx4.lt
            replace hy5 := hy5.below hb hy5.lt
            replace hT1 := TreeAt.belowBP hT1 (Below.mono hb HBW.out)
            clear hb
            have q0 := hk.cell_ 0 rfl
            have q1 := hk.cell_ 1 rfl
            have q2 := hk.cell_ 2 rfl
            have q3 := hk.cell_ 3 rfl
            have r0 := hr.cell_ 0 rfl
            have r1 := hr.cell_ 1 rfl
            have r2 := hr.cell_ 2 rfl
            have r3 := hr.cell_ 3 rfl
            have a0 := hx4.cell_ 0 rfl
            have a1 := hx4.cell_ 1 rfl
            have a2 := hx4.cell_ 2 rfl
            have a3 := hx4.cell_ 3 rfl
            have b0 := hy5.cell_ 0 rfl
            have b1 := hy5.cell_ 1 rfl
            have b2 := hy5.cell_ 2 rfl
            have b3 := hy5.cell_ 3 rfl
            clear HBW
            go_wp2_with fail
            refine (HH.out ta o1 n1 p1 A1 k1 d1 B ly K A kl c pl true s x y rw' n W HRA.out hT1 hX.la hly hX.sl hkl hK (by have h9 := HBD.out; have h8 := HN.out; unfold Rb at h9 ⊢; push_cast at h9; omega) (by have h9 := HPC.out; rw [List.length_append] at h9; omega)).mono ?_
            rintro e W2 ⟨rfl, hb2, ho2, pl1, s1, hl1, hn1, hr1⟩
            replace hX := hX.step hb2 ho2 hl1
            replace hk := hk.opl ho2 (by omega) (by decide)
            replace hr := hr.opl ho2 (by omega) (by decide)
            replace hy5 := hy5.opl ho2 (by omega) (by decide)
            have HR1 := hide hr1
            have HN1 := hide hn1
            clear hx4 hT1 hb2 ho2 hl1 hn1 hr1 d0 d1' d2 d3
            try clear q0 q1 q2 q3
            try clear r0 r1 r2 r3
            try clear a0 a1 a2 a3
            try clear b0 b1 b2 b3
            obtain ⟨W, rfl⟩ : ∃ X : World, X = W2 := ⟨_, rfl⟩
            obtain ⟨t', o1, n1, p1, A1, k1, d1, pb2, off2, ht, hA, _, hT1, d0, d1', d2, d3⟩ := part_at hX.tr (i := 1) (by simp [Tree.ts])
            dsimp only at hA
            obtain rfl : tb = t' := by simpa [Tree.ts] using ht
            injection hA with hA
            injection hA with hA1 hA2
            subst hA1 hA2
            simp only [Nat.one_mul] at d0 d1' d2 d3
            clear ht
            have HBW : Hid (B ≤ W.heap.size) := hX.size
            have q0 := hk.cell_ 0 rfl
            have q1 := hk.cell_ 1 rfl
            have q2 := hk.cell_ 2 rfl
            have q3 := hk.cell_ 3 rfl
            have r0 := hr.cell_ 0 rfl
            have r1 := hr.cell_ 1 rfl
            have r2 := hr.cell_ 2 rfl
            have r3 := hr.cell_ 3 rfl
            have b0 := hy5.cell_ 0 rfl
            have b1 := hy5.cell_ 1 rfl
            have b2 := hy5.cell_ 2 rfl
            have b3 := hy5.cell_ 3 rfl
            go_wp2_with fail
            refine wp_region_quiet_tail (C := fun w' => ∃ u : Since W, w' = u.w) 6 (by kernel_rfl) (by kernel_rfl) (Since.start W) ?_
            simp only [List.take_succ_cons, List.take_zero, List.drop_succ_cons, List.drop_zero]
            have y_q0 := Since.cell q0
            have y_q1 := Since.cell q1
            have y_q2 := Since.cell q2
            have y_q3 := Since.cell q3
            have y_r0 := Since.cell r0
            have y_r1 := Since.cell r1
            have y_r2 := Since.cell r2
            have y_r3 := Since.cell r3
            have y_b0 := Since.cell b0
            have y_b1 := Since.cell b1
            have y_b2 := Since.cell b2
            have y_b3 := Since.cell b3
            have y_d0 := Since.cell d0
            have y_d1' := Since.cell d1'
            have y_d2 := Since.cell d2
            have y_d3 := Since.cell d3
            clear q0 q1 q2 q3 r0 r1 r2 r3 b0 b1 b2 b3
            repeat (go_big_quiet_step ((fail)))
            refine wpQuiet_nil ?_
            rintro W ⟨⟨_, hb⟩, rfl⟩
            try dsimp only at hb ⊢
            replace d0 : W.cell? _ = _ := y_d0 ⟨W, hb⟩
            replace d1' : W.cell? _ = _ := y_d1' ⟨W, hb⟩
            replace d2 : W.cell? _ = _ := y_d2 ⟨W, hb⟩
            replace d3 : W.cell? _ = _ := y_d3 ⟨W, hb⟩
            clear y_q0 y_q1 y_q2 y_q3 y_r0 y_r1 y_r2 y_r3 y_b0 y_b1 y_b2 y_b3 y_d0 y_d1' y_d2 y_d3
            replace hk := hk.below hb hk.lt
            replace hr := hr.below hb hr.lt
            replace hX := LC.below hX hb
            replace hy5 := hy5.below hb hy5.lt
            replace hT1 := TreeAt.belowBP hT1 (Below.mono hb HBW.out)
            clear hb
            have q0 := hk.cell_ 0 rfl
            have q1 := hk.cell_ 1 rfl
            have q2 := hk.cell_ 2 rfl
            have q3 := hk.cell_ 3 rfl
            have r0 := hr.cell_ 0 rfl
            have r1 := hr.cell_ 1 rfl
            have r2 := hr.cell_ 2 rfl
            have r3 := hr.cell_ 3 rfl
            have b0 := hy5.cell_ 0 rfl
            have b1 := hy5.cell_ 1 rfl
            have b2 := hy5.cell_ 2 rfl
            have b3 := hy5.cell_ 3 rfl
            clear HBW
            go_wp2_with fail
            refine (HH.out tb o1 n1 p1 A1 k1 d1 B ly K A kl c pl1 (true || goneT K (kdL kl) ta rw' n) s1 x (y + n + K) rw' (rh - n - K) W HRB.out hT1 hX.la hly hX.sl hkl hK (by have h9 := HBD.out; have h8 := HN.out; unfold Rb at h9 ⊢; push_cast at h9; omega) (by have h9 := HPC.out; have h8 := HN1.out; rw [List.length_append] at h9; omega)).mono ?_
            rintro e W2 ⟨rfl, hb2, ho2, pl2, s2, hl2, hn2, hr2⟩
            replace hX := hX.step hb2 ho2 hl2
            have HX := hide hX
            have HR2 := hide hr2
            have HN2 := hide hn2
            clear hX hk hr hy5 hT1 hb2 ho2 hl2 hn2 hr2 d0 d1' d2 d3
            try clear q0 q1 q2 q3
            try clear r0 r1 r2 r3
            try clear b0 b1 b2 b3
            go_wp2_with fail
            refine bodyPost_ret (v := .tuple #[]) (results_none rfl _ _ _) rfl ?_
            refine ⟨rfl, HX.out.bl, HX.out.op, pl2, s2, by (try rw [HNN.out]); rw [HG.out, ← Bool.or_assoc, HGN.out, ← Bool.or_assoc]; exact HX.out.la, ?_, fun h => ?_⟩
            · have h1 := HN1.out
              have h2 := HN2.out
              show pl2.length ≤ pl.length + (pcsT ta ++ pcsT tb).length
              rw [List.length_append]; omega
            · try rw [HNN.out] at h
              try rw [HNN.out]
              rw [HG.out, Bool.or_eq_false_iff, Bool.or_eq_false_iff] at h
              obtain ⟨a1, a2⟩ := HR1.out h.2.1
              obtain ⟨b1, b2⟩ := HR2.out h.2.2
              exact ⟨by rw [HPL.out, b1, a1, List.append_assoc], by rw [HSM.out, b2, a2, Bool.or_assoc]⟩
        · have HG : Hid (goneT K (kdL kl) (.node 3 n 0 [ta, tb]) rw' rh = (true || (goneT K (kdL kl) ta n rh || goneT K (kdL kl) tb (rw' - n - K) rh))) := by show _ = _; rw [goneT, HNR.out, if_neg (by decide)]
          have HPL : Hid (placesT K (kdL kl) (.node 3 n 0 [ta, tb]) x y rw' rh = placesT K (kdL kl) ta x y n rh ++ placesT K (kdL kl) tb (x + n + K) y (rw' - n - K) rh) := by show _ = _; rw [placesT, if_neg (by decide)]
          have HSM : Hid (smallT K (kdL kl) (.node 3 n 0 [ta, tb]) rw' rh = (smallT K (kdL kl) ta n rh || smallT K (kdL kl) tb (rw' - n - K) rh)) := by show _ = _; rw [smallT, if_neg (by decide)]
          have h2 := HN.out
          have h3 := hK
          have h4 := HBD.out
          unfold Rb at h4
          have e1 : IntKind.i64.wrap (x + n) = x + n := IntWalk.i64_in _ (by omega)
          have e2 : IntKind.i64.wrap (x + n + K) = x + n + K := IntWalk.i64_in _ (by omega)
          have e3 : IntKind.i64.wrap (rw' - n) = rw' - n := IntWalk.i64_in _ (by omega)
          have e4 : IntKind.i64.wrap (rw' - n - K) = rw' - n - K := IntWalk.i64_in _ (by omega)
          clear h2 h3 h4
          go_upto_region 12 with (refine wpList_store_at rfl 3 _ _ rfl (.int .i64 n) hx rfl rfl (by kernel_rfl) rfl (by simp) rfl ?_; intro W3 hx3 hc3)
          have hx4 : Blk W3 hxb 99 #[.int .i64 x, .int .i64 y, .int .i64 n, .int .i64 rh] := hx3
          replace hX := hX.chgF hc3 hx (by decide) (by omega)
          replace hk := hk.chg1 hc3 (by omega)
          replace hr := hr.chg1 hc3 (by omega)
          replace hy := hy.chg1 hc3 (by omega)
          clear hx hx3 hc3 q0 q1 q2 q3 r0 r1 r2 r3 a0 a1 a2 a3 b0 b1 b2 b3
          obtain ⟨W, rfl⟩ : ∃ X : World, X = W3 := ⟨_, rfl⟩
          obtain ⟨v, hU, hO⟩ := hX.la
          have u0 := hU.cell_ 0 (v := .int .i64 K) rfl
          clear hU hO
          try dsimp only [Act.put]
          have q0 := hk.cell_ 0 rfl
          have q1 := hk.cell_ 1 rfl
          have q2 := hk.cell_ 2 rfl
          have q3 := hk.cell_ 3 rfl
          have r0 := hr.cell_ 0 rfl
          have r1 := hr.cell_ 1 rfl
          have r2 := hr.cell_ 2 rfl
          have r3 := hr.cell_ 3 rfl
          have b0 := hy.cell_ 0 rfl
          have b1 := hy.cell_ 1 rfl
          have b2 := hy.cell_ 2 rfl
          have b3 := hy.cell_ 3 rfl
          have a0 := hx4.cell_ 0 rfl
          have a1 := hx4.cell_ 1 rfl
          have a2 := hx4.cell_ 2 rfl
          have a3 := hx4.cell_ 3 rfl
          go_wp2_with fail
          have hok : FldOk W ([]) [⟨21, hyb, 99, (#[.int .i64 x, .int .i64 y, .int .i64 rw', .int .i64 rh]), ((#[.int .i64 x, .int .i64 y, .int .i64 rw', .int .i64 rh])).setIfInBounds (0) (.int .i64 (x + n + K))⟩] := FldOk.one_ hy.lt (by simp)
          refine wp_region_both 22 [0, 1, 2, 3, 4, 5, 6, 7, 8, 9, 10, 11, 12, 13, 14, 15, 16, 17, 18, 19, 20] [21] [] [⟨21, hyb, 99, (#[.int .i64 x, .int .i64 y, .int .i64 rw', .int .i64 rh]), ((#[.int .i64 x, .int .i64 y, .int .i64 rw', .int .i64 rh])).setIfInBounds (0) (.int .i64 (x + n + K))⟩] (fun f hf => by simp only [List.mem_singleton] at hf; subst hf; exact hy) (by kernel_rfl) (by kernel_rfl) (by kernel_rfl) (by kernel_rfl) (by kernel_rfl) (by simp) ?_
          apply Exists.intro
          refine ⟨fun W1 hc0 => ?_, ?_⟩
          · have hc1 : Chg (fun k => k = hyb) W W1 := hc0.one_
            replace u0 := hc1.cell1 u0 (by show _ ≠ _; (try dsimp only); omega)
            replace hk := hk.chg1 hc1 (by omega)
            replace hr := hr.chg1 hc1 (by omega)
            replace hX := LC.chgF hX hc1 hy (by decide) (by omega)
            replace hx4 := hx4.chg1 hc1 (by omega)
            have q0 := hk.cell_ 0 rfl
            have q1 := hk.cell_ 1 rfl
            have q2 := hk.cell_ 2 rfl
            have q3 := hk.cell_ 3 rfl
            have r0 := hr.cell_ 0 rfl
            have r1 := hr.cell_ 1 rfl
            have r2 := hr.cell_ 2 rfl
            have r3 := hr.cell_ 3 rfl
            have b0 := hy.cell_ 0 rfl
            have b1 := hy.cell_ 1 rfl
            have b2 := hy.cell_ 2 rfl
            have b3 := hy.cell_ 3 rfl
            have a0 := hx4.cell_ 0 rfl
            have a1 := hx4.cell_ 1 rfl
            have a2 := hx4.cell_ 2 rfl
            have a3 := hx4.cell_ 3 rfl
            have y_q0 := Since.cell q0
            have y_q1 := Since.cell q1
            have y_q2 := Since.cell q2
            have y_q3 := Since.cell q3
            have y_r0 := Since.cell r0
            have y_r1 := Since.cell r1
            have y_r2 := Since.cell r2
            have y_r3 := Since.cell r3
            have y_b0 := Since.cell b0
            have y_b1 := Since.cell b1
            have y_b2 := Since.cell b2
            have y_b3 := Since.cell b3
            have y_a0 := Since.cell a0
            have y_a1 := Since.cell a1
            have y_a2 := Since.cell a2
            have y_a3 := Since.cell a3
            have y_u0 := Since.cell u0
            dsimp only [pick, List.filterMap, List.getElem?_cons_succ, List.getElem?_cons_zero]
            repeat (go_big_quiet_step ((fail)))
            exact wpQuiet_nil rfl
          · refine ownWalk_put (i := 0) (v := .int .i64 (x + n + K)) ⟨21, hyb, 99, (#[.int .i64 x, .int .i64 y, .int .i64 rw', .int .i64 rh]), ((#[.int .i64 x, .int .i64 y, .int .i64 rw', .int .i64 rh])).setIfInBounds (0) (.int .i64 (x + n + K))⟩ hok (by simp) rfl rfl rfl rfl rfl rfl rfl (by kernel_rfl) rfl (by simp) rfl rfl (by simp) ?_
            refine ownWalk_nil ?_
            intro w' hc0 hD
            have hc1 : Chg (fun k => k = hyb) W w' := hc0.one_
            have n_hy := hD.get (f := ⟨21, hyb, 99, (#[.int .i64 x, .int .i64 y, .int .i64 rw', .int .i64 rh]), ((#[.int .i64 x, .int .i64 y, .int .i64 rw', .int .i64 rh])).setIfInBounds (0) (.int .i64 (x + n + K))⟩) (by simp) rfl
            clear hD
            try simp only [List.drop_succ_cons, List.drop_zero]
            replace u0 := hc1.cell1 u0 (by show _ ≠ _; (try dsimp only); omega)
            clear q0 q1 q2 q3 r0 r1 r2 r3 b0 b1 b2 b3 a0 a1 a2 a3
            replace hk := hk.chg1 hc1 (by omega)
            replace hr := hr.chg1 hc1 (by omega)
            replace hX := LC.chgF hX hc1 hy (by decide) (by omega)
            replace hx4 := hx4.chg1 hc1 (by omega)
            clear hy
            have hy := n_hy
            clear n_hy hc1 hc0 hok
            dsimp only at hy
            obtain ⟨W, rfl⟩ : ∃ W : World, W = w' := ⟨_, rfl⟩
            have q0 := hk.cell_ 0 rfl
            have q1 := hk.cell_ 1 rfl
            have q2 := hk.cell_ 2 rfl
            have q3 := hk.cell_ 3 rfl
            have r0 := hr.cell_ 0 rfl
            have r1 := hr.cell_ 1 rfl
            have r2 := hr.cell_ 2 rfl
            have r3 := hr.cell_ 3 rfl
            have b0 := hy.cell_ 0 rfl
            have b1 := hy.cell_ 1 rfl
            have b2 := hy.cell_ 2 rfl
            have b3 := hy.cell_ 3 rfl
            have a0 := hx4.cell_ 0 rfl
            have a1 := hx4.cell_ 1 rfl
            have a2 := hx4.cell_ 2 rfl
            have a3 := hx4.cell_ 3 rfl
            have hy6 : Blk W hyb 99 #[.int .i64 (x + n + K), .int .i64 y, .int .i64 rw', .int .i64 rh] := hy
            clear hy
            go_upto_region 13 with (refine wpList_store_at rfl 3 _ _ rfl (.int .i64 (rw' - n - K)) hy6 rfl rfl (by kernel_rfl) rfl (by simp) rfl ?_; intro W4 hy4 hc4)
            try dsimp only [Act.put]
            have hy5 : Blk W4 hyb 99 #[.int .i64 (x + n + K), .int .i64 y, .int .i64 (rw' - n - K), .int .i64 rh] := hy4
            replace hX := hX.chgF hc4 hy6 (by decide) (by omega)
            replace hk := hk.chg1 hc4 (by omega)
            replace hr := hr.chg1 hc4 (by omega)
            replace hx4 := hx4.chg1 hc4 (by omega)
            clear hy6 hy4 hc4 u0 e1 e2 e3 e4
            try clear q0 q1 q2 q3
            try clear r0 r1 r2 r3
            try clear a0 a1 a2 a3
            try clear b0 b1 b2 b3
            obtain ⟨W, rfl⟩ : ∃ X : World, X = W4 := ⟨_, rfl⟩
            obtain ⟨t', o1, n1, p1, A1, k1, d1, pb, off, ht, hA, _, hT1, d0, d1', d2, d3⟩ := part_at hX.tr (i := 0) (by simp [Tree.ts])
            dsimp only at hA
            obtain rfl : ta = t' := by simpa [Tree.ts] using ht
            subst hA
            simp only [Nat.zero_mul, Nat.add_zero] at d0 d1' d2 d3
            clear ht
            have HBW : Hid (B ≤ W.heap.size) := hX.size
            have q0 := hk.cell_ 0 rfl
            have q1 := hk.cell_ 1 rfl
            have q2 := hk.cell_ 2 rfl
            have q3 := hk.cell_ 3 rfl
            have r0 := hr.cell_ 0 rfl
            have r1 := hr.cell_ 1 rfl
            have r2 := hr.cell_ 2 rfl
            have r3 := hr.cell_ 3 rfl
            have a0 := hx4.cell_ 0 rfl
            have a1 := hx4.cell_ 1 rfl
            have a2 := hx4.cell_ 2 rfl
            have a3 := hx4.cell_ 3 rfl
            have b0 := hy5.cell_ 0 rfl
            have b1 := hy5.cell_ 1 rfl
            have b2 := hy5.cell_ 2 rfl
            have b3 := hy5.cell_ 3 rfl
            go_wp2_with fail
            refine wp_region_quiet_tail (C := fun w' => ∃ u : Since W, w' = u.w) 6 (by kernel_rfl) (by kernel_rfl) (Since.start W) ?_
            simp only [List.take_succ_cons, List.take_zero, List.drop_succ_cons, List.drop_zero]
            have y_q0 := Since.cell q0
            have y_q1 := Since.cell q1
            have y_q2 := Since.cell q2
            have y_q3 := Since.cell q3
            have y_r0 := Since.cell r0
            have y_r1 := Since.cell r1
            have y_r2 := Since.cell r2
            have y_r3 := Since.cell r3
            have y_a0 := Since.cell a0
            have y_a1 := Since.cell a1
            have y_a2 := Since.cell a2
            have y_a3 := Since.cell a3
            have y_b0 := Since.cell b0
            have y_b1 := Since.cell b1
            have y_b2 := Since.cell b2
            have y_b3 := Since.cell b3
            have y_d0 := Since.cell d0
            have y_d1' := Since.cell d1'
            have y_d2 := Since.cell d2
            have y_d3 := Since.cell d3
            clear q0 q1 q2 q3 r0 r1 r2 r3 a0 a1 a2 a3 b0 b1 b2 b3
            repeat (go_big_quiet_step ((fail)))
            refine wpQuiet_nil ?_
            rintro W ⟨⟨_, hb⟩, rfl⟩
            try dsimp only at hb ⊢
            replace d0 : W.cell? _ = _ := y_d0 ⟨W, hb⟩
            replace d1' : W.cell? _ = _ := y_d1' ⟨W, hb⟩
            replace d2 : W.cell? _ = _ := y_d2 ⟨W, hb⟩
            replace d3 : W.cell? _ = _ := y_d3 ⟨W, hb⟩
            clear y_q0 y_q1 y_q2 y_q3 y_r0 y_r1 y_r2 y_r3 y_a0 y_a1 y_a2 y_a3 y_b0 y_b1 y_b2 y_b3 y_d0 y_d1' y_d2 y_d3
            replace hk := hk.below hb hk.lt
            replace hr := hr.below hb hr.lt
            replace hX := LC.below hX hb
            replace hx4 := hx4.below hb hx4.lt
            replace hy5 := hy5.below hb hy5.lt
            replace hT1 := TreeAt.belowBP hT1 (Below.mono hb HBW.out)
            clear hb
            have q0 := hk.cell_ 0 rfl
            have q1 := hk.cell_ 1 rfl
            have q2 := hk.cell_ 2 rfl
            have q3 := hk.cell_ 3 rfl
            have r0 := hr.cell_ 0 rfl
            have r1 := hr.cell_ 1 rfl
            have r2 := hr.cell_ 2 rfl
            have r3 := hr.cell_ 3 rfl
            have a0 := hx4.cell_ 0 rfl
            have a1 := hx4.cell_ 1 rfl
            have a2 := hx4.cell_ 2 rfl
            have a3 := hx4.cell_ 3 rfl
            have b0 := hy5.cell_ 0 rfl
            have b1 := hy5.cell_ 1 rfl
            have b2 := hy5.cell_ 2 rfl
            have b3 := hy5.cell_ 3 rfl
            clear HBW
            go_wp2_with fail
            refine (HH.out ta o1 n1 p1 A1 k1 d1 B ly K A kl c pl true s x y n rh W HRA.out hT1 hX.la hly hX.sl hkl hK (by have h9 := HBD.out; have h8 := HN.out; unfold Rb at h9 ⊢; push_cast at h9; omega) (by have h9 := HPC.out; rw [List.length_append] at h9; omega)).mono ?_
            rintro e W2 ⟨rfl, hb2, ho2, pl1, s1, hl1, hn1, hr1⟩
            replace hX := hX.step hb2 ho2 hl1
            replace hk := hk.opl ho2 (by omega) (by decide)
            replace hr := hr.opl ho2 (by omega) (by decide)
            replace hy5 := hy5.opl ho2 (by omega) (by decide)
            have HR1 := hide hr1
            have HN1 := hide hn1
            clear hx4 hT1 hb2 ho2 hl1 hn1 hr1 d0 d1' d2 d3
            try clear q0 q1 q2 q3
            try clear r0 r1 r2 r3
            try clear a0 a1 a2 a3
            try clear b0 b1 b2 b3
            obtain ⟨W, rfl⟩ : ∃ X : World, X = W2 := ⟨_, rfl⟩
            obtain ⟨t', o1, n1, p1, A1, k1, d1, pb2, off2, ht, hA, _, hT1, d0, d1', d2, d3⟩ := part_at hX.tr (i := 1) (by simp [Tree.ts])
            dsimp only at hA
            obtain rfl : tb = t' := by simpa [Tree.ts] using ht
            injection hA with hA
            injection hA with hA1 hA2
            subst hA1 hA2
            simp only [Nat.one_mul] at d0 d1' d2 d3
            clear ht
            have HBW : Hid (B ≤ W.heap.size) := hX.size
            have q0 := hk.cell_ 0 rfl
            have q1 := hk.cell_ 1 rfl
            have q2 := hk.cell_ 2 rfl
            have q3 := hk.cell_ 3 rfl
            have r0 := hr.cell_ 0 rfl
            have r1 := hr.cell_ 1 rfl
            have r2 := hr.cell_ 2 rfl
            have r3 := hr.cell_ 3 rfl
            have b0 := hy5.cell_ 0 rfl
            have b1 := hy5.cell_ 1 rfl
            have b2 := hy5.cell_ 2 rfl
            have b3 := hy5.cell_ 3 rfl
            go_wp2_with fail
            refine wp_region_quiet_tail (C := fun w' => ∃ u : Since W, w' = u.w) 6 (by kernel_rfl) (by kernel_rfl) (Since.start W) ?_
            simp only [List.take_succ_cons, List.take_zero, List.drop_succ_cons, List.drop_zero]
            have y_q0 := Since.cell q0
            have y_q1 := Since.cell q1
            have y_q2 := Since.cell q2
            have y_q3 := Since.cell q3
            have y_r0 := Since.cell r0
            have y_r1 := Since.cell r1
            have y_r2 := Since.cell r2
            have y_r3 := Since.cell r3
            have y_b0 := Since.cell b0
            have y_b1 := Since.cell b1
            have y_b2 := Since.cell b2
            have y_b3 := Since.cell b3
            have y_d0 := Since.cell d0
            have y_d1' := Since.cell d1'
            have y_d2 := Since.cell d2
            have y_d3 := Since.cell d3
            clear q0 q1 q2 q3 r0 r1 r2 r3 b0 b1 b2 b3
            repeat (go_big_quiet_step ((fail)))
            refine wpQuiet_nil ?_
            rintro W ⟨⟨_, hb⟩, rfl⟩
            try dsimp only at hb ⊢
            replace d0 : W.cell? _ = _ := y_d0 ⟨W, hb⟩
            replace d1' : W.cell? _ = _ := y_d1' ⟨W, hb⟩
            replace d2 : W.cell? _ = _ := y_d2 ⟨W, hb⟩
            replace d3 : W.cell? _ = _ := y_d3 ⟨W, hb⟩
            clear y_q0 y_q1 y_q2 y_q3 y_r0 y_r1 y_r2 y_r3 y_b0 y_b1 y_b2 y_b3 y_d0 y_d1' y_d2 y_d3
            replace hk := hk.below hb hk.lt
            replace hr := hr.below hb hr.lt
            replace hX := LC.below hX hb
            replace hy5 := hy5.below hb hy5.lt
            replace hT1 := TreeAt.belowBP hT1 (Below.mono hb HBW.out)
            clear hb
            have q0 := hk.cell_ 0 rfl
            have q1 := hk.cell_ 1 rfl
            have q2 := hk.cell_ 2 rfl
            have q3 := hk.cell_ 3 rfl
            have r0 := hr.cell_ 0 rfl
            have r1 := hr.cell_ 1 rfl
            have r2 := hr.cell_ 2 rfl
            have r3 := hr.cell_ 3 rfl
            have b0 := hy5.cell_ 0 rfl
            have b1 := hy5.cell_ 1 rfl
            have b2 := hy5.cell_ 2 rfl
            have b3 := hy5.cell_ 3 rfl
            clear HBW
            go_wp2_with fail
            refine (HH.out tb o1 n1 p1 A1 k1 d1 B ly K A kl c pl1 (true || goneT K (kdL kl) ta n rh) s1 (x + n + K) y (rw' - n - K) rh W HRB.out hT1 hX.la hly hX.sl hkl hK (by have h9 := HBD.out; have h8 := HN.out; unfold Rb at h9 ⊢; push_cast at h9; omega) (by have h9 := HPC.out; have h8 := HN1.out; rw [List.length_append] at h9; omega)).mono ?_
            rintro e W2 ⟨rfl, hb2, ho2, pl2, s2, hl2, hn2, hr2⟩
            replace hX := hX.step hb2 ho2 hl2
            have HX := hide hX
            have HR2 := hide hr2
            have HN2 := hide hn2
            clear hX hk hr hy5 hT1 hb2 ho2 hl2 hn2 hr2 d0 d1' d2 d3
            try clear q0 q1 q2 q3
            try clear r0 r1 r2 r3
            try clear b0 b1 b2 b3
            go_wp2_with fail
            refine bodyPost_ret (v := .tuple #[]) (results_none rfl _ _ _) rfl ?_
            refine ⟨rfl, HX.out.bl, HX.out.op, pl2, s2, by (try rw [HNN.out]); rw [HG.out, ← Bool.or_assoc, HGN.out, ← Bool.or_assoc]; exact HX.out.la, ?_, fun h => ?_⟩
            · have h1 := HN1.out
              have h2 := HN2.out
              show pl2.length ≤ pl.length + (pcsT ta ++ pcsT tb).length
              rw [List.length_append]; omega
            · try rw [HNN.out] at h
              try rw [HNN.out]
              rw [HG.out, Bool.or_eq_false_iff, Bool.or_eq_false_iff] at h
              obtain ⟨a1, a2⟩ := HR1.out h.2.1
              obtain ⟨b1, b2⟩ := HR2.out h.2.2
              exact ⟨by rw [HPL.out, b1, a1, List.append_assoc], by rw [HSM.out, b2, a2, Bool.or_assoc]⟩
  · have HNR : Hid (noRoom rw' rh = false) := noRoom_false.2 ⟨by omega, by omega⟩
    have HGN : Hid ((g || false) = g) := Bool.or_false g
    go_upto_region 3 with fail
    clear r2 r3
    have q0 := hk.cell_ 0 rfl
    have q1 := hk.cell_ 1 rfl
    have q2 := hk.cell_ 2 rfl
    have q3 := hk.cell_ 3 rfl
    have r0 := hr.cell_ 0 rfl
    have r1 := hr.cell_ 1 rfl
    have r2 := hr.cell_ 2 rfl
    have r3 := hr.cell_ 3 rfl
    go_wp2_with fail
    have z_q0 := hide (fun w' (hb : Below W.heap.size W w') => Since.later hb q0)
    have z_q1 := hide (fun w' (hb : Below W.heap.size W w') => Since.later hb q1)
    have z_q2 := hide (fun w' (hb : Below W.heap.size W w') => Since.later hb q2)
    have z_q3 := hide (fun w' (hb : Below W.heap.size W w') => Since.later hb q3)
    have z_r0 := hide (fun w' (hb : Below W.heap.size W w') => Since.later hb r0)
    have z_r1 := hide (fun w' (hb : Below W.heap.size W w') => Since.later hb r1)
    have z_r2 := hide (fun w' (hb : Below W.heap.size W w') => Since.later hb r2)
    have z_r3 := hide (fun w' (hb : Below W.heap.size W w') => Since.later hb r3)
    have hok : FldOk W ([⟨2, .ptr, (.cells #[.int .i64 0, .int .i64 0, .int .i64 0, .int .i64 0] 99), 4, (.cells #[.int .i64 x, .int .i64 y, .int .i64 rw', .int .i64 rh] 99)⟩, ⟨3, .ptr, (.cells #[.int .i64 0, .int .i64 0, .int .i64 0, .int .i64 0] 99), 5, (.cells #[.int .i64 x, .int .i64 y, .int .i64 rw', .int .i64 rh] 99)⟩]) [] := FldOk.nil_
    refine wp_region_both 6 [0, 1] [2, 3, 4, 5] [⟨2, .ptr, (.cells #[.int .i64 0, .int .i64 0, .int .i64 0, .int .i64 0] 99), 4, (.cells #[.int .i64 x, .int .i64 y, .int .i64 rw', .int .i64 rh] 99)⟩, ⟨3, .ptr, (.cells #[.int .i64 0, .int .i64 0, .int .i64 0, .int .i64 0] 99), 5, (.cells #[.int .i64 x, .int .i64 y, .int .i64 rw', .int .i64 rh] 99)⟩] [] (fun f hf => by cases hf) (by kernel_rfl) (by kernel_rfl) (by kernel_rfl) (by kernel_rfl) (by kernel_rfl) (by simp) ?_
    apply Exists.intro
    refine ⟨fun W1 hc0 => ?_, ?_⟩
    · have hb := hc0.nil_
      have y_q0 := Since.cell (z_q0.out W1 hb)
      have y_q1 := Since.cell (z_q1.out W1 hb)
      have y_q2 := Since.cell (z_q2.out W1 hb)
      have y_q3 := Since.cell (z_q3.out W1 hb)
      have y_r0 := Since.cell (z_r0.out W1 hb)
      have y_r1 := Since.cell (z_r1.out W1 hb)
      have y_r2 := Since.cell (z_r2.out W1 hb)
      have y_r3 := Since.cell (z_r3.out W1 hb)
      replace hk := hk.below hb hk.lt
      replace hr := hr.below hb hr.lt
      replace hX := LC.below hX hb
      dsimp only [pick, List.filterMap, List.getElem?_cons_succ, List.getElem?_cons_zero]
      repeat (go_big_quiet_step ((fail)))
      exact wpQuiet_nil rfl
    · refine ownWalk_alloc ⟨2, .ptr, (.cells #[.int .i64 0, .int .i64 0, .int .i64 0, .int .i64 0] 99), 4, (.cells #[.int .i64 x, .int .i64 y, .int .i64 rw', .int .i64 rh] 99)⟩ hok (by kernel_rfl) rfl rfl rfl rfl (fun _ => rfl) (by simp) (by simp) (fun h => absurd h (by simp)) ?_
      intro hxb
      simp only [Shape.val, List.setIfInBounds_toArray, List.set_cons_succ, List.set_cons_zero]
      refine ownWalk_alloc ⟨3, .ptr, (.cells #[.int .i64 0, .int .i64 0, .int .i64 0, .int .i64 0] 99), 5, (.cells #[.int .i64 x, .int .i64 y, .int .i64 rw', .int .i64 rh] 99)⟩ hok (by kernel_rfl) rfl rfl rfl rfl (fun _ => rfl) (by simp) (by simp) (fun h => absurd h (by simp)) ?_
      intro hyb
      simp only [Shape.val, List.setIfInBounds_toArray, List.set_cons_succ, List.set_cons_zero]
      refine ownWalk_fill (cs := #[.int .i64 0, .int .i64 0, .int .i64 0, .int .i64 0]) (cs' := #[.int .i64 x, .int .i64 y, .int .i64 rw', .int .i64 rh]) ⟨2, .ptr, (.cells #[.int .i64 0, .int .i64 0, .int .i64 0, .int .i64 0] 99), 4, (.cells #[.int .i64 x, .int .i64 y, .int .i64 rw', .int .i64 rh] 99)⟩ hok (by kernel_rfl) rfl rfl rfl rfl rfl rfl rfl rfl (by kernel_rfl) rfl (by simp [Value.oneCell']) rfl rfl (by simp) (by simp) (by simp) rfl ?_ (by simp)
      refine ownWalk_fill (cs := #[.int .i64 0, .int .i64 0, .int .i64 0, .int .i64 0]) (cs' := #[.int .i64 x, .int .i64 y, .int .i64 rw', .int .i64 rh]) ⟨3, .ptr, (.cells #[.int .i64 0, .int .i64 0, .int .i64 0, .int .i64 0] 99), 5, (.cells #[.int .i64 x, .int .i64 y, .int .i64 rw', .int .i64 rh] 99)⟩ hok (by kernel_rfl) rfl rfl rfl rfl rfl rfl rfl rfl (by kernel_rfl) rfl (by simp [Value.oneCell']) rfl rfl (by simp) (by simp) (by simp) rfl ?_ (by simp)
      refine ownWalk_nil ?_
      intro w' hc0 hD
      have hb := hc0.nil_
      obtain ⟨hxge, hx⟩ := hD.box.get (x := ⟨2, .ptr, (.cells #[.int .i64 0, .int .i64 0, .int .i64 0, .int .i64 0] 99), 4, (.cells #[.int .i64 x, .int .i64 y, .int .i64 rw', .int .i64 rh] 99)⟩) (o := (.cells #[.int .i64 x, .int .i64 y, .int .i64 rw', .int .i64 rh] 99)) (by simp) rfl rfl
      replace hx : Blk _ _ _ _ := hx
      obtain ⟨hyge, hy⟩ := hD.box.get (x := ⟨3, .ptr, (.cells #[.int .i64 0, .int .i64 0, .int .i64 0, .int .i64 0] 99), 5, (.cells #[.int .i64 x, .int .i64 y, .int .i64 rw', .int .i64 rh] 99)⟩) (o := (.cells #[.int .i64 x, .int .i64 y, .int .i64 rw', .int .i64 rh] 99)) (by simp) rfl rfl
      replace hy : Blk _ _ _ _ := hy
      have hx_hy := hD.box.apart (x := ⟨2, .ptr, (.cells #[.int .i64 0, .int .i64 0, .int .i64 0, .int .i64 0] 99), 4, (.cells #[.int .i64 x, .int .i64 y, .int .i64 rw', .int .i64 rh] 99)⟩) (y := ⟨3, .ptr, (.cells #[.int .i64 0, .int .i64 0, .int .i64 0, .int .i64 0] 99), 5, (.cells #[.int .i64 x, .int .i64 y, .int .i64 rw', .int .i64 rh] 99)⟩) (by simp) (by simp) (by simp) rfl rfl
      clear hD
      try simp only [List.drop_succ_cons, List.drop_zero]
      clear z_q0 z_q1 z_q2 z_q3 z_r0 z_r1 z_r2 z_r3
      clear q0 q1 q2 q3 r0 r1 r2 r3
      replace hk := hk.below hb hk.lt
      replace hr := hr.below hb hr.lt
      replace hX := LC.below hX hb
      clear hb hok hc0
      obtain ⟨W, rfl⟩ : ∃ W : World, W = w' := ⟨_, rfl⟩
      have q0 := hk.cell_ 0 rfl
      have q1 := hk.cell_ 1 rfl
      have q2 := hk.cell_ 2 rfl
      have q3 := hk.cell_ 3 rfl
      have r0 := hr.cell_ 0 rfl
      have r1 := hr.cell_ 1 rfl
      have r2 := hr.cell_ 2 rfl
      have r3 := hr.cell_ 3 rfl
      have a0 := hx.cell_ 0 rfl
      have a1 := hx.cell_ 1 rfl
      have a2 := hx.cell_ 2 rfl
      have a3 := hx.cell_ 3 rfl
      have b0 := hy.cell_ 0 rfl
      have b1 := hy.cell_ 1 rfl
      have b2 := hy.cell_ 2 rfl
      have b3 := hy.cell_ 3 rfl
      go_upto_region 4 with fail
      have hr2 := HR.out
      cases hr2 with
      | waste =>
        obtain ⟨h1, -, -, -, -⟩ := hX.tr.head
        have h1' : op = 0 := h1
        subst h1'
        have HGF : Hid (goneT K (kdL kl) (.node 0 0 0 []) rw' rh = false) := by show _ = _; simp [goneT, HNR.out]
        clear hk hr hx hy
        have HX := hide hX
        clear hX h1
        go_wp2_with fail
        refine bodyPost_ret (v := .tuple #[]) (results_none rfl _ _ _) rfl ?_
        refine ⟨rfl, HX.out.bl, HX.out.op, pl, s, ?_, by omega, fun _ => ⟨by simp [placesT], by simp [smallT]⟩⟩
        rw [HGF.out, HGN.out]
        exact HX.out.la
      | piece pc' p1 p2 =>
        obtain ⟨h1, -, h3, -, -⟩ := hX.tr.head
        have h1' : op = 1 := h1
        subst h1'
        obtain ⟨m, rfl⟩ : ∃ m, pc' = 97 + m := ⟨pc' - 97, by omega⟩
        have hpc : pc = 97 + (m : Int) := by have : pc = ((97 + m : Nat) : Int) := h3; omega
        have hm25 : m ≤ 25 := by omega
        have hM2 : pl.length + 1 ≤ 1000000000 := by have := HM.out; simpa [pcsT] using this
        have HPC := hide hpc
        clear hx hy h1 h3 hpc p1 p2
        go_wp2_with fail
        refine (put_any B ly K A kl c pl g s pc m x y rw' rh W HPC.out hm25 hX.la hly hX.sl hkl hM2).mono ?_
        rintro e W2 ⟨rfl, hb2, ho2, hno, hyes⟩
        have hbl := hX.bl.trans hb2
        have hop := hX.op.trans ho2
        clear hX hk hr hb2 ho2
        go_wp2_with fail
        refine bodyPost_ret (v := .tuple #[]) (results_none rfl _ _ _) rfl ?_
        have e9 : ((97 + m : Nat) : Int) = pc := by rw [HPC.out]; push_cast; rfl
        rw [e9]
        have HG0 : goneT K (kdL kl) (.node 1 0 pc []) rw' rh = (false || decide (kl.length ≤ m)) := by
          simp only [goneT, kdL_len, HNR.out, decide_true, Bool.true_and]
          rw [show decide ((kl.length : Int) ≤ pc - 97) = decide (kl.length ≤ m) from decide_eq_decide.2 (by have := HPC.out; omega)]
        by_cases hm : kl.length ≤ m
        · rw [decide_eq_true hm, Bool.or_true] at HG0
          refine ⟨rfl, hbl, hop, pl, s, ?_, by omega, fun h => by rw [HG0] at h; cases h⟩
          rw [HG0, Bool.or_true]; exact hno hm
        · rw [decide_eq_false hm, Bool.or_false] at HG0
          obtain ⟨q, hq⟩ : ∃ q, kl[m]? = some q := ⟨_, List.getElem?_eq_getElem (by omega)⟩
          have e8 : (pc - 97).toNat = m := by have := HPC.out; omega
          refine ⟨rfl, hbl, hop, pl ++ [⟨pc, x, y, q.a, q.b⟩], s || (decide (rw' < q.a) || decide (rh < q.b)), ?_, by simp [pcsT], fun _ => ⟨?_, ?_⟩⟩
          · rw [HG0, HGN.out]; exact hyes q hq
          · simp only [placesT, if_true]
            rw [e8, kdL_get, hq]; rfl
          · simp only [smallT, decide_true, Bool.true_and]
            rw [e8, kdL_get, hq]; rfl
      | cut op' n' ta tb hop hn1 hn2 hra hrb =>
        obtain ⟨h1, h2, h3, h4, -⟩ := hX.tr.head
        have h1' : op = op' := h1
        have h2' : n = (n' : Int) := h2
        have h4' : k = 2 := h4
        have hn : 1 ≤ (n' : Int) ∧ (n' : Int) ≤ 1000 := by omega
        generalize hnn : (n' : Int) = nn at *
        have HNN := hide hnn
        clear hnn
        subst h1' h2' h4'
        have HRA := hide hra
        have HRB := hide hrb
        have HN := hide hn
        have HPC : Hid (pl.length + (pcsT ta ++ pcsT tb).length ≤ 1000000000) := HM.out
        clear hn hn1 hn2 hra hrb h1 h2 h3 h4
        rcases hop with rfl | rfl
        · have HG : Hid (goneT K (kdL kl) (.node 2 n 0 [ta, tb]) rw' rh = (false || (goneT K (kdL kl) ta rw' n || goneT K (kdL kl) tb rw' (rh - n - K)))) := by show _ = _; rw [goneT, HNR.out, if_pos rfl]
          have HPL : Hid (placesT K (kdL kl) (.node 2 n 0 [ta, tb]) x y rw' rh = placesT K (kdL kl) ta x y rw' n ++ placesT K (kdL kl) tb x (y + n + K) rw' (rh - n - K)) := by show _ = _; rw [placesT, if_pos rfl]
          have HSM : Hid (smallT K (kdL kl) (.node 2 n 0 [ta, tb]) rw' rh = (smallT K (kdL kl) ta rw' n || smallT K (kdL kl) tb rw' (rh - n - K))) := by show _ = _; rw [smallT, if_pos rfl]
          have h2 := HN.out
          have h3 := hK
          have h4 := HBD.out
          unfold Rb at h4
          have e1 : IntKind.i64.wrap (y + n) = y + n := IntWalk.i64_in _ (by omega)
          have e2 : IntKind.i64.wrap (y + n + K) = y + n + K := IntWalk.i64_in _ (by omega)
          have e3 : IntKind.i64.wrap (rh - n) = rh - n := IntWalk.i64_in _ (by omega)
          have e4 : IntKind.i64.wrap (rh - n - K) = rh - n - K := IntWalk.i64_in _ (by omega)
          clear h2 h3 h4
          go_upto_region 9 with (refine wpList_store_at rfl 3 _ _ rfl (.int .i64 n) hx rfl rfl (by kernel_rfl) rfl (by simp) rfl ?_; intro W3 hx3 hc3)
          have hx4 : Blk W3 hxb 99 #[.int .i64 x, .int .i64 y, .int .i64 rw', .int .i64 n] := hx3
          replace hX := hX.chgF hc3 hx (by decide) (by omega)
          replace hk := hk.chg1 hc3 (by omega)
          replace hr := hr.chg1 hc3 (by omega)
          replace hy := hy.chg1 hc3 (by omega)
          clear hx hx3 hc3 q0 q1 q2 q3 r0 r1 r2 r3 a0 a1 a2 a3 b0 b1 b2 b3
          obtain ⟨W, rfl⟩ : ∃ X : World, X = W3 := ⟨_, rfl⟩
          obtain ⟨v, hU, hO⟩ := hX.la
          have u0 := hU.cell_ 0 (v := .int .i64 K) rfl
          clear hU hO
          try dsimp only [Act.put]
          have q0 := hk.cell_ 0 rfl
          have q1 := hk.cell_ 1 rfl
          have q2 := hk.cell_ 2 rfl
          have q3 := hk.cell_ 3 rfl
          have r0 := hr.cell_ 0 rfl
          have r1 := hr.cell_ 1 rfl
          have r2 := hr.cell_ 2 rfl
          have r3 := hr.cell_ 3 rfl
          have b0 := hy.cell_ 0 rfl
          have b1 := hy.cell_ 1 rfl
          have b2 := hy.cell_ 2 rfl
          have b3 := hy.cell_ 3 rfl
          have a0 := hx4.cell_ 0 rfl
          have a1 := hx4.cell_ 1 rfl
          have a2 := hx4.cell_ 2 rfl
          have a3 := hx4.cell_ 3 rfl
          go_wp2_with fail
          have hok : FldOk W ([]) [⟨21, hyb, 99, (#[.int .i64 x, .int .i64 y, .int .i64 rw', .int .i64 rh]), ((#[.int .i64 x, .int .i64 y, .int .i64 rw', .int .i64 rh])).setIfInBounds (1) (.int .i64 (y + n + K))⟩] := FldOk.one_ hy.lt (by simp)
          refine wp_region_both 22 [0, 1, 2, 3, 4, 5, 6, 7, 8, 9, 10, 11, 12, 13, 14, 15, 16, 17, 18, 19, 20] [21] [] [⟨21, hyb, 99, (#[.int .i64 x, .int .i64 y, .int .i64 rw', .int .i64 rh]), ((#[.int .i64 x, .int .i64 y, .int .i64 rw', .int .i64 rh])).setIfInBounds (1) (.int .i64 (y + n + K))⟩] (fun f hf => by simp only [List.mem_singleton] at hf; subst hf; exact hy) (by kernel_rfl) (by kernel_rfl) (by kernel_rfl) (by kernel_rfl) (by kernel_rfl) (by simp) ?_
          apply Exists.intro
          refine ⟨fun W1 hc0 => ?_, ?_⟩
          · have hc1 : Chg (fun k => k = hyb) W W1 := hc0.one_
            replace u0 := hc1.cell1 u0 (by show _ ≠ _; (try dsimp only); omega)
            replace hk := hk.chg1 hc1 (by omega)
            replace hr := hr.chg1 hc1 (by omega)
            replace hX := LC.chgF hX hc1 hy (by decide) (by omega)
            replace hx4 := hx4.chg1 hc1 (by omega)
            have q0 := hk.cell_ 0 rfl
            have q1 := hk.cell_ 1 rfl
            have q2 := hk.cell_ 2 rfl
            have q3 := hk.cell_ 3 rfl
            have r0 := hr.cell_ 0 rfl
            have r1 := hr.cell_ 1 rfl
            have r2 := hr.cell_ 2 rfl
            have r3 := hr.cell_ 3 rfl
            have b0 := hy.cell_ 0 rfl
            have b1 := hy.cell_ 1 rfl
            have b2 := hy.cell_ 2 rfl
            have b3 := hy.cell_ 3 rfl
            have a0 := hx4.cell_ 0 rfl
            have a1 := hx4.cell_ 1 rfl
            have a2 := hx4.cell_ 2 rfl
            have a3 := hx4.cell_ 3 rfl
            have y_q0 := Since.cell q0
            have y_q1 := Since.cell q1
            have y_q2 := Since.cell q2
            have y_q3 := Since.cell q3
            have y_r0 := Since.cell r0
            have y_r1 := Since.cell r1
            have y_r2 := Since.cell r2
            have y_r3 := Since.cell r3
            have y_b0 := Since.cell b0
            have y_b1 := Since.cell b1
            have y_b2 := Since.cell b2
            have y_b3 := Since.cell b3
            have y_a0 := Since.cell a0
            have y_a1 := Since.cell a1
            have y_a2 := Since.cell a2
            have y_a3 := Since.cell a3
            have y_u0 := Since.cell u0
            dsimp only [pick, List.filterMap, List.getElem?_cons_succ, List.getElem?_cons_zero]
            repeat (go_big_quiet_step ((fail)))
            exact wpQuiet_nil rfl
          · refine ownWalk_put (i := 1) (v := .int .i64 (y + n + K)) ⟨21, hyb, 99, (#[.int .i64 x, .int .i64 y, .int .i64 rw', .int .i64 rh]), ((#[.int .i64 x, .int .i64 y, .int .i64 rw', .int .i64 rh])).setIfInBounds (1) (.int .i64 (y + n + K))⟩ hok (by simp) rfl rfl rfl rfl rfl rfl rfl (by kernel_rfl) rfl (by simp) rfl rfl (by simp) ?_
            refine ownWalk_nil ?_
            intro w' hc0 hD
            have hc1 : Chg (fun k => k = hyb) W w' := hc0.one_
            have n_hy := hD.get (f := ⟨21, hyb, 99, (#[.int .i64 x, .int .i64 y, .int .i64 rw', .int .i64 rh]), ((#[.int .i64 x, .int .i64 y, .int .i64 rw', .int .i64 rh])).setIfInBounds (1) (.int .i64 (y + n + K))⟩) (by simp) rfl
            clear hD
            try simp only [List.drop_succ_cons, List.drop_zero]
            replace u0 := hc1.cell1 u0 (by show _ ≠ _; (try dsimp only); omega)
            clear q0 q1 q2 q3 r0 r1 r2 r3 b0 b1 b2 b3 a0 a1 a2 a3
            replace hk := hk.chg1 hc1 (by omega)
            replace hr := hr.chg1 hc1 (by omega)
            replace hX := LC.chgF hX hc1 hy (by decide) (by omega)
            replace hx4 := hx4.chg1 hc1 (by omega)
            clear hy
            have hy := n_hy
            clear n_hy hc1 hc0 hok
            dsimp only at hy
            obtain ⟨W, rfl⟩ : ∃ W : World, W = w' := ⟨_, rfl⟩
            have q0 := hk.cell_ 0 rfl
            have q1 := hk.cell_ 1 rfl
            have q2 := hk.cell_ 2 rfl
            have q3 := hk.cell_ 3 rfl
            have r0 := hr.cell_ 0 rfl
            have r1 := hr.cell_ 1 rfl
            have r2 := hr.cell_ 2 rfl
            have r3 := hr.cell_ 3 rfl
            have b0 := hy.cell_ 0 rfl
            have b1 := hy.cell_ 1 rfl
            have b2 := hy.cell_ 2 rfl
            have b3 := hy.cell_ 3 rfl
            have a0 := hx4.cell_ 0 rfl
            have a1 := hx4.cell_ 1 rfl
            have a2 := hx4.cell_ 2 rfl
            have a3 := hx4.cell_ 3 rfl
            have hy6 : Blk W hyb 99 #[.int .i64 x, .int .i64 (y + n + K), .int .i64 rw', .int .i64 rh] := hy
            clear hy
            go_upto_region 13 with (refine wpList_store_at rfl 3 _ _ rfl (.int .i64 (rh - n - K)) hy6 rfl rfl (by kernel_rfl) rfl (by simp) rfl ?_; intro W4 hy4 hc4)
            try dsimp only [Act.put]
            have hy5 : Blk W4 hyb 99 #[.int .i64 x, .int .i64 (y + n + K), .int .i64 rw', .int .i64 (rh - n - K)] := hy4
            replace hX := hX.chgF hc4 hy6 (by decide) (by omega)
            replace hk := hk.chg1 hc4 (by omega)
            replace hr := hr.chg1 hc4 (by omega)
            replace hx4 := hx4.chg1 hc4 (by omega)
            clear hy6 hy4 hc4 u0 e1 e2 e3 e4
            try clear q0 q1 q2 q3
            try clear r0 r1 r2 r3
            try clear a0 a1 a2 a3
            try clear b0 b1 b2 b3
            obtain ⟨W, rfl⟩ : ∃ X : World, X = W4 := ⟨_, rfl⟩
            obtain ⟨t', o1, n1, p1, A1, k1, d1, pb, off, ht, hA, _, hT1, d0, d1', d2, d3⟩ := part_at hX.tr (i := 0) (by simp [Tree.ts])
            dsimp only at hA
            obtain rfl : ta = t' := by simpa [Tree.ts] using ht
            subst hA
            simp only [Nat.zero_mul, Nat.add_zero] at d0 d1' d2 d3
            clear ht
            have HBW : Hid (B ≤ W.heap.size) := hX.size
            have q0 := hk.cell_ 0 rfl
            have q1 := hk.cell_ 1 rfl
            have q2 := hk.cell_ 2 rfl
            have q3 := hk.cell_ 3 rfl
            have r0 := hr.cell_ 0 rfl
            have r1 := hr.cell_ 1 rfl
            have r2 := hr.cell_ 2 rfl
            have r3 := hr.cell_ 3 rfl
            have a0 := hx4.cell_ 0 rfl
            have a1 := hx4.cell_ 1 rfl
            have a2 := hx4.cell_ 2 rfl
            have a3 := hx4.cell_ 3 rfl
            have b0 := hy5.cell_ 0 rfl
            have b1 := hy5.cell_ 1 rfl
            have b2 := hy5.cell_ 2 rfl
            have b3 := hy5.cell_ 3 rfl
            go_wp2_with fail
            refine wp_region_quiet_tail (C := fun w' => ∃ u : Since W, w' = u.w) 6 (by kernel_rfl) (by kernel_rfl) (Since.start W) ?_
            simp only [List.take_succ_cons, List.take_zero, List.drop_succ_cons, List.drop_zero]
            have y_q0 := Since.cell q0
            have y_q1 := Since.cell q1
            have y_q2 := Since.cell q2
            have y_q3 := Since.cell q3
            have y_r0 := Since.cell r0
            have y_r1 := Since.cell r1
            have y_r2 := Since.cell r2
            have y_r3 := Since.cell r3
            have y_a0 := Since.cell a0
            have y_a1 := Since.cell a1
            have y_a2 := Since.cell a2
            have y_a3 := Since.cell a3
            have y_b0 := Since.cell b0
            have y_b1 := Since.cell b1
            have y_b2 := Since.cell b2
            have y_b3 := Since.cell b3
            have y_d0 := Since.cell d0
            have y_d1' := Since.cell d1'
            have y_d2 := Since.cell d2
            have y_d3 := Since.cell d3
            clear q0 q1 q2 q3 r0 r1 r2 r3 a0 a1 a2 a3 b0 b1 b2 b3
            repeat (go_big_quiet_step ((fail)))
            refine wpQuiet_nil ?_
            rintro W ⟨⟨_, hb⟩, rfl⟩
            try dsimp only at hb ⊢
            replace d0 : W.cell? _ = _ := y_d0 ⟨W, hb⟩
            replace d1' : W.cell? _ = _ := y_d1' ⟨W, hb⟩
            replace d2 : W.cell? _ = _ := y_d2 ⟨W, hb⟩
            replace d3 : W.cell? _ = _ := y_d3 ⟨W, hb⟩
            clear y_q0 y_q1 y_q2 y_q3 y_r0 y_r1 y_r2 y_r3 y_a0 y_a1 y_a2 y_a3 y_b0 y_b1 y_b2 y_b3 y_d0 y_d1' y_d2 y_d3
            replace hk := hk.below hb hk.lt
            replace hr := hr.below hb hr.lt
            replace hX := LC.below hX hb
            replace hx4 := hx4.below hb hx4.lt
            replace hy5 := hy5.below hb hy5.lt
            replace hT1 := TreeAt.belowBP hT1 (Below.mono hb HBW.out)
            clear hb
            have q0 := hk.cell_ 0 rfl
            have q1 := hk.cell_ 1 rfl
            have q2 := hk.cell_ 2 rfl
            have q3 := hk.cell_ 3 rfl
            have r0 := hr.cell_ 0 rfl
            have r1 := hr.cell_ 1 rfl
            have r2 := hr.cell_ 2 rfl
            have r3 := hr.cell_ 3 rfl
            have a0 := hx4.cell_ 0 rfl
            have a1 := hx4.cell_ 1 rfl
            have a2 := hx4.cell_ 2 rfl
            have a3 := hx4.cell_ 3 rfl
            have b0 := hy5.cell_ 0 rfl
            have b1 := hy5.cell_ 1 rfl
            have b2 := hy5.cell_ 2 rfl
            have b3 := hy5.cell_ 3 rfl
            clear HBW
            go_wp2_with fail
            refine (HH.out ta o1 n1 p1 A1 k1 d1 B ly K A kl c pl g s x y rw' n W HRA.out hT1 hX.la hly hX.sl hkl hK (by have h9 := HBD.out; have h8 := HN.out; unfold Rb at h9 ⊢; push_cast at h9; omega) (by have h9 := HPC.out; rw [List.length_append] at h9; omega)).mono ?_
            rintro e W2 ⟨rfl, hb2, ho2, pl1, s1, hl1, hn1, hr1⟩
            replace hX := hX.step hb2 ho2 hl1
            replace hk := hk.opl ho2 (by omega) (by decide)
            replace hr := hr.opl ho2 (by omega) (by decide)
            replace hy5 := hy5.opl ho2 (by omega) (by decide)
            have HR1 := hide hr1
            have HN1 := hide hn1
            clear hx4 hT1 hb2 ho2 hl1 hn1 hr1 d0 d1' d2 d3
            try clear q0 q1 q2 q3
            try clear r0 r1 r2 r3
            try clear a0 a1 a2 a3
            try clear b0 b1 b2 b3
            obtain ⟨W, rfl⟩ : ∃ X : World, X = W2 := ⟨_, rfl⟩
            obtain ⟨t', o1, n1, p1, A1, k1, d1, pb2, off2, ht, hA, _, hT1, d0, d1', d2, d3⟩ := part_at hX.tr (i := 1) (by simp [Tree.ts])
            dsimp only at hA
            obtain rfl : tb = t' := by simpa [Tree.ts] using ht
            injection hA with hA
            injection hA with hA1 hA2
            subst hA1 hA2
            simp only [Nat.one_mul] at d0 d1' d2 d3
            clear ht
            have HBW : Hid (B ≤ W.heap.size) := hX.size
            have q0 := hk.cell_ 0 rfl
            have q1 := hk.cell_ 1 rfl
            have q2 := hk.cell_ 2 rfl
            have q3 := hk.cell_ 3 rfl
            have r0 := hr.cell_ 0 rfl
            have r1 := hr.cell_ 1 rfl
            have r2 := hr.cell_ 2 rfl
            have r3 := hr.cell_ 3 rfl
            have b0 := hy5.cell_ 0 rfl
            have b1 := hy5.cell_ 1 rfl
            have b2 := hy5.cell_ 2 rfl
            have b3 := hy5.cell_ 3 rfl
            go_wp2_with fail
            refine wp_region_quiet_tail (C := fun w' => ∃ u : Since W, w' = u.w) 6 (by kernel_rfl) (by kernel_rfl) (Since.start W) ?_
            simp only [List.take_succ_cons, List.take_zero, List.drop_succ_cons, List.drop_zero]
            have y_q0 := Since.cell q0
            have y_q1 := Since.cell q1
            have y_q2 := Since.cell q2
            have y_q3 := Since.cell q3
            have y_r0 := Since.cell r0
            have y_r1 := Since.cell r1
            have y_r2 := Since.cell r2
            have y_r3 := Since.cell r3
            have y_b0 := Since.cell b0
            have y_b1 := Since.cell b1
            have y_b2 := Since.cell b2
            have y_b3 := Since.cell b3
            have y_d0 := Since.cell d0
            have y_d1' := Since.cell d1'
            have y_d2 := Since.cell d2
            have y_d3 := Since.cell d3
            clear q0 q1 q2 q3 r0 r1 r2 r3 b0 b1 b2 b3
            repeat (go_big_quiet_step ((fail)))
            refine wpQuiet_nil ?_
            rintro W ⟨⟨_, hb⟩, rfl⟩
            try dsimp only at hb ⊢
            replace d0 : W.cell? _ = _ := y_d0 ⟨W, hb⟩
            replace d1' : W.cell? _ = _ := y_d1' ⟨W, hb⟩
            replace d2 : W.cell? _ = _ := y_d2 ⟨W, hb⟩
            replace d3 : W.cell? _ = _ := y_d3 ⟨W, hb⟩
            clear y_q0 y_q1 y_q2 y_q3 y_r0 y_r1 y_r2 y_r3 y_b0 y_b1 y_b2 y_b3 y_d0 y_d1' y_d2 y_d3
            replace hk := hk.below hb hk.lt
            replace hr := hr.below hb hr.lt
            replace hX := LC.below hX hb
            replace hy5 := hy5.below hb hy5.lt
            replace hT1 := TreeAt.belowBP hT1 (Below.mono hb HBW.out)
            clear hb
            have q0 := hk.cell_ 0 rfl
            have q1 := hk.cell_ 1 rfl
            have q2 := hk.cell_ 2 rfl
            have q3 := hk.cell_ 3 rfl
            have r0 := hr.cell_ 0 rfl
            have r1 := hr.cell_ 1 rfl
            have r2 := hr.cell_ 2 rfl
            have r3 := hr.cell_ 3 rfl
            have b0 := hy5.cell_ 0 rfl
            have b1 := hy5.cell_ 1 rfl
            have b2 := hy5.cell_ 2 rfl
            have b3 := hy5.cell_ 3 rfl
            clear HBW
            go_wp2_with fail
            refine (HH.out tb o1 n1 p1 A1 k1 d1 B ly K A kl c pl1 (g || goneT K (kdL kl) ta rw' n) s1 x (y + n + K) rw' (rh - n - K) W HRB.out hT1 hX.la hly hX.sl hkl hK (by have h9 := HBD.out; have h8 := HN.out; unfold Rb at h9 ⊢; push_cast at h9; omega) (by have h9 := HPC.out; have h8 := HN1.out; rw [List.length_append] at h9; omega)).mono ?_
            rintro e W2 ⟨rfl, hb2, ho2, pl2, s2, hl2, hn2, hr2⟩
            replace hX := hX.step hb2 ho2 hl2
            have HX := hide hX
            have HR2 := hide hr2
            have HN2 := hide hn2
            clear hX hk hr hy5 hT1 hb2 ho2 hl2 hn2 hr2 d0 d1' d2 d3
            try clear q0 q1 q2 q3
            try clear r0 r1 r2 r3
            try clear b0 b1 b2 b3
            go_wp2_with fail
            refine bodyPost_ret (v := .tuple #[]) (results_none rfl _ _ _) rfl ?_
            refine ⟨rfl, HX.out.bl, HX.out.op, pl2, s2, by (try rw [HNN.out]); rw [HG.out, ← Bool.or_assoc, HGN.out, ← Bool.or_assoc]; exact HX.out.la, ?_, fun h => ?_⟩
            · have h1 := HN1.out
              have h2 := HN2.out
              show pl2.length ≤ pl.length + (pcsT ta ++ pcsT tb).length
              rw [List.length_append]; omega
            · try rw [HNN.out] at h
              try rw [HNN.out]
              rw [HG.out, Bool.or_eq_false_iff, Bool.or_eq_false_iff] at h
              obtain ⟨a1, a2⟩ := HR1.out h.2.1
              obtain ⟨b1, b2⟩ := HR2.out h.2.2
              exact ⟨by rw [HPL.out, b1, a1, List.append_assoc], by rw [HSM.out, b2, a2, Bool.or_assoc]⟩
        · have HG : Hid (goneT K (kdL kl) (.node 3 n 0 [ta, tb]) rw' rh = (false || (goneT K (kdL kl) ta n rh || goneT K (kdL kl) tb (rw' - n - K) rh))) := by show _ = _; rw [goneT, HNR.out, if_neg (by decide)]
          have HPL : Hid (placesT K (kdL kl) (.node 3 n 0 [ta, tb]) x y rw' rh = placesT K (kdL kl) ta x y n rh ++ placesT K (kdL kl) tb (x + n + K) y (rw' - n - K) rh) := by show _ = _; rw [placesT, if_neg (by decide)]
          have HSM : Hid (smallT K (kdL kl) (.node 3 n 0 [ta, tb]) rw' rh = (smallT K (kdL kl) ta n rh || smallT K (kdL kl) tb (rw' - n - K) rh)) := by show _ = _; rw [smallT, if_neg (by decide)]
          have h2 := HN.out
          have h3 := hK
          have h4 := HBD.out
          unfold Rb at h4
          have e1 : IntKind.i64.wrap (x + n) = x + n := IntWalk.i64_in _ (by omega)
          have e2 : IntKind.i64.wrap (x + n + K) = x + n + K := IntWalk.i64_in _ (by omega)
          have e3 : IntKind.i64.wrap (rw' - n) = rw' - n := IntWalk.i64_in _ (by omega)
          have e4 : IntKind.i64.wrap (rw' - n - K) = rw' - n - K := IntWalk.i64_in _ (by omega)
          clear h2 h3 h4
          go_upto_region 12 with (refine wpList_store_at rfl 3 _ _ rfl (.int .i64 n) hx rfl rfl (by kernel_rfl) rfl (by simp) rfl ?_; intro W3 hx3 hc3)
          have hx4 : Blk W3 hxb 99 #[.int .i64 x, .int .i64 y, .int .i64 n, .int .i64 rh] := hx3
          replace hX := hX.chgF hc3 hx (by decide) (by omega)
          replace hk := hk.chg1 hc3 (by omega)
          replace hr := hr.chg1 hc3 (by omega)
          replace hy := hy.chg1 hc3 (by omega)
          clear hx hx3 hc3 q0 q1 q2 q3 r0 r1 r2 r3 a0 a1 a2 a3 b0 b1 b2 b3
          obtain ⟨W, rfl⟩ : ∃ X : World, X = W3 := ⟨_, rfl⟩
          obtain ⟨v, hU, hO⟩ := hX.la
          have u0 := hU.cell_ 0 (v := .int .i64 K) rfl
          clear hU hO
          try dsimp only [Act.put]
          have q0 := hk.cell_ 0 rfl
          have q1 := hk.cell_ 1 rfl
          have q2 := hk.cell_ 2 rfl
          have q3 := hk.cell_ 3 rfl
          have r0 := hr.cell_ 0 rfl
          have r1 := hr.cell_ 1 rfl
          have r2 := hr.cell_ 2 rfl
          have r3 := hr.cell_ 3 rfl
          have b0 := hy.cell_ 0 rfl
          have b1 := hy.cell_ 1 rfl
          have b2 := hy.cell_ 2 rfl
          have b3 := hy.cell_ 3 rfl
          have a0 := hx4.cell_ 0 rfl
          have a1 := hx4.cell_ 1 rfl
          have a2 := hx4.cell_ 2 rfl
          have a3 := hx4.cell_ 3 rfl
          go_wp2_with fail
          have hok : FldOk W ([]) [⟨21, hyb, 99, (#[.int .i64 x, .int .i64 y, .int .i64 rw', .int .i64 rh]), ((#[.int .i64 x, .int .i64 y, .int .i64 rw', .int .i64 rh])).setIfInBounds (0) (.int .i64 (x + n + K))⟩] := FldOk.one_ hy.lt (by simp)
          refine wp_region_both 22 [0, 1, 2, 3, 4, 5, 6, 7, 8, 9, 10, 11, 12, 13, 14, 15, 16, 17, 18, 19, 20] [21] [] [⟨21, hyb, 99, (#[.int .i64 x, .int .i64 y, .int .i64 rw', .int .i64 rh]), ((#[.int .i64 x, .int .i64 y, .int .i64 rw', .int .i64 rh])).setIfInBounds (0) (.int .i64 (x + n + K))⟩] (fun f hf => by simp only [List.mem_singleton] at hf; subst hf; exact hy) (by kernel_rfl) (by kernel_rfl) (by kernel_rfl) (by kernel_rfl) (by kernel_rfl) (by simp) ?_
          apply Exists.intro
          refine ⟨fun W1 hc0 => ?_, ?_⟩
          · have hc1 : Chg (fun k => k = hyb) W W1 := hc0.one_
            replace u0 := hc1.cell1 u0 (by show _ ≠ _; (try dsimp only); omega)
            replace hk := hk.chg1 hc1 (by omega)
            replace hr := hr.chg1 hc1 (by omega)
            replace hX := LC.chgF hX hc1 hy (by decide) (by omega)
            replace hx4 := hx4.chg1 hc1 (by omega)
            have q0 := hk.cell_ 0 rfl
            have q1 := hk.cell_ 1 rfl
            have q2 := hk.cell_ 2 rfl
            have q3 := hk.cell_ 3 rfl
            have r0 := hr.cell_ 0 rfl
            have r1 := hr.cell_ 1 rfl
            have r2 := hr.cell_ 2 rfl
            have r3 := hr.cell_ 3 rfl
            have b0 := hy.cell_ 0 rfl
            have b1 := hy.cell_ 1 rfl
            have b2 := hy.cell_ 2 rfl
            have b3 := hy.cell_ 3 rfl
            have a0 := hx4.cell_ 0 rfl
            have a1 := hx4.cell_ 1 rfl
            have a2 := hx4.cell_ 2 rfl
            have a3 := hx4.cell_ 3 rfl
            have y_q0 := Since.cell q0
            have y_q1 := Since.cell q1
            have y_q2 := Since.cell q2
            have y_q3 := Since.cell q3
            have y_r0 := Since.cell r0
            have y_r1 := Since.cell r1
            have y_r2 := Since.cell r2
            have y_r3 := Since.cell r3
            have y_b0 := Since.cell b0
            have y_b1 := Since.cell b1
            have y_b2 := Since.cell b2
            have y_b3 := Since.cell b3
            have y_a0 := Since.cell a0
            have y_a1 := Since.cell a1
            have y_a2 := Since.cell a2
            have y_a3 := Since.cell a3
            have y_u0 := Since.cell u0
            dsimp only [pick, List.filterMap, List.getElem?_cons_succ, List.getElem?_cons_zero]
            repeat (go_big_quiet_step ((fail)))
            exact wpQuiet_nil rfl
          · refine ownWalk_put (i := 0) (v := .int .i64 (x + n + K)) ⟨21, hyb, 99, (#[.int .i64 x, .int .i64 y, .int .i64 rw', .int .i64 rh]), ((#[.int .i64 x, .int .i64 y, .int .i64 rw', .int .i64 rh])).setIfInBounds (0) (.int .i64 (x + n + K))⟩ hok (by simp) rfl rfl rfl rfl rfl rfl rfl (by kernel_rfl) rfl (by simp) rfl rfl (by simp) ?_
            refine ownWalk_nil ?_
            intro w' hc0 hD
            have hc1 : Chg (fun k => k = hyb) W w' := hc0.one_
            have n_hy := hD.get (f := ⟨21, hyb, 99, (#[.int .i64 x, .int .i64 y, .int .i64 rw', .int .i64 rh]), ((#[.int .i64 x, .int .i64 y, .int .i64 rw', .int .i64 rh])).setIfInBounds (0) (.int .i64 (x + n + K))⟩) (by simp) rfl
            clear hD
            try simp only [List.drop_succ_cons, List.drop_zero]
            replace u0 := hc1.cell1 u0 (by show _ ≠ _; (try dsimp only); omega)
            clear q0 q1 q2 q3 r0 r1 r2 r3 b0 b1 b2 b3 a0 a1 a2 a3
            replace hk := hk.chg1 hc1 (by omega)
            replace hr := hr.chg1 hc1 (by omega)
            replace hX := LC.chgF hX hc1 hy (by decide) (by omega)
            replace hx4 := hx4.chg1 hc1 (by omega)
            clear hy
            have hy := n_hy
            clear n_hy hc1 hc0 hok
            dsimp only at hy
            obtain ⟨W, rfl⟩ : ∃ W : World, W = w' := ⟨_, rfl⟩
            have q0 := hk.cell_ 0 rfl
            have q1 := hk.cell_ 1 rfl
            have q2 := hk.cell_ 2 rfl
            have q3 := hk.cell_ 3 rfl
            have r0 := hr.cell_ 0 rfl
            have r1 := hr.cell_ 1 rfl
            have r2 := hr.cell_ 2 rfl
            have r3 := hr.cell_ 3 rfl
            have b0 := hy.cell_ 0 rfl
            have b1 := hy.cell_ 1 rfl
            have b2 := hy.cell_ 2 rfl
            have b3 := hy.cell_ 3 rfl
            have a0 := hx4.cell_ 0 rfl
            have a1 := hx4.cell_ 1 rfl
            have a2 := hx4.cell_ 2 rfl
            have a3 := hx4.cell_ 3 rfl
            have hy6 : Blk W hyb 99 #[.int .i64 (x + n + K), .int .i64 y, .int .i64 rw', .int .i64 rh] := hy
            clear hy
            go_upto_region 13 with (refine wpList_store_at rfl 3 _ _ rfl (.int .i64 (rw' - n - K)) hy6 rfl rfl (by kernel_rfl) rfl (by simp) rfl ?_; intro W4 hy4 hc4)
            try dsimp only [Act.put]
            have hy5 : Blk W4 hyb 99 #[.int .i64 (x + n + K), .int .i64 y, .int .i64 (rw' - n - K), .int .i64 rh] := hy4
            replace hX := hX.chgF hc4 hy6 (by decide) (by omega)
            replace hk := hk.chg1 hc4 (by omega)
            replace hr := hr.chg1 hc4 (by omega)
            replace hx4 := hx4.chg1 hc4 (by omega)
            clear hy6 hy4 hc4 u0 e1 e2 e3 e4
            try clear q0 q1 q2 q3
            try clear r0 r1 r2 r3
            try clear a0 a1 a2 a3
            try clear b0 b1 b2 b3
            obtain ⟨W, rfl⟩ : ∃ X : World, X = W4 := ⟨_, rfl⟩
            obtain ⟨t', o1, n1, p1, A1, k1, d1, pb, off, ht, hA, _, hT1, d0, d1', d2, d3⟩ := part_at hX.tr (i := 0) (by simp [Tree.ts])
            dsimp only at hA
            obtain rfl : ta = t' := by simpa [Tree.ts] using ht
            subst hA
            simp only [Nat.zero_mul, Nat.add_zero] at d0 d1' d2 d3
            clear ht
            have HBW : Hid (B ≤ W.heap.size) := hX.size
            have q0 := hk.cell_ 0 rfl
            have q1 := hk.cell_ 1 rfl
            have q2 := hk.cell_ 2 rfl
            have q3 := hk.cell_ 3 rfl
            have r0 := hr.cell_ 0 rfl
            have r1 := hr.cell_ 1 rfl
            have r2 := hr.cell_ 2 rfl
            have r3 := hr.cell_ 3 rfl
            have a0 := hx4.cell_ 0 rfl
            have a1 := hx4.cell_ 1 rfl
            have a2 := hx4.cell_ 2 rfl
            have a3 := hx4.cell_ 3 rfl
            have b0 := hy5.cell_ 0 rfl
            have b1 := hy5.cell_ 1 rfl
            have b2 := hy5.cell_ 2 rfl
            have b3 := hy5.cell_ 3 rfl
            go_wp2_with fail
            refine wp_region_quiet_tail (C := fun w' => ∃ u : Since W, w' = u.w) 6 (by kernel_rfl) (by kernel_rfl) (Since.start W) ?_
            simp only [List.take_succ_cons, List.take_zero, List.drop_succ_cons, List.drop_zero]
            have y_q0 := Since.cell q0
            have y_q1 := Since.cell q1
            have y_q2 := Since.cell q2
            have y_q3 := Since.cell q3
            have y_r0 := Since.cell r0
            have y_r1 := Since.cell r1
            have y_r2 := Since.cell r2
            have y_r3 := Since.cell r3
            have y_a0 := Since.cell a0
            have y_a1 := Since.cell a1
            have y_a2 := Since.cell a2
            have y_a3 := Since.cell a3
            have y_b0 := Since.cell b0
            have y_b1 := Since.cell b1
            have y_b2 := Since.cell b2
            have y_b3 := Since.cell b3
            have y_d0 := Since.cell d0
            have y_d1' := Since.cell d1'
            have y_d2 := Since.cell d2
            have y_d3 := Since.cell d3
            clear q0 q1 q2 q3 r0 r1 r2 r3 a0 a1 a2 a3 b0 b1 b2 b3
            repeat (go_big_quiet_step ((fail)))
            refine wpQuiet_nil ?_
            rintro W ⟨⟨_, hb⟩, rfl⟩
            try dsimp only at hb ⊢
            replace d0 : W.cell? _ = _ := y_d0 ⟨W, hb⟩
            replace d1' : W.cell? _ = _ := y_d1' ⟨W, hb⟩
            replace d2 : W.cell? _ = _ := y_d2 ⟨W, hb⟩
            replace d3 : W.cell? _ = _ := y_d3 ⟨W, hb⟩
            clear y_q0 y_q1 y_q2 y_q3 y_r0 y_r1 y_r2 y_r3 y_a0 y_a1 y_a2 y_a3 y_b0 y_b1 y_b2 y_b3 y_d0 y_d1' y_d2 y_d3
            replace hk := hk.below hb hk.lt
            replace hr := hr.below hb hr.lt
            replace hX := LC.below hX hb
            replace hx4 := hx4.below hb hx4.lt
            replace hy5 := hy5.below hb hy5.lt
            replace hT1 := TreeAt.belowBP hT1 (Below.mono hb HBW.out)
            clear hb
            have q0 := hk.cell_ 0 rfl
            have q1 := hk.cell_ 1 rfl
            have q2 := hk.cell_ 2 rfl
            have q3 := hk.cell_ 3 rfl
            have r0 := hr.cell_ 0 rfl
            have r1 := hr.cell_ 1 rfl
            have r2 := hr.cell_ 2 rfl
            have r3 := hr.cell_ 3 rfl
            have a0 := hx4.cell_ 0 rfl
            have a1 := hx4.cell_ 1 rfl
            have a2 := hx4.cell_ 2 rfl
            have a3 := hx4.cell_ 3 rfl
            have b0 := hy5.cell_ 0 rfl
            have b1 := hy5.cell_ 1 rfl
            have b2 := hy5.cell_ 2 rfl
            have b3 := hy5.cell_ 3 rfl
            clear HBW
            go_wp2_with fail
            refine (HH.out ta o1 n1 p1 A1 k1 d1 B ly K A kl c pl g s x y n rh W HRA.out hT1 hX.la hly hX.sl hkl hK (by have h9 := HBD.out; have h8 := HN.out; unfold Rb at h9 ⊢; push_cast at h9; omega) (by have h9 := HPC.out; rw [List.length_append] at h9; omega)).mono ?_
            rintro e W2 ⟨rfl, hb2, ho2, pl1, s1, hl1, hn1, hr1⟩
            replace hX := hX.step hb2 ho2 hl1
            replace hk := hk.opl ho2 (by omega) (by decide)
            replace hr := hr.opl ho2 (by omega) (by decide)
            replace hy5 := hy5.opl ho2 (by omega) (by decide)
            have HR1 := hide hr1
            have HN1 := hide hn1
            clear hx4 hT1 hb2 ho2 hl1 hn1 hr1 d0 d1' d2 d3
            try clear q0 q1 q2 q3
            try clear r0 r1 r2 r3
            try clear a0 a1 a2 a3
            try clear b0 b1 b2 b3
            obtain ⟨W, rfl⟩ : ∃ X : World, X = W2 := ⟨_, rfl⟩
            obtain ⟨t', o1, n1, p1, A1, k1, d1, pb2, off2, ht, hA, _, hT1, d0, d1', d2, d3⟩ := part_at hX.tr (i := 1) (by simp [Tree.ts])
            dsimp only at hA
            obtain rfl : tb = t' := by simpa [Tree.ts] using ht
            injection hA with hA
            injection hA with hA1 hA2
            subst hA1 hA2
            simp only [Nat.one_mul] at d0 d1' d2 d3
            clear ht
            have HBW : Hid (B ≤ W.heap.size) := hX.size
            have q0 := hk.cell_ 0 rfl
            have q1 := hk.cell_ 1 rfl
            have q2 := hk.cell_ 2 rfl
            have q3 := hk.cell_ 3 rfl
            have r0 := hr.cell_ 0 rfl
            have r1 := hr.cell_ 1 rfl
            have r2 := hr.cell_ 2 rfl
            have r3 := hr.cell_ 3 rfl
            have b0 := hy5.cell_ 0 rfl
            have b1 := hy5.cell_ 1 rfl
            have b2 := hy5.cell_ 2 rfl
            have b3 := hy5.cell_ 3 rfl
            go_wp2_with fail
            refine wp_region_quiet_tail (C := fun w' => ∃ u : Since W, w' = u.w) 6 (by kernel_rfl) (by kernel_rfl) (Since.start W) ?_
            simp only [List.take_succ_cons, List.take_zero, List.drop_succ_cons, List.drop_zero]
            have y_q0 := Since.cell q0
            have y_q1 := Since.cell q1
            have y_q2 := Since.cell q2
            have y_q3 := Since.cell q3
            have y_r0 := Since.cell r0
            have y_r1 := Since.cell r1
            have y_r2 := Since.cell r2
            have y_r3 := Since.cell r3
            have y_b0 := Since.cell b0
            have y_b1 := Since.cell b1
            have y_b2 := Since.cell b2
            have y_b3 := Since.cell b3
            have y_d0 := Since.cell d0
            have y_d1' := Since.cell d1'
            have y_d2 := Since.cell d2
            have y_d3 := Since.cell d3
            clear q0 q1 q2 q3 r0 r1 r2 r3 b0 b1 b2 b3
            repeat (go_big_quiet_step ((fail)))
            refine wpQuiet_nil ?_
            rintro W ⟨⟨_, hb⟩, rfl⟩
            try dsimp only at hb ⊢
            replace d0 : W.cell? _ = _ := y_d0 ⟨W, hb⟩
            replace d1' : W.cell? _ = _ := y_d1' ⟨W, hb⟩
            replace d2 : W.cell? _ = _ := y_d2 ⟨W, hb⟩
            replace d3 : W.cell? _ = _ := y_d3 ⟨W, hb⟩
            clear y_q0 y_q1 y_q2 y_q3 y_r0 y_r1 y_r2 y_r3 y_b0 y_b1 y_b2 y_b3 y_d0 y_d1' y_d2 y_d3
            replace hk := hk.below hb hk.lt
            replace hr := hr.below hb hr.lt
            replace hX := LC.below hX hb
            replace hy5 := hy5.below hb hy5.lt
            replace hT1 := TreeAt.belowBP hT1 (Below.mono hb HBW.out)
            clear hb
            have q0 := hk.cell_ 0 rfl
            have q1 := hk.cell_ 1 rfl
            have q2 := hk.cell_ 2 rfl
            have q3 := hk.cell_ 3 rfl
            have r0 := hr.cell_ 0 rfl
            have r1 := hr.cell_ 1 rfl
            have r2 := hr.cell_ 2 rfl
            have r3 := hr.cell_ 3 rfl
            have b0 := hy5.cell_ 0 rfl
            have b1 := hy5.cell_ 1 rfl
            have b2 := hy5.cell_ 2 rfl
            have b3 := hy5.cell_ 3 rfl
            clear HBW
            go_wp2_with fail
            refine (HH.out tb o1 n1 p1 A1 k1 d1 B ly K A kl c pl1 (g || goneT K (kdL kl) ta n rh) s1 (x + n + K) y (rw' - n - K) rh W HRB.out hT1 hX.la hly hX.sl hkl hK (by have h9 := HBD.out; have h8 := HN.out; unfold Rb at h9 ⊢; push_cast at h9; omega) (by have h9 := HPC.out; have h8 := HN1.out; rw [List.length_append] at h9; omega)).mono ?_
            rintro e W2 ⟨rfl, hb2, ho2, pl2, s2, hl2, hn2, hr2⟩
            replace hX := hX.step hb2 ho2 hl2
            have HX := hide hX
            have HR2 := hide hr2
            have HN2 := hide hn2
            clear hX hk hr hy5 hT1 hb2 ho2 hl2 hn2 hr2 d0 d1' d2 d3
            try clear q0 q1 q2 q3
            try clear r0 r1 r2 r3
            try clear b0 b1 b2 b3
            go_wp2_with fail
            refine bodyPost_ret (v := .tuple #[]) (results_none rfl _ _ _) rfl ?_
            refine ⟨rfl, HX.out.bl, HX.out.op, pl2, s2, by (try rw [HNN.out]); rw [HG.out, ← Bool.or_assoc, HGN.out, ← Bool.or_assoc]; exact HX.out.la, ?_, fun h => ?_⟩
            · have h1 := HN1.out
              have h2 := HN2.out
              show pl2.length ≤ pl.length + (pcsT ta ++ pcsT tb).length
              rw [List.length_append]; omega
            · try rw [HNN.out] at h
              try rw [HNN.out]
              rw [HG.out, Bool.or_eq_false_iff, Bool.or_eq_false_iff] at h
              obtain ⟨a1, a2⟩ := HR1.out h.2.1
              obtain ⟨b1, b2⟩ := HR2.out h.2.2
              exact ⟨by rw [HPL.out, b1, a1, List.append_assoc], by rw [HSM.out, b2, a2, Bool.or_assoc]⟩
theorem lay_all : ∀ f, f ≤ 20 → LayWalk f
  | 0, _ => fun t op n pc A' k c' B ly K A kl c pl g s x y rw' rh w _ h => h.elim
  | f + 1, h => lay_step f (by omega) (lay_all f (by omega))
end Go.Proofs.YtecaaimaeaocbaaDoor
