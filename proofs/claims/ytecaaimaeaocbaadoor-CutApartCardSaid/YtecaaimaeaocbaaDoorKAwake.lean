/- The sanity check of chapter 4's laws: the bound of the example, and the letter "a". -/
import Derived.Test.YtecaaimaeaocbaaDoorKPrices
namespace Go.Proofs.YtecaaimaeaocbaaDoor
open Go Go.RowKit
theorem hpi_short (s p : ByteArray) (w : World) (h : s.size < p.size) : Calls Tryd.prog 117 #[.string s, .string p] w fun e w' => e = .returned (.bool false) ∧ w = w' := by
  have h1 : ¬ (p.size : Int) ≤ (s.size : Int) := by omega
  go_enter Tryd.func117, Tryd.ntmps117
  go_wp2_with fail
  go_ret
  exact ⟨rfl, rfl⟩
theorem hp_short (s p : ByteArray) (w : World) (h : s.size < p.size) : Calls Tryd.prog 95 #[.string s, .string p] w fun e w' => e = .returned (.bool false) ∧ w = w' := by
  go_enter Tryd.func95, Tryd.ntmps95
  go_wp2_with fail
  refine (hpi_short s p w h).mono ?_
  rintro e w' ⟨rfl, rfl⟩
  go_wp2_with fail
  go_ret
  exact ⟨rfl, rfl⟩
def sA : ByteArray := ⟨#[97]⟩
def sE : ByteArray := ⟨#[]⟩
set_option maxRecDepth 100000 in
set_option maxHeartbeats 1000000 in
theorem cutA_any (g : Nat) (w : World) (hk : Blk w g 103 #[.string ⟨#[97]⟩, .bool false]) :
    Calls Tryd.prog 74 #[.pointer (some ⟨g, 0, none⟩)] w fun e w' => e = .returned (.agg #[.int .i64 1, .int .i64 0, .int .u8 97, .slice none 0 0]) ∧ Blk w' g 103 #[.string ⟨#[]⟩, .bool false] ∧ Chg (fun k => k = g) w w' := by
  have hgl := hk.lt
  have hsl : ∀ w, (Instr.sliceAt 9 (.string ⟨#[97]⟩) (some (.int .i64 1)) none none).run Tryd.prog w = .ok (.string ⟨#[]⟩) w := fun _ => by kernel_rfl
  have hix : ∀ w, (Instr.index 9 (.string ⟨#[97]⟩) (.int .i64 0)).run Tryd.prog w = .ok (.int .u8 97) w := fun _ => by kernel_rfl
  have heq : ∀ w, (binOp .eql 9 (.string ⟨#[97]⟩) (.string ⟨#[]⟩)).run Tryd.prog w = .ok (.bool false) w := fun _ => by kernel_rfl
  have hr := Blk.new w 60 #[.int .i64 0, .int .i64 0, .int .u8 0, .slice none 0 0]
  have hk1 := hk.alloc (.cells #[.int .i64 0, .int .i64 0, .int .u8 0, .slice none 0 0] 60)
  have hc1 : Chg (fun k => k = g ∨ k = w.heap.size) w (w.alloc (.cells #[.int .i64 0, .int .i64 0, .int .u8 0, .slice none 0 0] 60)) := Chg.of_below' ((Below.refl w.heap.size w).alloc (Nat.le_refl _) _) fun k h1 h2 => by omega
  go_enter Tryd.func74, Tryd.ntmps74
  go_upto_region 1 with fail
  generalize w.alloc (.cells #[.int .i64 0, .int .i64 0, .int .u8 0, .slice none 0 0] 60) = W at *
  have q0 := hk1.cell_ 0 (v := .string ⟨#[97]⟩) rfl
  have q1 := hk1.cell_ 1 (v := .bool false) rfl
  go_wp2_with fail
  refine (hp_short ⟨#[97]⟩ ⟨#[104, 32]⟩ W (by decide)).mono ?_
  rintro e w' ⟨rfl, rfl⟩
  go_wp2_with fail
  refine (hp_short ⟨#[97]⟩ ⟨#[118, 32]⟩ W (by decide)).mono ?_
  rintro e w' ⟨rfl, rfl⟩
  go_upto_region 7 with (refine wpList_store_at rfl 9 _ _ rfl (.string ⟨#[]⟩) hk1 rfl rfl (by kernel_rfl) rfl (by simp) rfl ?_; intro W2 hk2 hc2)
  have hr2 := hr.chg1 hc2 (by omega)
  clear q0 q1 hk1 hr hsl hix heq
  go_wp2_with (refine wpList_store_blk rfl 60 _ _ rfl #[.int .i64 1, .int .i64 0, .int .u8 97, .slice none 0 0] hr2 rfl rfl (by kernel_rfl) rfl (by simp [Value.oneCell']) ?_; intro W3 hr3 hc3; have r0 := hr3.cell_ 0 rfl; have r1 := hr3.cell_ 1 rfl; have r2 := hr3.cell_ 2 rfl; have r3 := hr3.cell_ 3 rfl)
  have hk3 : Blk W3 g 103 #[.string ⟨#[]⟩, .bool false] := hk2.chg1 hc3 (by omega)
  have hc4 : Chg (fun k => k = g ∨ k = w.heap.size) w W3 := (hc1.trans (hc2.mono fun k _ h => Or.inl h)).trans (hc3.mono fun k _ h => Or.inr h)
  have hc5 : Chg (fun k => k = g) w W3 := ⟨hc4.os, hc4.tape, hc4.output, hc4.size, fun k hk hn => hc4.block k hk fun h => by
    rcases h with h | h
    · exact hn h
    · omega⟩
  exact bodyPost_ret (v := .agg #[.int .i64 1, .int .i64 0, .int .u8 97, .slice none 0 0]) (by simp [results, Tryd.results74, go_sem, r0, r1, r2, r3]) rfl ⟨rfl, hk3, hc5⟩
set_option maxRecDepth 100000 in
theorem deepLeaf_any (a b c : Int) (w : World) : Calls Tryd.prog 75 #[.agg #[.int .i64 a, .int .i64 b, .int .u8 c, .slice none 0 0]] w fun e w' => e = .returned (.int .i64 1) ∧ Below w.heap.size w w' := by
  have hk := Blk.new w 60 #[.int .i64 a, .int .i64 b, .int .u8 c, .slice none 0 0]
  have hB := (Below.refl w.heap.size w).alloc (Nat.le_refl _) (.cells #[.int .i64 a, .int .i64 b, .int .u8 c, .slice none 0 0] 60)
  go_enter Tryd.func75, Tryd.ntmps75
  go_upto_region 1 with fail
  generalize w.alloc (.cells #[.int .i64 a, .int .i64 b, .int .u8 c, .slice none 0 0] 60) = W at *
  have q3 := hk.cell_ 3 (v := .slice none 0 0) rfl
  go_wp2_with fail
  refine wp_loop_rounds 1 ?_
  rw [rounds_succ]
  go_wp2_with fail
  go_ret
  exact ⟨rfl, hB⟩
set_option maxRecDepth 100000 in
set_option maxHeartbeats 1000000 in
theorem parseA_any (w : World) : Calls Tryd.prog 38 #[.string ⟨#[97]⟩] w fun e w' => e = .returned (.tuple #[.agg #[.int .i64 1, .int .i64 0, .int .u8 97, .slice none 0 0], .int .i64 0]) ∧ Below w.heap.size w w' := by
  have hne : ∀ w, (binOp .neq 9 (.string ⟨#[]⟩) (.string ⟨#[]⟩)).run Tryd.prog w = .ok (.bool false) w := fun _ => by kernel_rfl
  have hr := (Blk.new w 60 #[.int .i64 0, .int .i64 0, .int .u8 0, .slice none 0 0]).alloc (.cells #[.string ⟨#[97]⟩, .bool false] 103)
  have hk := Blk.new (w.alloc (.cells #[.int .i64 0, .int .i64 0, .int .u8 0, .slice none 0 0] 60)) 103 #[.string ⟨#[97]⟩, .bool false]
  have hB := ((Below.refl w.heap.size w).alloc (Nat.le_refl _) (.cells #[.int .i64 0, .int .i64 0, .int .u8 0, .slice none 0 0] 60)).alloc (by simp) (.cells #[.string ⟨#[97]⟩, .bool false] 103)
  rw [show (w.alloc (.cells #[.int .i64 0, .int .i64 0, .int .u8 0, .slice none 0 0] 60)).heap.size = w.heap.size + 1 by simp] at hk
  go_enter Tryd.func38, Tryd.ntmps38
  go_upto_region 4 with fail
  generalize (w.alloc (.cells #[.int .i64 0, .int .i64 0, .int .u8 0, .slice none 0 0] 60)).alloc (.cells #[.string ⟨#[97]⟩, .bool false] 103) = W at *
  go_wp2_with fail
  refine (cutA_any (w.heap.size + 1) W hk).mono ?_
  rintro e W2 ⟨rfl, hk2, hc2⟩
  have hr2 := hr.chg1 hc2 (by omega)
  have hB2 := hB.trans (hc2.below1 hB.size (by omega))
  clear hk hr hB hc2
  have hkl := hk2.lt
  have hm := Blk.new W2 60 #[.int .i64 1, .int .i64 0, .int .u8 97, .slice none 0 0]
  have hk3 := hk2.alloc (.cells #[.int .i64 1, .int .i64 0, .int .u8 97, .slice none 0 0] 60)
  have hr3 := hr2.alloc (.cells #[.int .i64 1, .int .i64 0, .int .u8 97, .slice none 0 0] 60)
  have hB3 := hB2.alloc hB2.size (.cells #[.int .i64 1, .int .i64 0, .int .u8 97, .slice none 0 0] 60)
  go_upto_region 5 with fail
  clear hk2 hr2 hB2
  generalize hgb : W2.heap.size = gb at *
  generalize W2.alloc (.cells #[.int .i64 1, .int .i64 0, .int .u8 97, .slice none 0 0] 60) = W3 at *
  clear hgb
  have q0 := hk3.cell_ 0 (v := .string ⟨#[]⟩) rfl
  have q1 := hk3.cell_ 1 (v := .bool false) rfl
  have m0 := hm.cell_ 0 (v := .int .i64 1) rfl
  have m1 := hm.cell_ 1 (v := .int .i64 0) rfl
  have m2 := hm.cell_ 2 (v := .int .u8 97) rfl
  have m3 := hm.cell_ 3 (v := .slice none 0 0) rfl
  go_wp2_with fail
  refine (deepLeaf_any 1 0 97 W3).mono ?_
  rintro e W4 ⟨rfl, hb⟩
  have hm4 := hm.below hb hm.lt
  have hr4 := hr3.below hb hr3.lt
  have hB4 := hB3.trans (hb.mono hB3.size)
  clear q0 q1 m0 m1 m2 m3 hm hr3 hB3 hk3 hb
  have m0 := hm4.cell_ 0 (v := .int .i64 1) rfl
  have m1 := hm4.cell_ 1 (v := .int .i64 0) rfl
  have m2 := hm4.cell_ 2 (v := .int .u8 97) rfl
  have m3 := hm4.cell_ 3 (v := .slice none 0 0) rfl
  go_wp2_with (refine wpList_store_blk rfl 60 _ _ rfl #[.int .i64 1, .int .i64 0, .int .u8 97, .slice none 0 0] hr4 rfl rfl (by kernel_rfl) rfl (by simp [Value.oneCell']) ?_; intro W5 hr5 hc5; have r0 := hr5.cell_ 0 rfl; have r1 := hr5.cell_ 1 rfl; have r2 := hr5.cell_ 2 rfl; have r3 := hr5.cell_ 3 rfl)
  exact bodyPost_ret (v := .tuple #[.agg #[.int .i64 1, .int .i64 0, .int .u8 97, .slice none 0 0], .int .i64 0]) (by simp [results, Tryd.results38, go_sem, r0, r1, r2, r3]) rfl ⟨rfl, hB4.trans (hc5.below1 hB4.size (Nat.le_refl _))⟩
def awL : List Ask := [⟨60, 2⟩, ⟨40, 1⟩, ⟨30, 3⟩]
def awP : List Int := [60, 40, 30]
theorem aw_bound : bB 100 0 awL awP = 3 := by kernel_rfl
theorem aw_err : dE 100 0 awL awP = 0 := by kernel_rfl
theorem blk_slc {α : Type} {f : α → List Value} {sz : Nat} {w : World} {g : Nat} {t : TypeId} {cs : Array Value} {l : List α} (h : Blk w g t cs) (hcs : cs.toList = l.flatMap f) (hf : ∀ x, (f x).length = sz) : Slc f sz w w.heap.size (some ⟨g, 0, none⟩) l := fun i x hx => by
  refine ⟨g, 0, rfl, h.lt, fun j v hv => ?_⟩
  have := flat_at hf l i x hx j v hv
  rw [← hcs] at this
  rw [Nat.zero_add, h.cell, ← Array.getElem?_toList]
  exact this
set_option maxRecDepth 100000 in
set_option maxHeartbeats 1000000 in
theorem kawake_any (w : World) : Calls Tryd.prog 18 #[] w fun e w' => e = .returned (.bool true) ∧ Below w.heap.size w w' := by
  have ha := ((Blk.new w 45 #[.int .i64 60, .int .i64 2, .int .i64 40, .int .i64 1, .int .i64 30, .int .i64 3]).alloc (.cells #[.int .i64 100, .int .i64 0, .slice (some ⟨w.heap.size, 0, none⟩) 3 3] 24)).alloc (.cells #[.int .i64 60, .int .i64 40, .int .i64 30] 3)
  have hp := Blk.new ((w.alloc (.cells #[.int .i64 60, .int .i64 2, .int .i64 40, .int .i64 1, .int .i64 30, .int .i64 3] 45)).alloc (.cells #[.int .i64 100, .int .i64 0, .slice (some ⟨w.heap.size, 0, none⟩) 3 3] 24)) 3 #[.int .i64 60, .int .i64 40, .int .i64 30]
  rw [show ((w.alloc (.cells #[.int .i64 60, .int .i64 2, .int .i64 40, .int .i64 1, .int .i64 30, .int .i64 3] 45)).alloc (.cells #[.int .i64 100, .int .i64 0, .slice (some ⟨w.heap.size, 0, none⟩) 3 3] 24)).heap.size = w.heap.size + 1 + 1 by simp] at hp
  have hB := (((Below.refl w.heap.size w).alloc (Nat.le_refl _) (.cells #[.int .i64 60, .int .i64 2, .int .i64 40, .int .i64 1, .int .i64 30, .int .i64 3] 45)).alloc (by simp) (.cells #[.int .i64 100, .int .i64 0, .slice (some ⟨w.heap.size, 0, none⟩) 3 3] 24)).alloc (by simp; omega) (.cells #[.int .i64 60, .int .i64 40, .int .i64 30] 3)
  go_enter Tryd.func18, Tryd.ntmps18
  go_wp2_with fail
  generalize ((w.alloc (.cells #[.int .i64 60, .int .i64 2, .int .i64 40, .int .i64 1, .int .i64 30, .int .i64 3] 45)).alloc (.cells #[.int .i64 100, .int .i64 0, .slice (some ⟨w.heap.size, 0, none⟩) 3 3] 24)).alloc (.cells #[.int .i64 60, .int .i64 40, .int .i64 30] 3) = W at *
  refine (apiBound_any 100 0 (some ⟨w.heap.size, 0, none⟩) 3 awL (some ⟨w.heap.size + 1 + 1, 0, none⟩) 3 awP W (blk_slc ha rfl fun _ => rfl) (blk_slc hp rfl fun _ => rfl) (by decide)).mono ?_
  rintro e W2 ⟨rfl, hb⟩
  have hB2 := hB.trans (hb.mono hB.size)
  rw [aw_bound, aw_err]
  clear ha hp hB hb
  go_wp2_with fail
  refine (parseA_any W2).mono ?_
  rintro e W3 ⟨rfl, hb⟩
  have hB3 := hB2.trans (hb.mono hB2.size)
  have hm := Blk.new W3 60 #[.int .i64 1, .int .i64 0, .int .u8 97, .slice none 0 0]
  have hB4 := hB3.alloc hB3.size (.cells #[.int .i64 1, .int .i64 0, .int .u8 97, .slice none 0 0] 60)
  clear hB2 hb hB3
  go_upto_region 4 with fail
  generalize hgb : W3.heap.size = gb at *
  generalize W3.alloc (.cells #[.int .i64 1, .int .i64 0, .int .u8 97, .slice none 0 0] 60) = W4 at *
  clear hgb
  have m0 := hm.cell_ 0 (v := .int .i64 1) rfl
  have m2 := hm.cell_ 2 (v := .int .u8 97) rfl
  go_wp2_with fail
  go_ret
  exact ⟨rfl, hB4⟩
end Go.Proofs.YtecaaimaeaocbaaDoor
