/- Parts of the proofs of this seat: Receive, Awake. Each part says what it proves; no condition beyond those stated there. -/
import Derived.Test.YtnejacogflkmmaaM7
import Derived.Test.YtnejacogflkmmaaM12
import Derived.Test.YtnejacogflkmmaaM13
import Derived.Test.YtnejacogflkmmaaM26

/- Receive of package sheet. -/
namespace Go.Proofs.Ytnejacogflkmmaa
open Go.RowKit

theorem validRoll_bd {id grade colour lot made width len : Int} {fs : List Pt} (h : validRoll ⟨id, grade, colour, lot, made, width, len, fs⟩ = true) : 1 ≤ width ∧ width ≤ 150 ∧ 1 ≤ len ∧ len ≤ 6000 := by
  simp only [validRoll, Bool.and_eq_true, inB_iff] at h
  omega
def gmax (a b : Int) : Int := if a < b then b else a
set_option maxHeartbeats 2000000 in
theorem receive_a (id grade colour lot made width len : Int) (c : Nat) (_fs : List Pt) (w : World) (B0 g ri rp rq rl : Nat) (s : SS) (hs : StoreAt w B0 g ri rp rq rl s)
   (hv : validRoll ⟨id, grade, colour, lot, made, width, len, []⟩ = true) (hp : look s.parent id = none) (hl : look s.lots lot = none) (hrc : 0 ≤ s.received ∧ s.received ≤ 1000000000000000) :
    Calls Try.prog 35 #[.pointer (some ⟨g, 0, none⟩), .agg #[.int .i64 id, .int .i64 grade, .int .i64 colour, .int .i64 lot, .int .i64 made, .int .i64 width, .int .i64 len, .slice none 0 c]] w fun e w' =>
      e = .returned (.int .i64 0) ∧ StoreAt w' B0 g ri rp rq rl { s with lots := put s.lots lot ⟨grade, colour, made⟩, parent := put s.parent id 0, last := gmax s.last id, items := put s.items id ⟨id, id, grade, colour, lot, made, width, len, []⟩, received := s.received + width * len } ∧ Chg (OfStore g ri rp rq rl) w w' := by
  have hB := hs.blk
  have HV := hide hv
  have HB := hide (validRoll_bd hv)
  have hgs := hB.lt
  have hbx := Blk.new w 24 #[.int .i64 id, .int .i64 grade, .int .i64 colour, .int .i64 lot, .int .i64 made, .int .i64 width, .int .i64 len, .slice none 0 c]
  go_enter Try.func35, Try.ntmps35
  go_wp2_with (go_at_call 45; refine (none_any _ _ ((hB.alloc _).cell_ 5 rfl)).mono ?_; rintro e w' ⟨rfl, rfl⟩)
  refine (validRoll_any _ _ _ _ _ _ _ _ _ [] _ Slc.nil_ (by simp)).mono ?_
  rintro e w1 ⟨rfl, hb⟩
  have hB1 := (hB.alloc (.cells #[.int .i64 id, .int .i64 grade, .int .i64 colour, .int .i64 lot, .int .i64 made, .int .i64 width, .int .i64 len, .slice none 0 c] 24)).below hb (by simp; omega)
  have hbx1 := hbx.below hb (by simp)
  have x0 := hbx1.cell_ 0 rfl
  have x1 := hbx1.cell_ 1 rfl
  have x2 := hbx1.cell_ 2 rfl
  have x3 := hbx1.cell_ 3 rfl
  have x4 := hbx1.cell_ 4 rfl
  have x5 := hbx1.cell_ 5 rfl
  have x6 := hbx1.cell_ 6 rfl
  have x7 := hbx1.cell_ 7 rfl
  have s8 : w1.cell? ⟨g, 8, none⟩ = some (.map (some rq)) := hB1.cell_ 8 rfl
  have s9 : w1.cell? ⟨g, 9, none⟩ = some (.map (some rl)) := hB1.cell_ 9 rfl
  have hP1 := (hs.parent.alloc (.cells #[.int .i64 id, .int .i64 grade, .int .i64 colour, .int .i64 lot, .int .i64 made, .int .i64 width, .int .i64 len, .slice none 0 c] 24)).below hb (by have := hs.parent.lt; simp; omega)
  have hL1 := (hs.lots.alloc (.cells #[.int .i64 id, .int .i64 grade, .int .i64 colour, .int .i64 lot, .int .i64 made, .int .i64 width, .int .i64 len, .slice none 0 c] 24)).below hb (by have := hs.lots.lt; simp; omega)
  have lk1 : (Instr.lookup 76 (.map (some rq)) (.int .i64 id) true).run Try.prog w1.drew = .ok (.tuple #[.int .i64 0, .bool false]) w1.drew := MapOf.look_no (w := w1.drew) hP1 Try.underlying76 Try.underlying3 (fun w => by kernel_rfl) (look_kv_none hp) true
  have lk2 : ∀ o, (Instr.lookup 77 (.map (some rl)) (.int .i64 lot) true).run Try.prog (w1.alloc o).drew.drew = .ok (.tuple #[.agg #[.int .i64 0, .int .i64 0, .int .i64 0], .bool false]) (w1.alloc o).drew.drew := fun o => MapOf.look_no (w := (w1.alloc o).drew.drew) (MapOf.alloc hL1 o) Try.underlying77 Try.underlying3 (fun w => by kernel_rfl) (look_kv_none hl) true
  have lk3 : ∀ o o', (Instr.lookup 77 (.map (some rl)) (.int .i64 lot) true).run Try.prog ((w1.alloc o).alloc o').drew.drew = .ok (.tuple #[.agg #[.int .i64 0, .int .i64 0, .int .i64 0], .bool false]) ((w1.alloc o).alloc o').drew.drew := fun o o' => MapOf.look_no (w := ((w1.alloc o).alloc o').drew.drew) ((MapOf.alloc hL1 o).alloc o') Try.underlying77 Try.underlying3 (fun w => by kernel_rfl) (look_kv_none hl) true
  have hgs1 := hB1.lt
  have hxs1 := hbx1.lt
  have hS1 : StoreAt w1 B0 g ri rp rq rl s := (hs.alloc (.cells #[.int .i64 id, .int .i64 grade, .int .i64 colour, .int .i64 lot, .int .i64 made, .int .i64 width, .int .i64 len, .slice none 0 c] 24)).below hb
  have hC1 : Chg (OfStore g ri rp rq rl) w w1 := (Chg.alloc (Chg.refl _ _) _).trans (.of_below hb)
  have HB1 := hide hB1
  have HX1 := hide hbx1
  have HS1 := hide hS1
  have HC1 := hide hC1
  have HG := hide hgs
  have HR := hide hs.lts
  clear hb hB1 hbx1 hS1 hC1 hB hs hbx
  go_wp2
  go_region
  go_wp2
  go_region
  go_wp2
  -- the lots
  obtain ⟨W, hW⟩ : ∃ W, W = ((w1.alloc (.cells #[.int .i64 grade, .int .i64 colour, .int .i64 made] 99)).alloc (.cells #[.int .i64 0, .int .i64 0, .int .i64 0] 99)).drew.drew := ⟨_, rfl⟩
  rw [← hW]
  have hS : StoreAt W B0 g ri rp rq rl s := by rw [hW]; exact (((HS1.out.alloc _).alloc _).drew).drew
  have hC : Chg (OfStore g ri rp rq rl) w W := by rw [hW]; exact (((HC1.out.alloc _).alloc _).drew).drew
  have hX : Blk W w.heap.size 24 #[.int .i64 id, .int .i64 grade, .int .i64 colour, .int .i64 lot, .int .i64 made, .int .i64 width, .int .i64 len, .slice none 0 c] := by rw [hW]; exact (HX1.out.alloc _).alloc _
  have hK : Blk W w1.heap.size 99 #[.int .i64 grade, .int .i64 colour, .int .i64 made] := by rw [hW]; exact (Blk.new w1 _ _).alloc _
  clear hW x0 x1 x2 x3 x4 x5 x6 x7 s8 s9 hP1 hL1 lk1 lk2 lk3 HB1 HX1 HS1 HC1
  have s9 : W.cell? ⟨g, 9, none⟩ = some (.map (some rl)) := hS.blk.cell_ 9 rfl
  have x3 := hX.cell_ 3 rfl
  have k0 := hK.cell_ 0 rfl
  have k1 := hK.cell_ 1 rfl
  have k2 := hK.cell_ 2 rfl
  obtain ⟨W2, hr2, hM2, hg2⟩ := (MapOf.drew hS.lots).run_put (P := Try.prog) (n := lot) Try.underlying77 Try.underlying3 (.agg #[.int .i64 grade, .int .i64 colour, .int .i64 made])
  go_region
  have hS2 : StoreAt W2 B0 g ri rp rq rl { s with lots := put s.lots lot ⟨grade, colour, made⟩ } := hS.drew.put_lots hg2 (by rw [← put_kv]; exact hM2)
  have hC2 : Chg (OfStore g ri rp rq rl) w W2 := hC.drew.trans' (.of_grown hg2 (by simp [OfStore])) (fun _ _ h => h)
  have hX2 := (Blk.drew hX).grown hg2 (by have := HR.out; simp; omega)
  clear hS hC hX hK s9 x3 k0 k1 k2 hr2 hM2 hg2
  -- the parent
  have s8 : W2.cell? ⟨g, 8, none⟩ = some (.map (some rq)) := hS2.blk.cell_ 8 rfl
  have x0 := hX2.cell_ 0 rfl
  obtain ⟨W3, hr3, hM3, hg3⟩ := (MapOf.drew hS2.parent).run_put (P := Try.prog) (n := id) Try.underlying76 Try.underlying3 (.int .i64 0)
  go_wp2
  go_region
  have hS3 := hS2.drew.put_parent (P' := put s.parent id 0) hg3 (by rw [← put_kv]; exact hM3)
  have hC3 : Chg (OfStore g ri rp rq rl) w W3 := hC2.drew.trans' (.of_grown hg3 (by simp [OfStore])) (fun _ _ h => h)
  have hX3 := (Blk.drew hX2).grown hg3 (by have := HR.out; simp; omega)
  clear hS2 hC2 hX2 s8 x0 hr3 hM3 hg3
  -- the last Id
  have s10 : W3.cell? ⟨g, 10, none⟩ = some (.int .i64 s.last) := hS3.blk.cell_ 10 rfl
  have f10 := hS3.blk.frozen 10
  have x0 := hX3.cell_ 0 rfl
  go_wp2
  go_region
  obtain ⟨m, hm⟩ : ∃ m, m = gmax s.last id := ⟨_, rfl⟩
  have hm' : (if s.last < id then id else s.last) = m := hm.symm
  rw [hm']
  have HM := hide hm
  clear hm hm'
  obtain ⟨W4, hW⟩ : ∃ W, W = (W3.setCell ⟨g, 10, none⟩ (.int .i64 m)).drew := ⟨_, rfl⟩
  rw [← hW]
  have hS4 : StoreAt W4 B0 g ri rp rq rl { s with lots := put s.lots lot ⟨grade, colour, made⟩, parent := put s.parent id 0, last := m } := by rw [hW]; exact (hS3.set_ (k := 10) (u := .int .i64 m) (s' := { s with lots := put s.lots lot ⟨grade, colour, made⟩, parent := put s.parent id 0, last := m }) rfl rfl rfl rfl rfl).drew
  have hC4 : Chg (OfStore g ri rp rq rl) w W4 := by rw [hW]; exact (hC3.setCell (p := ⟨g, 10, none⟩) (.inl (by simp [OfStore])) _).drew
  have hX4 : Blk W4 w.heap.size 24 #[.int .i64 id, .int .i64 grade, .int .i64 colour, .int .i64 lot, .int .i64 made, .int .i64 width, .int .i64 len, .slice none 0 c] := by rw [hW]; exact hX3.far (p := ⟨g, 10, none⟩) (by have := HG.out; simp; omega) _
  clear hW hS3 hC3 hX3 s10 f10 x0
  have s6 : W4.cell? ⟨g, 6, none⟩ = some (.map (some ri)) := hS4.blk.cell_ 6 rfl
  have x0 := hX4.cell_ 0 rfl
  have x1 := hX4.cell_ 1 rfl
  have x2 := hX4.cell_ 2 rfl
  have x3 := hX4.cell_ 3 rfl
  have x4 := hX4.cell_ 4 rfl
  have x5 := hX4.cell_ 5 rfl
  have x6 := hX4.cell_ 6 rfl
  have x7 := hX4.cell_ 7 rfl
  go_wp2
  refine wp_region_quiet_tail (C := fun w' => ∃ u : Since W4, w' = u.w) 26 (by kernel_rfl) (by kernel_rfl) (Since.start W4) ?_
  simp only [List.take_succ_cons, List.take_zero, List.drop_succ_cons, List.drop_zero]
  have y6 := Since.cell s6
  have y0 := Since.cell x0
  have y1 := Since.cell x1
  have y2 := Since.cell x2
  have y3 := Since.cell x3
  have y4 := Since.cell x4
  have y5 := Since.cell x5
  have z6 := Since.cell x6
  have z7 := Since.cell x7
  repeat (go_big_quiet_step ((go_at_call 51; exact Since.calls_same (clone_nil _ _))))
  refine wpQuiet_nil ?_
  rintro _ ⟨u, rfl⟩
  have hS4' := hS4.below u.h
  obtain ⟨MI, hMI, hZ⟩ := hS4'.zip
  refine wpList_put_im rfl rfl _ _ _ _ rfl _ _ Try.underlying74 Try.underlying3 ri rfl hMI id _ rfl rfl ?_
  intro W5 hM5 hg5
  have hS5 : StoreAt W5 B0 g ri rp rq rl { s with lots := put s.lots lot ⟨grade, colour, made⟩, parent := put s.parent id 0, last := m, items := put s.items id ⟨id, id, grade, colour, lot, made, width, len, []⟩ } := hS4'.put_items hg5 hM5 (hZ.put_ ⟨none, 0, rfl, Slc.nil_, fun ad h => by cases h⟩)
  have hC5 : Chg (OfStore g ri rp rq rl) w W5 := (hC4.trans (.of_below u.h)).trans' (.of_grown hg5 (by simp [OfStore])) (fun _ _ h => h)
  have hX5 := (hX4.below u.h hX4.lt).grown hg5 (by have := HR.out; simp; omega)
  clear hS4 hC4 hX4 s6 x0 x1 x2 x3 x4 x5 x6 x7 y0 y1 y2 y3 y4 y5 y6 z6 z7 hM5 hg5 hMI hZ hS4'
  have s11 : W5.cell? ⟨g, 11, none⟩ = some (.int .i64 s.received) := hS5.blk.cell_ 11 rfl
  have f11 := hS5.blk.frozen 11
  have x5 := hX5.cell_ 5 rfl
  have x6 := hX5.cell_ 6 rfl
  obtain ⟨b1, b2, b3, b4⟩ := HB.out
  obtain ⟨b5, b6⟩ := area_bd (by omega) b2 (by omega) b4
  have e1 : IntKind.i64.wrap (width * len) = width * len := IntWalk.i64_in _ (by omega)
  have e2 : IntKind.i64.wrap (s.received + width * len) = s.received + width * len := IntWalk.i64_in _ (by omega)
  go_wp2
  refine wp_region_quiet_tail (C := fun w' => ∃ u : Since W5, w' = u.w) 12 (by kernel_rfl) (by kernel_rfl) (Since.start W5) ?_
  simp only [List.take_succ_cons, List.take_zero, List.drop_succ_cons, List.drop_zero]
  have y11 := Since.cell s11
  have y5 := Since.cell x5
  have y6 := Since.cell x6
  repeat (go_big_quiet_step ((fail)))
  refine wpQuiet_nil ?_
  rintro _ ⟨u', rfl⟩
  have hS6 := hS5.below u'.h
  have hC6 := hC5.trans (.of_below u'.h)
  have s11 : u'.w.cell? ⟨g, 11, none⟩ = some (.int .i64 s.received) := hS6.blk.cell_ 11 rfl
  have f11 := hS6.blk.frozen 11
  go_wp2
  go_ret
  refine ⟨rfl, ?_, hC6.setCell (p := ⟨g, 11, none⟩) (.inl (by simp [OfStore])) _⟩
  rw [← HM.out]
  exact hS6.set_ (k := 11) rfl rfl rfl rfl rfl
end Go.Proofs.Ytnejacogflkmmaa

/- 'Awake' of the statements about sheet: the closed example. -/
namespace Go.Proofs.Ytnejacogflkmmaa
open Go.RowKit

theorem awake_clear : clearVal 100 [⟨30, 32⟩] 50 = .tuple #[.int .i64 32, .bool true] := by
  have h : IsClear 100 [⟨30, 32⟩] 50 (some 32) := by
    refine ⟨by omega, by omega, by omega, ?_, fun q h0 h1 => ?_⟩
    · simp [freeB]
    · simp [freeB]; omega
  unfold clearVal
  rw [clear_eq h]; rfl

theorem zip_one {w : World} {x : Sheet} {k : Int} {MI : List (Int × Value)} (h : Zip (SheetVal w 0) [(k, x)] MI) : ∃ A c, MI = [(k, x.valAt A c)] := by
  match MI, h with
  | [], h => exact absurd h.1 (by simp)
  | q :: q' :: M, h => exact absurd h.1 (by simp)
  | [q], h =>
    obtain ⟨h1, A, c, h2, _⟩ := h.2 0 _ _ rfl rfl
    refine ⟨A, c, ?_⟩
    have : q = (k, x.valAt A c) := Prod.ext h1.symm h2
    rw [this]

set_option maxHeartbeats 2000000 in
theorem awake_any (w : World) : Calls Try.prog 12 #[] w fun e w' => e = .returned (.bool true) ∧ Below w.heap.size w w' := by
  have HC := hide awake_clear
  go_enter Try.func12, Try.ntmps12
  go_wp2_with fail
  refine (clear_any 100 50 _ _ [⟨30, 32⟩] _ (by omega) (by simp) ?hS).mono ?_
  case hS => 
    intro i x hi
    have : i = 0 ∧ x = ⟨30, 32⟩ := by
      rcases i with _ | i
      · simp at hi; exact ⟨rfl, hi.symm⟩
      · simp at hi
    obtain ⟨rfl, rfl⟩ := this
    refine ⟨w.heap.size, 0, rfl, by simp, fun j v hj => ?_⟩
    have hb := (Blk.new w 87 #[.int .i64 30, .int .i64 32]).cell j
    simp only [Nat.zero_mul, Nat.zero_add]
    rw [hb, ← hj]
    simp [Pt.enc]
  rintro e w1 ⟨rfl, hb1⟩
  rw [HC.out]
  go_wp2_with fail
  refine (new_yes 1 1 0 0 0 _ (by decide)).mono ?_
  rintro e w2 ⟨g, ri, rp, rq, rl, rfl, hst, hg, h1, h2, h3, h4, hb2⟩
  have hS := hst 0 (by omega)
  go_wp2_with fail
  refine (receive_a 3 1 1 1 0 2 5 0 [] _ 0 g ri rp rq rl _ hS (by decide) rfl rfl (by simp)).mono ?_
  rintro e w3 ⟨rfl, hS3, hC3⟩
  go_wp2_with fail
  obtain ⟨MI, hMI, hZ⟩ := hS3.zip
  obtain ⟨A, c, rfl⟩ := zip_one hZ
  refine (bal_any g _ _ hS3.blk ri rp _ _ rfl rfl rfl rfl rfl _ _ hMI hS3.pieces ?g1 ?g2 ?g3 ?g4).mono ?_
  case g1 => 
    intro q hq
    simp at hq
    subst hq
    exact ⟨_, _, _, _, _, _, _, _, _, _, _, rfl, by simp, by simp, by simp, by simp⟩
  case g2 => simp
  case g3 => simp
  case g4 => simp
  rintro e w4 ⟨rfl, hb4⟩
  go_wp2
  go_ret
  refine ⟨rfl, ?_⟩
  have z0 : w.heap.size ≤ w1.heap.size := by have := hb1.size; simp at this; omega
  have z1 := hb2.size
  have z2 := hC3.size
  have b1 : Below w.heap.size w w1 := ((Below.refl _ _).alloc (Nat.le_refl _) _).trans (hb1.mono (by simp))
  have b2 : Below w.heap.size w w2 := b1.trans (hb2.mono z0)
  have b3 : Below w.heap.size w w3 := b2.trans (hC3.to_below (by omega) (fun k hk => by unfold OfStore; omega))
  exact b3.trans (hb4.mono (by omega))
end Go.Proofs.Ytnejacogflkmmaa
