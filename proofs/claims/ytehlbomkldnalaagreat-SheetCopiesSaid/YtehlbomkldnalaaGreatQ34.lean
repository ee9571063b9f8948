/- Parts of the proofs of this seat: Copy. Each part says what it proves; no condition beyond those stated there. -/
import Derived.Test.YtehlbomkldnalaaGreatQ3
import Derived.Test.YtehlbomkldnalaaGreatQ14

/- Copy: the walk. -/
namespace Go.Proofs.YtehlbomkldnalaaGreat
open Go Go.RowKit Go.Maps Go.Sort Go.Shelf
theorem MapOf.copied {w w' : World} {r r' : Nat} {M : List (Int × Value)} (h : MapOf w r M) (he : w'.heap[r']? = w.heap[r]?) : MapOf w' r' M := by
 obtain ⟨es, clock, hb, rest⟩ := h
 exact ⟨es, clock, he.trans hb, rest⟩
def CloneM (M : List (Int × Value)) (w : World) (e : Ending) (w' : World) : Prop := ∃ r', e = .returned (.map (some r')) ∧ w.heap.size ≤ r' ∧ MapOf w' r' M ∧ Below w.heap.size w w'
theorem cloned {P : Program} {ρ : Ren} (L : SlLaysW.n5 P ρ) {w : World} {r : Nat} {M : List (Int × Value)} (h : MapOf w r M) : Calls P (ρ.f 5) #[.map (some r)] w (CloneM M w) := by
 obtain ⟨es, clock, hb, h2⟩ := h
 refine (AnyW.maps_Clone L r es clock w hb).mono ?_
 rintro e w' ⟨rfl, rfl⟩
 exact ⟨_, rfl, Nat.le_refl _, ⟨es, clock, (MapKept.heap_alloc w _).1, h2⟩, (Below.refl _ _).alloc (Nat.le_refl _) _⟩
def CopyPost (s : SS) (w : World) (e : Ending) (w' : World) : Prop := ∃ p' : Fp, e = .returned (.pointer (some ⟨p'.g, 0, none⟩)) ∧ StA w' p' s ∧ (∀ k, p'.has k → w.heap.size ≤ k) ∧ Below w.heap.size w w'
set_option maxRecDepth 100000 in
set_option maxHeartbeats 4000000 in
theorem copy_any (p : Fp) (s : SS) (w : World) (hX : StA w p s) : Calls Tryz.prog 11 #[.pointer (some ⟨p.g, 0, none⟩)] w (CopyPost s w) := by
 have HX := hide hX
 have c0 := hX.blk.cell_ 0 (v := s.rules.minWidth) rfl
 have c1 := hX.blk.cell_ 1 (v := s.rules.minLength) rfl
 have c2 := hX.blk.cell_ 2 (v := s.rules.l0) rfl
 have c3 := hX.blk.cell_ 3 (v := s.rules.l1) rfl
 have c4 := hX.blk.cell_ 4 (v := s.rules.l2) rfl
 have c5 := hX.blk.cell_ 5 (v := .bool true) rfl
 have c6 := hX.blk.cell_ 6 (v := .map (some p.ri)) rfl
 have c7 := hX.blk.cell_ 7 (v := .map (some p.rp)) rfl
 have c8 := hX.blk.cell_ 8 (v := .map (some p.rq)) rfl
 have c9 := hX.blk.cell_ 9 (v := .map (some p.rl)) rfl
 have c10 := hX.blk.cell_ 10 (v := s.last) rfl
 have c11 := hX.blk.cell_ 11 (v := s.received) rfl
 have c12 := hX.blk.cell_ 12 (v := s.waste) rfl
 clear hX
 go_enter Tryz.func11, Tryz.ntmps11
 go_wp2_with fail
 refine (none_any p.g _ c5).mono ?_
 rintro e W' ⟨rfl, rfl⟩
 go_upto_region 4 with fail
 have hk := Blk.new w 67 (storeCells_ s p.ri p.rp p.rq p.rl)
 have hB := (Below.refl w.heap.size w).alloc (Nat.le_refl _) (.cells (storeCells_ s p.ri p.rp p.rq p.rl) 67)
 have hb0 : w.heap.size ≤ w.heap.size := Nat.le_refl _
 unfold storeCells_ at hk hB
 clear c0 c1 c2 c3 c4 c5 c6 c7 c8 c9 c10 c11 c12
 generalize w.alloc (.cells #[s.rules.minWidth, s.rules.minLength, s.rules.l0, s.rules.l1, s.rules.l2, .bool true, .map (some p.ri), .map (some p.rp), .map (some p.rq), .map (some p.rl), s.last, s.received, s.waste] 67) = W at *
 obtain ⟨b, hbe⟩ := nm_ w.heap.size
 have HBE := hide hbe
 rw [hbe] at hk hB ⊢
 clear hbe hb0
 obtain ⟨MI, hMI, hZ⟩ := HX.out.items
 have HMI := hide (And.intro hMI hZ)
 clear hMI hZ
 have h0 : Hid (∀ W, Below b w W → StA W p s ∧ MapOf W p.ri MI) := fun W hb => ⟨HX.out.below (by rw [HBE.out]; exact hb), HMI.out.1.below hb (by rw [← HBE.out]; exact HMI.out.1.lt)⟩
 have c6 := (h0.out W hB).1.blk.cell_ 6 (v := .map (some p.ri)) rfl
 have g0 := (h0.out W hB).2
 have hsz : b ≤ W.heap.size := by rw [← HBE.out]; exact hB.size
 go_wp2_with fail
 refine (cloned cloneILays (g0)).mono ?_
 rintro e W2 ⟨r1, rfl, hr1, mr1, hb2⟩
 replace hk := hk.below hb2 hk.lt
 replace hB := hB.trans (hb2.mono hsz)
 have or1 : W.heap.size ≤ r1 := hr1
 replace hr1 : b ≤ r1 := Nat.le_trans hsz hr1
 replace hsz : b ≤ W2.heap.size := Nat.le_trans hsz hb2.size
 clear c6 g0
 go_upto_region 5 with (refine wpList_store_at rfl 62 _ _ rfl (.map (some r1)) hk rfl rfl (by kernel_rfl) rfl (by simp) rfl ?_; intro W3 hk3 hc3)
 replace hB := hB.trans (hc3.below1 hsz (Nat.le_refl _))
 clear hsz
 replace mr1 := mr1.chg hc3 (fun he => mr1.blk_ne hk he)
 replace hk := hk3
 clear hk3 hc3 hb2
 obtain ⟨W, rfl⟩ := is_ W3
 try dsimp only [Act.put]
 have c7 := (h0.out W hB).1.blk.cell_ 7 (v := .map (some p.rp)) rfl
 have g0 := (h0.out W hB).1.pieces
 have l1 := mr1.lt
 have hsz : b ≤ W.heap.size := by rw [← HBE.out]; exact hB.size
 go_wp2_with fail
 refine (cloned clonePLays (g0)).mono ?_
 rintro e W2 ⟨r2, rfl, hr2, mr2, hb2⟩
 replace hk := hk.below hb2 hk.lt
 replace hB := hB.trans (hb2.mono hsz)
 have or2 : W.heap.size ≤ r2 := hr2
 replace hr2 : b ≤ r2 := Nat.le_trans hsz hr2
 replace hsz : b ≤ W2.heap.size := Nat.le_trans hsz hb2.size
 replace mr1 := mr1.below hb2 mr1.lt
 clear c7 g0
 go_upto_region 6 with (refine wpList_store_at rfl 63 _ _ rfl (.map (some r2)) hk rfl rfl (by kernel_rfl) rfl (by simp) rfl ?_; intro W3 hk3 hc3)
 replace hB := hB.trans (hc3.below1 hsz (Nat.le_refl _))
 clear hsz
 replace mr1 := mr1.chg hc3 (fun he => mr1.blk_ne hk he)
 replace mr2 := mr2.chg hc3 (fun he => mr2.blk_ne hk he)
 replace hk := hk3
 clear hk3 hc3 hb2
 obtain ⟨W, rfl⟩ := is_ W3
 try dsimp only [Act.put]
 have c8 := (h0.out W hB).1.blk.cell_ 8 (v := .map (some p.rq)) rfl
 have g0 := (h0.out W hB).1.parent
 have l2 := mr2.lt
 have l1' := mr1.lt
 have hsz : b ≤ W.heap.size := by rw [← HBE.out]; exact hB.size
 go_wp2_with fail
 refine (cloned cloneQLays (g0)).mono ?_
 rintro e W2 ⟨r3, rfl, hr3, mr3, hb2⟩
 replace hk := hk.below hb2 hk.lt
 replace hB := hB.trans (hb2.mono hsz)
 have or3 : W.heap.size ≤ r3 := hr3
 replace hr3 : b ≤ r3 := Nat.le_trans hsz hr3
 replace hsz : b ≤ W2.heap.size := Nat.le_trans hsz hb2.size
 replace mr1 := mr1.below hb2 mr1.lt
 replace mr2 := mr2.below hb2 mr2.lt
 clear c8 g0
 go_upto_region 7 with (refine wpList_store_at rfl 64 _ _ rfl (.map (some r3)) hk rfl rfl (by kernel_rfl) rfl (by simp) rfl ?_; intro W3 hk3 hc3)
 replace hB := hB.trans (hc3.below1 hsz (Nat.le_refl _))
 clear hsz
 replace mr1 := mr1.chg hc3 (fun he => mr1.blk_ne hk he)
 replace mr2 := mr2.chg hc3 (fun he => mr2.blk_ne hk he)
 replace mr3 := mr3.chg hc3 (fun he => mr3.blk_ne hk he)
 replace hk := hk3
 clear hk3 hc3 hb2
 obtain ⟨W, rfl⟩ := is_ W3
 try dsimp only [Act.put]
 have c9 := (h0.out W hB).1.blk.cell_ 9 (v := .map (some p.rl)) rfl
 have g0 := (h0.out W hB).1.lots
 have l3 := mr3.lt
 have l2' := mr2.lt
 have l1'' := mr1.lt
 have hsz : b ≤ W.heap.size := by rw [← HBE.out]; exact hB.size
 go_wp2_with fail
 refine (cloned cloneLLays (g0)).mono ?_
 rintro e W2 ⟨r4, rfl, hr4, mr4, hb2⟩
 replace hk := hk.below hb2 hk.lt
 replace hB := hB.trans (hb2.mono hsz)
 have or4 : W.heap.size ≤ r4 := hr4
 replace hr4 : b ≤ r4 := Nat.le_trans hsz hr4
 replace hsz : b ≤ W2.heap.size := Nat.le_trans hsz hb2.size
 replace mr1 := mr1.below hb2 mr1.lt
 replace mr2 := mr2.below hb2 mr2.lt
 replace mr3 := mr3.below hb2 mr3.lt
 clear c9 g0
 go_upto_region 8 with (refine wpList_store_at rfl 65 _ _ rfl (.map (some r4)) hk rfl rfl (by kernel_rfl) rfl (by simp) rfl ?_; intro W3 hk3 hc3)
 replace hB := hB.trans (hc3.below1 hsz (Nat.le_refl _))
 clear hsz
 replace mr1 := mr1.chg hc3 (fun he => mr1.blk_ne hk he)
 replace mr2 := mr2.chg hc3 (fun he => mr2.blk_ne hk he)
 replace mr3 := mr3.chg hc3 (fun he => mr3.blk_ne hk he)
 replace mr4 := mr4.chg hc3 (fun he => mr4.blk_ne hk he)
 replace hk := hk3
 clear hk3 hc3 hb2
 go_wp2_with fail
 go_ret
 refine ⟨⟨b, r1, r2, r3, r4⟩, rfl, ⟨hk, ⟨MI, mr1, HMI.out.2.imp fun x v hv => hv.below (by rw [HBE.out]; exact hB)⟩, mr2, mr3, mr4, ?_⟩, ?_, by rw [HBE.out]; exact hB⟩
 ·refine ⟨?_, ?_, ?_, ?_, ?_, ?_⟩ <;> dsimp only <;> omega
 ·rw [HBE.out]
  rintro k (rfl | rfl | rfl | rfl | rfl) <;> omega
end Go.Proofs.YtehlbomkldnalaaGreat
