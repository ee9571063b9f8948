/- Parts of the proofs of this seat: Items, StoreW, UseRet, Old, Recv, NeedV, CutP, CutQ, Part, Better, Add, Room, BalA. Each part says what it proves; no condition beyond those stated there. -/
import Derived.Deep.DeepCutAuto
import Derived.Deep.CutBlock
import Derived.Test.YtehlbomkldnalaaGreatQ4
import Derived.Test.YtehlbomkldnalaaGreatQ6
import Derived.Test.YtehlbomkldnalaaGreatQ8
import Derived.Test.YtehlbomkldnalaaGreatQ10
import Derived.Test.YtehlbomkldnalaaGreatQ11
import Derived.Test.YtehlbomkldnalaaGreatQ13
import Derived.Test.YtehlbomkldnalaaGreatQ25

/- Items and Pieces. -/
namespace Go.Proofs.YtehlbomkldnalaaGreat
open Go Go.RowKit
theorem Zip.look_ {V : Type} {R : V → Value → Prop} {L : List (Int × V)} {M : List (Int × Value)} (h : Zip R L M) {k : Int} {x : V} (hx : look L k = some x) : ∃ v, look M k = some v ∧ R x v := by
 rcases h.look_some (k := k) with ⟨h1, _⟩ | ⟨x', v, h1, h2, h3⟩
 ·rw [h1] at hx; cases hx
 ·rw [h1] at hx
  injection hx with hx
  subst hx
  exact ⟨v, h2, h3⟩
theorem Zip.look_no {V : Type} {R : V → Value → Prop} {L : List (Int × V)} {M : List (Int × Value)} (h : Zip R L M) {k : Int} (hx : look L k = none) : look M k = none := by
 rcases h.look_some (k := k) with ⟨_, h2⟩ | ⟨x', v, h1, _⟩
 ·exact h2
 ·rw [h1] at hx; cases hx
/-- the bounds under which a store's maps are walked -/
structure Few (s : SS) : Prop where
 it : s.items.length ≤ 1000000
 pc : s.pieces.length ≤ 1000000
 pa : s.parent.length ≤ 1000000
 lo : s.lots.length ≤ 1000000
 la : s.last ≤ 1000000000000
 re : s.received ≤ 1000000000000000
section
variable {s : SS} {d : Int}
theorem item_keys (h : InvD d s) (f : Few s) {q : Int × Sheet} (hq : q ∈ s.items) : KeyIn q.1 := by
 have h1 := (h.it _ _ (look_mem h.ki hq))
 have h2 := h1.2.id
 have := f.la
 unfold KeyIn; omega
theorem piece_keys (h : InvD d s) (f : Few s) {q : Int × Piece} (hq : q ∈ s.pieces) : KeyIn q.1 := by
 have h1 := (h.pc _ _ (look_mem h.kp hq))
 have h2 := h1.2.id
 have := f.la
 unfold KeyIn; omega
theorem lot_keys (h : InvD d s) {q : Int × Kin} (hq : q ∈ s.lots) : KeyIn q.1 := by
 have h1 := (h.lo _ _ (look_mem h.kl hq)).1
 unfold KeyIn; omega
theorem Zip.mem_key {V : Type} {R : V → Value → Prop} {L : List (Int × V)} {M : List (Int × Value)} (h : Zip R L M) {q : Int × Value} (hq : q ∈ M) : ∃ p ∈ L, p.1 = q.1 := by
 have : q.1 ∈ M.map (·.1) := List.mem_map.2 ⟨q, hq, rfl⟩
 rw [h.keys] at this
 obtain ⟨p, hp, he⟩ := List.mem_map.1 this
 exact ⟨p, hp, he⟩
end
set_option maxRecDepth 100000 in
set_option maxHeartbeats 2000000 in
theorem items_any (p : Fp) (s : SS) (w : World) (hX : StA w p s) (hI : Inv s) (hF : Few s) : Calls Tryz.prog 37 #[.pointer (some ⟨p.g, 0, none⟩)] w (ItemsPost (itemsL s) w) := by
 have HI := hide hI
 have HF := hide hF
 have c5 := hX.blk.cell_ 5 (v := .bool true) rfl
 have c6 := hX.blk.cell_ 6 (v := .map (some p.ri)) rfl
 have hg := hX.blk.lt
 obtain ⟨MI, hM, hZ⟩ := hX.items
 have hr := hM.lt
 have HZ := hide hZ
 clear hI hF hZ
 go_enter Tryz.func37, Tryz.ntmps37
 go_wp2_with fail
 refine (none_any p.g _ c5).mono ?_
 rintro e W' ⟨rfl, rfl⟩
 clear c5
 go_wp2_with fail
 refine (keys_items (some p.ri) w).mono ?_
 rintro e w1 ⟨rfl, hw1⟩
 have hb1 : Below w.heap.size w w1 := by rw [hw1]; exact (Below.refl _ _).alloc (Nat.le_refl _) _
 have hm1 : w1.cell? ⟨w.heap.size, 0, none⟩ = some (.map (some p.ri)) := by rw [hw1]; exact (Blk.new w _ _).cell_ 0 rfl
 have hlt1 : w.heap.size < w1.heap.size := by rw [hw1]; simp
 clear hw1
 go_wp2_with fail
 refine (sorted_items w.heap.size p.ri MI w1 hm1 hlt1 (hM.below hb1 hr) (fun q hq => by obtain ⟨q', h1, h2⟩ := HZ.out.mem_key hq; rw [← h2]; exact item_keys HI.out HF.out h1) (by have := HF.out.it; rw [HZ.out.1]; exact this)).mono ?_
 rintro e w2 ⟨AK, cK, rfl, hK, hb2⟩
 have hks : Hid (keysS MI = keysS s.items) := HZ.out.keysS
 rw [hks.out] at hK
 rw [hks.out]
 replace hb2 := hb1.trans (hb2.mono (by omega))
 have hX2 := hX.below hb2
 have c6' := (hb2.cell (p := ⟨p.g, 6, none⟩) hg).trans c6
 clear hm1 hlt1 hb1 c6 hX hM HZ hks
 obtain ⟨ks, hks⟩ := nm_ (keysS s.items)
 have HKS := hide hks
 have hkl : ks.length ≤ 1000000 := by rw [← hks, keys_len]; exact HF.out.it
 rw [hks] at hK
 rw [hks]
 clear hks
 obtain ⟨MI, hM, hZ⟩ := hX2.items
 have hr2 := hM.lt
 have hg2 := hX2.blk.lt
 have HZ := hide hZ
 clear hZ hX2
 go_upto_block 5 with fail
 go_loopw [3, 16] (fun v z wr => ∃ (i : Nat) (hs : List SH), z = .int .i64 i ∧ i ≤ ks.length ∧ hs.length = i ∧ Own wr w2.heap.size 93 9 SH.enc v hs ∧ ShsIn wr hs ((ks.take i).filterMap (look s.items)) ∧ Below w2.heap.size w2 wr) (fun _ z _ => ks.length - (intOf z).toNat)
 case atStart => exact ⟨0, [], rfl, Nat.zero_le _, rfl, Own.nil_, ShsIn.nil_ _, Below.refl _ _⟩
 case round =>
  obtain ⟨W, rfl⟩ := is_ wr
  obtain ⟨i, hs, rfl, hi, hhl, hO, hS, hB⟩ := hrel
  have hBs := hB.size
  by_cases hlt : i < ks.length
  ·obtain ⟨k, bK, oK, hk, hA, hbK, d0⟩ := ints_at' (hK.below hB) hlt
   have hii : (i : Int) < (ks.length : Int) := by omega
   have ei := wsuc i (by omega)
   obtain ⟨x, hx⟩ := keys_at (M := s.items) HI.out.ki (i := i) (k := k) (by rw [HKS.out]; exact hk)
   obtain ⟨v, hv, hV⟩ := HZ.out.look_ hx
   obtain ⟨A, c, rfl, hSV⟩ := hV.sh
   have hV' := hSV.below hB
   have hfl : x.faults.length ≤ 100000 := by have := (HI.out.it _ _ hx).2.n; omega
   have lk := (hM.below hB hr2).look_yes (P := Tryz.prog) (t := 62) Tryz.underlying62 Tryz.underlying3 hv false
   have HT : Hid ((ks.take (i + 1)).filterMap (look s.items) = (ks.take i).filterMap (look s.items) ++ [x]) := by
    show _ = _
    rw [← HKS.out]; exact vals_take (by rw [HKS.out]; exact hk) hx
   have c6 := (hB.cell (p := ⟨p.g, 6, none⟩) hg2).trans c6'
   have HX := hide hx
   subst hA
   clear hk hv hx hV hSV
   unfold Sheet.valAt at lk
   have hb := Blk.new W 93 ↑(x, A, c)
   have hal := (Below.refl W.heap.size W).alloc (Nat.le_refl _) (.cells ↑(x, A, c) 93)
   have HON := hide hO.lts
   replace hV' := hV'.below hal
   replace hO := hO.below hal
   replace hS := hS.below hal
   replace hB := hB.trans (hal.mono hB.size)
   go_upto_region 8 with fail
   clear d0 lk c6 hal
   generalize hWn : W.heap.size = bx at *
   generalize W.alloc (.cells ↑(x, A, c) 93) = W3 at *
   clear hWn
   have q8 := hb.cell_ 8 (v := .slice A x.faults.length c) rfl
   go_wp2_with fail
   refine (cloneSpan_any A c x.faults W3 hfl hV'.slc).mono ?_
   rintro e W4 ⟨A', c', rfl, hb4, hS4, hO4⟩
   have hV4 := ShV.made (x := x) hS4 hO4
   replace hb := hb.below hb4 hb.lt
   replace hO := hO.below hb4
   replace hS := hS.below hb4
   replace hB := hB.trans (hb4.mono hB.size)
   clear q8 hV' hb4 hS4 hO4
   go_upto_region 9 with (refine wpList_store_at rfl 41 _ _ rfl (.slice A' x.faults.length c') hb rfl rfl (by kernel_rfl) rfl (by simp) rfl ?_; intro W5 hb5 hc5)
   have hb5' : Blk W5 bx 93 (SH.of x A' c').enc.toArray := hb5
   have hne5 : ∀ k, k = bx → NoSpan W4 k := fun k hk => by subst hk; exact NoSpan.blk hb (by decide)
   replace hV4 := hV4.chg hc5 hne5
   replace hS := hS.chg hc5 hne5
   replace hO := hO.chgN hc5 fun k hk he => by have := HON.out k hk; omega
   replace hB := hB.trans (hc5.below1 hB.size (by omega))
   clear hb hb5 hc5 hne5
   try dsimp only [Act.put]
   have q0 := hb5'.cell_ 0 (v := x.id) rfl
   have q1 := hb5'.cell_ 1 (v := x.root) rfl
   have q2 := hb5'.cell_ 2 (v := x.grade) rfl
   have q3 := hb5'.cell_ 3 (v := x.colour) rfl
   have q4 := hb5'.cell_ 4 (v := x.lot) rfl
   have q5 := hb5'.cell_ 5 (v := x.made) rfl
   have q6 := hb5'.cell_ 6 (v := x.width) rfl
   have q7 := hb5'.cell_ 7 (v := x.length) rfl
   have q8 := hb5'.cell_ 8 (v := .slice A' x.faults.length c') rfl
   have hlen : hs.length + 1 ≤ 1000000000 := by omega
   go_wp2_with (at_builtin; refine wpList_app_own (base := w2.heap.size) (f := SH.enc) (ys := [SH.of x A' c']) _ _ rfl rfl et_sheet (hO.alloc _) rfl rfl ((Blk.new W5 93 (SH.of x A' c').enc.toArray).slc1 rfl) rfl sh_len sh_one (by simp <;> omega) (by have := hB.size; simp <;> omega) ?_; intro v6 W6 hO6 hb6 hg6)
   have hal := (Below.refl W5.heap.size W5).alloc (Nat.le_refl _) (.cells (SH.of x A' c').enc.toArray 93)
   have hS6 := ((hS.below hal).grown (hO.alloc _) (by decide) hg6).snoc ((hV4.below hal).grown (hO.alloc _) (by decide) hg6)
   replace hB := (hB.trans (hal.mono hB.size)).trans hb6
   rw [← HT.out] at hS6
   clear q0 q1 q2 q3 q4 q5 q6 q7 q8 hb5' hV4 hS hO hal hb6 hg6 HON
   go_roundw
   case rel => exact ⟨i + 1, hs ++ [SH.of x A' c'], by go_num, by omega, by simp [hhl], hO6, hS6, hB⟩
   case measure => simp [intOf]; omega
  ·obtain rfl : i = ks.length := by omega
   rw [List.take_length] at hS
   have hS9 : ShsIn W hs (itemsL s) := by unfold itemsL valsS; rw [HKS.out]; exact hS
   obtain ⟨A, c, rfl, hsl⟩ := hO.form sh_len
   have HOF := hide (hO.from_ hb2.size)
   have hn9 : hs.length = (itemsL s).length := hS9.len
   have HN9 := hide hn9
   have hB9 := hb2.trans (hB.mono hb2.size)
   clear hn9
   go_wp2_with fail
   go_ret
   exact ⟨A, c, hs, by rw [HN9.out]; rfl, hsl, hS9, hB9, HOF.out⟩
set_option maxRecDepth 100000 in
set_option maxHeartbeats 2000000 in
theorem pieces_any (p : Fp) (s : SS) (w : World) (hX : StA w p s) (hI : Inv s) (hF : Few s) : Calls Tryz.prog 38 #[.pointer (some ⟨p.g, 0, none⟩)] w (PiecesPost (piecesL s) w) := by
 have HI := hide hI
 have HF := hide hF
 have c5 := hX.blk.cell_ 5 (v := .bool true) rfl
 have c7 := hX.blk.cell_ 7 (v := .map (some p.rp)) rfl
 have hg := hX.blk.lt
 have hM := hX.pieces
 have hr := hM.lt
 clear hI hF
 go_enter Tryz.func38, Tryz.ntmps38
 go_wp2_with fail
 refine (none_any p.g _ c5).mono ?_
 rintro e W' ⟨rfl, rfl⟩
 clear c5
 go_wp2_with fail
 refine (keys_pieces (some p.rp) w).mono ?_
 rintro e w1 ⟨rfl, hw1⟩
 have hb1 : Below w.heap.size w w1 := by rw [hw1]; exact (Below.refl _ _).alloc (Nat.le_refl _) _
 have hm1 : w1.cell? ⟨w.heap.size, 0, none⟩ = some (.map (some p.rp)) := by rw [hw1]; exact (Blk.new w _ _).cell_ 0 rfl
 have hlt1 : w.heap.size < w1.heap.size := by rw [hw1]; simp
 clear hw1
 go_wp2_with fail
 refine (sorted_pieces w.heap.size p.rp _ w1 hm1 hlt1 (hM.below hb1 hr) (fun q hq => by obtain ⟨q', h1, rfl⟩ := List.mem_map.1 hq; exact piece_keys HI.out HF.out h1) (by have := HF.out.pc; simpa using this)).mono ?_
 rintro e w2 ⟨AK, cK, rfl, hK, hb2⟩
 rw [keysS_kv] at hK
 rw [keysS_kv]
 replace hb2 := hb1.trans (hb2.mono (by omega))
 have hM2 := hM.below hb2 hr
 have c7' := (hb2.cell (p := ⟨p.g, 7, none⟩) hg).trans c7
 clear hm1 hlt1 hb1 c7 hX hM
 obtain ⟨ks, hks⟩ := nm_ (keysS s.pieces)
 have HKS := hide hks
 have hkl : ks.length ≤ 1000000 := by rw [← hks, keys_len]; exact HF.out.pc
 rw [hks] at hK
 rw [hks]
 clear hks
 have hr2 := hM2.lt
 have hg2 : p.g < w2.heap.size := by have := hb2.size; omega
 go_upto_block 5 with fail
 go_loopw [3, 15] (fun v z wr => ∃ (i : Nat) (ls : List Piece), z = .int .i64 i ∧ i ≤ ks.length ∧ ls.length = i ∧ Hid (ls = (ks.take i).filterMap (look s.pieces)) ∧ Own wr w2.heap.size 96 8 Piece.enc v ls ∧ Below w2.heap.size w2 wr) (fun _ z _ => ks.length - (intOf z).toNat)
 case atStart => exact ⟨0, [], rfl, Nat.zero_le _, rfl, rfl, Own.nil_, Below.refl _ _⟩
 case round =>
  obtain ⟨W, rfl⟩ := is_ wr
  obtain ⟨i, ls, rfl, hi, hhl, HL, hO, hB⟩ := hrel
  have hBs := hB.size
  by_cases hlt : i < ks.length
  ·obtain ⟨k, bK, oK, hk, hA, hbK, d0⟩ := ints_at' (hK.below hB) hlt
   have hii : (i : Int) < (ks.length : Int) := by omega
   have ei := wsuc i (by omega)
   obtain ⟨x, hx⟩ := keys_at (M := s.pieces) HI.out.kp (i := i) (k := k) (by rw [HKS.out]; exact hk)
   have lk := (hM2.below hB hr2).look_yes (P := Tryz.prog) (t := 63) Tryz.underlying63 Tryz.underlying3 (look_kv_some hx) false
   have HT : Hid (ls ++ [x] = (ks.take (i + 1)).filterMap (look s.pieces)) := by
    show _ = _
    rw [HL.out, ← HKS.out]; exact (vals_take (by rw [HKS.out]; exact hk) hx).symm
   have c7 := (hB.cell (p := ⟨p.g, 7, none⟩) hg2).trans c7'
   subst hA
   clear hk hx
   unfold Piece.val at lk
   go_wp2_with (at_builtin; refine wpList_app_own (base := w2.heap.size) (f := Piece.enc) (ys := [x]) _ _ rfl rfl et_piece (hO.alloc _) rfl rfl ((Blk.new W 96 x.enc.toArray).slc1 rfl) rfl pce_len pce_one (by simp <;> omega) (by have := hB.size; simp <;> omega) ?_; intro v6 W6 hO6 hb6 hg6)
   have hal := (Below.refl W.heap.size W).alloc (Nat.le_refl _) (.cells x.enc.toArray 96)
   replace hB := (hB.trans (hal.mono hB.size)).trans hb6
   clear d0 lk c7 hO hal hb6 hg6
   go_roundw
   case rel => exact ⟨i + 1, ls ++ [x], by go_num, by omega, by simp [hhl], HT, hO6, hB⟩
   case measure => simp [intOf]; omega
  ·obtain rfl : i = ks.length := by omega
   have h9 : Hid (ls = piecesL s) := by show _ = _; unfold piecesL valsS; rw [HKS.out, HL.out, List.take_length]
   obtain ⟨A, c, rfl, hsl⟩ := hO.form pce_len
   have HOF := hide (hO.from_ hb2.size)
   have hB9 := hb2.trans (hB.mono hb2.size)
   go_wp2_with fail
   go_ret
   exact ⟨A, c, by rw [← h9.out]; rfl, by rw [← h9.out]; exact hsl, hB9, HOF.out⟩
end Go.Proofs.YtehlbomkldnalaaGreat

/- Scrap, Use and Return: the walks. -/
namespace Go.Proofs.YtehlbomkldnalaaGreat
open Go Go.RowKit
theorem exec_del {P : Program} {o : Oper} {a : Act} {m x : Operand} {t k : TypeId} {v y v' : Value} {w w' : World} (ho : o.op = .call { callee := .builtin .delete, args := #[m, x], argTypes := #[t, k] }) (hs : a.eval m = v) (hx : a.eval x = y) (hr : (Builtin.delete_ #[t, k] o.type #[v, y]).run P w = .ok v' w') : (execOp a.eval o).run P w = .ok (.value v') w' := by
 unfold execOp
 simp only [ho, resolve, invoke, builtin, Sem.run_bind, Sem.run_pure, Result.andThen_ok, List.map_toArray, List.map_cons, List.map_nil, hs, hx, hr]
theorem wpList_del_im {P : Program} {ops : Array Oper} {rest : List Oper} {o : Oper} {a : Act} {Q : Exit → Act → World → Prop} {w : World} {M : List (Int × Value)} (hg : o.guard = none) (hd : o.dst = none) (m x : Operand) (t k : TypeId) (hop : o.op = .call { callee := .builtin .delete, args := #[m, x], argTypes := #[t, k] })
  (e : TypeId) (ht : P.underlying t = some (.map k e)) (hk : P.underlying k = some (.int .i64)) (r : Nat) (hm : a.eval m = .map (some r)) (h : MapOf w r M) (n : Int) (hx : a.eval x = .int .i64 n)
  (hK : ∀ w', MapOf w' r (del M n) → w.grownBy w' (some r) → wpList P ops Q rest a w') : wpList P ops Q (o :: rest) a w := by
 refine wpList_plain hg fun K' hK' => ?_
 obtain ⟨w', hrun, h1, h2⟩ := h.run_del (P := P) (n := n) (ty := o.type) ht hk
 unfold Oper.wp
 rw [exec_del hop hm hx hrun]
 refine hK' _ _ ?_
 rw [hd]
 exact hK w' h1 h2
theorem StA.del_item {w w' : World} {p : Fp} {s : SS} {k : Int} {MI : List (Int × Value)} (h : StA w p s) (hg : w.grownBy w' (some p.ri)) (hz : Zip (ItV w) s.items MI) (hM : MapOf w' p.ri (del MI k)) : StA w' p { s with items := del s.items k } := h.upd_items hg hM hz.filter_
theorem StA.del_piece {w w' : World} {p : Fp} {s : SS} {k : Int} (h : StA w p s) (hg : w.grownBy w' (some p.rp)) (hM : MapOf w' p.rp (del (s.pieces.map (kv Piece.val)) k)) : StA w' p { s with pieces := del s.pieces k } := h.upd_pieces hg (by rw [← del_kv]; exact hM)
theorem item_area {d : Int} {s : SS} (h : InvD d s) {k : Int} {x : Sheet} (hx : look s.items k = some x) : 0 ≤ x.width * x.length ∧ x.width * x.length ≤ 900000 := by
 have ho := (h.it _ _ hx).2
 have h1 := ho.w; have h2 := ho.l
 exact mul_le_mul0 (b := 150) (e := 6000) (by omega) h1.2 (by omega) h2.2
theorem piece_area {d : Int} {s : SS} (h : InvD d s) {k : Int} {x : Piece} (hx : look s.pieces k = some x) : 0 ≤ x.width * x.length ∧ x.width * x.length ≤ 900000 := by
 have ho := (h.pc _ _ hx).2
 have h1 := ho.w; have h2 := ho.l
 exact mul_le_mul0 (b := 150) (e := 6000) (by omega) h1.2 (by omega) h2.2
theorem sum_nonneg {V : Type} {f : V → Int} {M : List (Int × V)} (h : ∀ q ∈ M, 0 ≤ f q.2) : 0 ≤ sumM f M := by
 induction M with
 | nil => simp [sumM]
 | cons q M ih =>
  have h1 := h q (List.mem_cons_self ..)
  have h2 := ih fun p hp => h p (List.mem_cons_of_mem _ hp)
  rw [sumM_cons]; omega
/-- the waste is bounded by what was received -/
theorem waste_bd {s : SS} (h : Inv s) (f : Few s) : 0 ≤ s.waste ∧ s.waste ≤ 1000000000000000 := by
 have h1 := h.ba
 have h2 : 0 ≤ sumM areaS s.items := sum_nonneg fun q hq => (item_area h (look_mem h.ki hq)).1
 have h3 : 0 ≤ sumM areaP s.pieces := sum_nonneg fun q hq => (piece_area h (look_mem h.kp hq)).1
 have := f.re; have := h.wa
 omega
abbrev zeroSheet : Obj := .cells ↑zsA 93
set_option maxRecDepth 100000 in
set_option maxHeartbeats 2000000 in
theorem scrap_any (p : Fp) (s : SS) (id : Int) (w : World) (hX : StA w p s) (hI : Inv s) (hF : Few s) : Calls Tryz.prog 29 #[.pointer (some ⟨p.g, 0, none⟩), id] w fun e w' => e = .returned (.int .i64 (scrapE s id)) ∧ StA w' p (scrapF s id) ∧ Chg p.has w w' := by
 have c6 := hX.blk.cell_ 6 (v := .map (some p.ri)) rfl
 have c7 := hX.blk.cell_ 7 (v := .map (some p.rp)) rfl
 obtain ⟨MI, hM, hZ⟩ := hX.items
 cases hi : look s.items id with
 | some x =>
  have HE : Hid (scrapE s id = 0 ∧ scrapF s id = { s with items := del s.items id, waste := s.waste + x.width * x.length }) := ⟨by unfold scrapE; rw [hi]; rfl, by unfold scrapF; rw [hi]⟩
  obtain ⟨v, hv, hV⟩ := hZ.look_ hi
  obtain ⟨A, c, rfl, hSV⟩ := hV.sh
  have lk := hM.look_yes (P := Tryz.prog) (t := 62) Tryz.underlying62 Tryz.underlying3 hv true
  have HAR := hide (item_area hI hi)
  unfold Sheet.valAt at lk
  clear hi hv hV hSV c7
  have HI := hide hI
  have HF := hide hF
  have HWB := hide (waste_bd hI hF)
  have c5 := hX.blk.cell_ 5 (v := .bool true) rfl
  have hg := hX.blk.lt
  have hC : Chg p.has w w := Chg.refl _ _
  clear hI hF
  go_enter Tryz.func29, Tryz.ntmps29
  go_wp2_with fail
  refine (none_any p.g _ c5).mono ?_
  rintro e W' ⟨rfl, rfl⟩
  clear c5
  have hx := Blk.new w 93 ↑(x, A, c)
  have hal := (Below.refl w.heap.size w).alloc (Nat.le_refl _) (.cells ↑(x, A, c) 93)
  replace hX := hX.below hal
  replace hC := hC.trans (.of_below hal)
  clear hal
  go_upto_region 4 with fail
  clear lk c6 hg hM hZ
  obtain ⟨W, hW⟩ : ∃ X : World, X = w.alloc (.cells ↑(x, A, c) 93) := ⟨_, rfl⟩
  rw [← hW] at hX hC hx ⊢
  clear hW
  have c12 := hX.blk.cell_ 12 (v := s.waste) rfl
  have e1 := IntWalk.i64_in (x.width * x.length) (by have := HAR.out; omega)
  have e2 := IntWalk.i64_in (s.waste + x.width * x.length) (by have := HAR.out; have := HWB.out; omega)
  go_wp2_with fail
  obtain ⟨x0, x1, x2, x3, x4, x5, x6, x7, x8⟩ := hx.all9
  refine wp_region_qt 12 (by kernel_rfl) (by kernel_rfl) ?_
  simp only [List.take_succ_cons, List.take_zero, List.drop_succ_cons, List.drop_zero]
  obtain ⟨y_x0, y_x1, y_x2, y_x3, y_x4, y_x5, y_x6, y_x7, y_x8⟩ := Since.c9 x0 x1 x2 x3 x4 x5 x6 x7 x8
  have y_c12 := Since.cell c12
  clear x0 x1 x2 x3 x4 x5 x6 x7 x8
  repeat (go_big_quiet_step ((fail)))
  refine wpQuiet_nil ?_
  rintro W ⟨⟨_, hb⟩, rfl⟩
  try dsimp only at hb ⊢
  replace c12 := sat y_c12 hb
  clear y_x0 y_x1 y_x2 y_x3 y_x4 y_x5 y_x6 y_x7 y_x8 y_c12
  replace hX := StA.below hX hb
  replace hC := Chg.trans hC (Chg.of_below hb)
  replace hx := hx.below hb hx.lt
  clear hb
  obtain ⟨x0, x1, x2, x3, x4, x5, x6, x7, x8⟩ := hx.all9
  clear x0 x1 x2 x3 x4 x5 x6 x7 x8
  go_upto_region 6 with (refine wpList_store_at rfl 3 _ _ rfl (.int .i64 (s.waste + x.width * x.length)) hX.blk rfl rfl (by kernel_rfl) rfl (by simp [storeCells_]) rfl ?_; intro W3 hB3 hc3)
  have hX3 := hX.upd_blk (s' := { s with waste := s.waste + x.width * x.length }) hc3 hB3 (by simp [storeCells_]) rfl rfl rfl rfl
  have hC3 : Chg p.has w W3 := hC.trans (hc3.mono fun k _ hk => .inl hk)
  have hx3 := hx.chg1 hc3 (hx.ne_ hX.blk (by decide))
  clear hX hC hx hB3 hc3 c12 e1 e2
  obtain ⟨MI, hM, hZ⟩ := hX3.items
  have c6 := hX3.blk.cell_ 6 (v := .map (some p.ri)) rfl
  try dsimp only [Act.put]
  go_upto_region 7 with (refine wpList_del_im rfl rfl _ _ _ _ rfl _ Tryz.underlying62 Tryz.underlying3 p.ri rfl hM id rfl ?_; intro W4 hM4 hg4)
  have hX4 := hX3.del_item hg4 hZ hM4
  have hC4 : Chg p.has w W4 := hC3.trans (.of_grown hg4 (by simp [Fp.has]))
  go_wp2_with fail
  go_ret
  rw [HE.out.1, HE.out.2]
  exact ⟨rfl, hX4, hC4⟩
 | none =>
  have lk := hM.look_no (P := Tryz.prog) (t := 62) (z := .agg ↑zsA) Tryz.underlying62 Tryz.underlying3 (fun w => by kernel_rfl) (hZ.look_no hi) true
  clear hM hZ
  cases hp : look s.pieces id with
  | some x =>
   have HE : Hid (scrapE s id = 0 ∧ scrapF s id = { s with pieces := del s.pieces id, waste := s.waste + x.width * x.length }) := ⟨by unfold scrapE; rw [hi, hp]; rfl, by unfold scrapF; rw [hi, hp]⟩
   have lk2 : ∀ o, (Instr.lookup 63 (.map (some p.rp)) (.int .i64 id) true).run Tryz.prog (w.alloc o) = .ok (.tuple #[x.val, .bool true]) (w.alloc o) := fun o => (hX.pieces.alloc o).look_yes (P := Tryz.prog) (t := 63) Tryz.underlying63 Tryz.underlying3 (look_kv_some hp) true
   have HAR := hide (piece_area hI hp)
   unfold Piece.val at lk2
   clear hi hp
   have HI := hide hI
   have HF := hide hF
   have HWB := hide (waste_bd hI hF)
   have c5 := hX.blk.cell_ 5 (v := .bool true) rfl
   have hg := hX.blk.lt
   have hC : Chg p.has w w := Chg.refl _ _
   clear hI hF
   go_enter Tryz.func29, Tryz.ntmps29
   go_wp2_with fail
   refine (none_any p.g _ c5).mono ?_
   rintro e W' ⟨rfl, rfl⟩
   clear c5
   have hal := (Below.refl w.heap.size w).alloc (Nat.le_refl _) zeroSheet
   replace hX := hX.below hal
   replace hC := hC.trans (.of_below hal)
   clear hal
   go_upto_region 8 with fail
   replace lk2 := lk2 zeroSheet
   clear lk c6
   obtain ⟨W, hW⟩ : ∃ X : World, X = w.alloc zeroSheet := ⟨_, rfl⟩
   rw [show w.alloc zeroSheet = W from hW.symm] at lk2
   rw [← hW] at hX hC ⊢
   have c7 := hX.blk.cell_ 7 (v := .map (some p.rp)) rfl
   clear hW
   have hx := Blk.new W 96 ↑x
   have hal := (Below.refl W.heap.size W).alloc (Nat.le_refl _) (.cells ↑x 96)
   replace hX := hX.below hal
   replace hC := hC.trans (.of_below hal)
   clear hal
   go_upto_region 9 with fail
   clear lk2 c7
   obtain ⟨W2, hW⟩ : ∃ X : World, X = W.alloc (.cells ↑x 96) := ⟨_, rfl⟩
   rw [← hW] at hX hC hx
   rw [← hW]
   clear hW
   obtain ⟨W, rfl⟩ := is_ W2
   have c12 := hX.blk.cell_ 12 (v := s.waste) rfl
   have e1 := IntWalk.i64_in (x.width * x.length) (by have := HAR.out; omega)
   have e2 := IntWalk.i64_in (s.waste + x.width * x.length) (by have := HAR.out; have := HWB.out; omega)
   go_wp2_with fail
   obtain ⟨x0, x1, x2, x3, x4, x5, x6, x7⟩ := hx.all8
   refine wp_region_qt 12 (by kernel_rfl) (by kernel_rfl) ?_
   simp only [List.take_succ_cons, List.take_zero, List.drop_succ_cons, List.drop_zero]
   obtain ⟨y_x0, y_x1, y_x2, y_x3, y_x4, y_x5, y_x6, y_x7⟩ := Since.c8 x0 x1 x2 x3 x4 x5 x6 x7
   have y_c12 := Since.cell c12
   clear x0 x1 x2 x3 x4 x5 x6 x7
   repeat (go_big_quiet_step ((fail)))
   refine wpQuiet_nil ?_
   rintro W ⟨⟨_, hb⟩, rfl⟩
   try dsimp only at hb ⊢
   replace c12 := sat y_c12 hb
   clear y_x0 y_x1 y_x2 y_x3 y_x4 y_x5 y_x6 y_x7 y_c12
   replace hX := StA.below hX hb
   replace hC := Chg.trans hC (Chg.of_below hb)
   replace hx := hx.below hb hx.lt
   clear hb
   obtain ⟨x0, x1, x2, x3, x4, x5, x6, x7⟩ := hx.all8
   clear x0 x1 x2 x3 x4 x5 x6 x7
   go_upto_region 12 with (refine wpList_store_at rfl 3 _ _ rfl (.int .i64 (s.waste + x.width * x.length)) hX.blk rfl rfl (by kernel_rfl) rfl (by simp [storeCells_]) rfl ?_; intro W3 hB3 hc3)
   have hX3 := hX.upd_blk (s' := { s with waste := s.waste + x.width * x.length }) hc3 hB3 (by simp [storeCells_]) rfl rfl rfl rfl
   have hC3 : Chg p.has w W3 := hC.trans (hc3.mono fun k _ hk => .inl hk)
   have hx3 := hx.chg1 hc3 (hx.ne_ hX.blk (by decide))
   clear hX hC hx hB3 hc3 c12 e1 e2
   have hM := hX3.pieces
   have c7 := hX3.blk.cell_ 7 (v := .map (some p.rp)) rfl
   try dsimp only [Act.put]
   go_upto_region 13 with (refine wpList_del_im rfl rfl _ _ _ _ rfl _ Tryz.underlying63 Tryz.underlying3 p.rp rfl hM id rfl ?_; intro W4 hM4 hg4)
   have hX4 := hX3.del_piece hg4 hM4
   have hC4 : Chg p.has w W4 := hC3.trans (.of_grown hg4 (by simp [Fp.has]))
   go_wp2_with fail
   go_ret
   rw [HE.out.1, HE.out.2]
   exact ⟨rfl, hX4, hC4⟩
  | none =>
   have HE : Hid (scrapE s id = 5 ∧ scrapF s id = s) := ⟨by unfold scrapE; rw [hi, hp]; rfl, by unfold scrapF; rw [hi, hp]⟩
   have lk2 : ∀ o, (Instr.lookup 63 (.map (some p.rp)) (.int .i64 id) true).run Tryz.prog (w.alloc o) = .ok (.tuple #[.agg ↑zpA, .bool false]) (w.alloc o) := fun o => (hX.pieces.alloc o).look_no (P := Tryz.prog) (t := 63) Tryz.underlying63 Tryz.underlying3 (fun w => by kernel_rfl) (look_kv_none hp) true
   clear hi hp
   have HI := hide hI
   have HF := hide hF
   have HWB := hide (waste_bd hI hF)
   have c5 := hX.blk.cell_ 5 (v := .bool true) rfl
   have hg := hX.blk.lt
   have hC : Chg p.has w w := Chg.refl _ _
   clear hI hF
   go_enter Tryz.func29, Tryz.ntmps29
   go_wp2_with fail
   refine (none_any p.g _ c5).mono ?_
   rintro e W' ⟨rfl, rfl⟩
   clear c5
   have hal := (Below.refl w.heap.size w).alloc (Nat.le_refl _) zeroSheet
   replace hX := hX.below hal
   replace hC := hC.trans (.of_below hal)
   clear hal
   go_upto_region 8 with fail
   replace lk2 := lk2 zeroSheet
   clear lk c6
   obtain ⟨W, hW⟩ : ∃ X : World, X = w.alloc zeroSheet := ⟨_, rfl⟩
   rw [show w.alloc zeroSheet = W from hW.symm] at lk2
   rw [← hW] at hX hC ⊢
   have c7 := hX.blk.cell_ 7 (v := .map (some p.rp)) rfl
   clear hW
   have hal := (Below.refl W.heap.size W).alloc (Nat.le_refl _) (.cells ↑zpA 96)
   replace hX := hX.below hal
   replace hC := hC.trans (.of_below hal)
   clear hal
   go_wp2_with fail
   go_ret
   rw [HE.out.1, HE.out.2]
   exact ⟨rfl, hX, hC⟩
end Go.Proofs.YtehlbomkldnalaaGreat

/- Use and Return of the store: the walks. -/
namespace Go.Proofs.YtehlbomkldnalaaGreat
open Go Go.RowKit
abbrev zeroPiece : Obj := .cells ↑zpA 96
theorem StA.put_piece {w w' : World} {p : Fp} {s : SS} {k : Int} {x : Piece} (h : StA w p s) (hg : w.grownBy w' (some p.rp)) (hM : MapOf w' p.rp (put (s.pieces.map (kv Piece.val)) k x.val)) : StA w' p { s with pieces := put s.pieces k x } := h.upd_pieces hg (by rw [← put_kv]; exact hM)
theorem within_is (a n b : Int) (w : World) {v : Bool} (h : inB a n b = v) : Calls Tryz.prog 47 #[a, n, b] w fun e w' => e = .returned (.bool v) ∧ w = w' := by
 subst h; exact within_any a n b w
set_option maxRecDepth 100000 in
set_option maxHeartbeats 2000000 in
theorem use_any (p : Fp) (s : SS) (id what : Int) (w : World) (hX : StA w p s) (hI : Inv s) (hF : Few s) : Calls Tryz.prog 25 #[.pointer (some ⟨p.g, 0, none⟩), id, what] w fun e w' => e = .returned (.int .i64 (useE s id what)) ∧ StA w' p (useS s id what) ∧ Chg p.has w w' := by
 have c7 := hX.blk.cell_ 7 (v := .map (some p.rp)) rfl
 cases hw : inB 1 what 1000000000 with
 | false =>
  have HE : Hid (useE s id what = 2 ∧ useS s id what = s) := by
   have h1 : useE s id what = 2 := by unfold useE; rw [hw]; rfl
   exact ⟨h1, by unfold useS; rw [h1]; rfl⟩
  have HI := hide hI
  have HF := hide hF
  have HWB := hide (waste_bd hI hF)
  have c5 := hX.blk.cell_ 5 (v := .bool true) rfl
  have hg := hX.blk.lt
  have hC : Chg p.has w w := Chg.refl _ _
  clear hI hF
  go_enter Tryz.func25, Tryz.ntmps25
  go_wp2_with fail
  refine (none_any p.g _ c5).mono ?_
  rintro e W' ⟨rfl, rfl⟩
  clear c5
  go_wp2_with fail
  refine (within_is 1 what 1000000000 _ hw).mono ?_
  rintro e W' ⟨rfl, rfl⟩
  go_wp2_with fail
  go_ret
  rw [HE.out.1, HE.out.2]
  exact ⟨rfl, hX, hC⟩
 | true =>
  cases hp : look s.pieces id with
  | none =>
   have HE : Hid (useE s id what = 5 ∧ useS s id what = s) := by
    have h1 : useE s id what = 5 := by unfold useE; rw [hw, hp]; rfl
    exact ⟨h1, by unfold useS; rw [h1]; rfl⟩
   have lk := hX.pieces.look_no (P := Tryz.prog) (t := 63) (z := .agg ↑zpA) Tryz.underlying63 Tryz.underlying3 (fun w => by kernel_rfl) (look_kv_none hp) true
   clear hp
   have HI := hide hI
   have HF := hide hF
   have HWB := hide (waste_bd hI hF)
   have c5 := hX.blk.cell_ 5 (v := .bool true) rfl
   have hg := hX.blk.lt
   have hC : Chg p.has w w := Chg.refl _ _
   clear hI hF
   go_enter Tryz.func25, Tryz.ntmps25
   go_wp2_with fail
   refine (none_any p.g _ c5).mono ?_
   rintro e W' ⟨rfl, rfl⟩
   clear c5
   go_wp2_with fail
   refine (within_is 1 what 1000000000 _ hw).mono ?_
   rintro e W' ⟨rfl, rfl⟩
   clear hw
   have hal := (Below.refl w.heap.size w).alloc (Nat.le_refl _) zeroPiece
   replace hX := hX.below hal
   replace hC := hC.trans (.of_below hal)
   clear hal
   go_wp2_with fail
   go_ret
   rw [HE.out.1, HE.out.2]
   exact ⟨rfl, hX, hC⟩
  | some x =>
   have lk := hX.pieces.look_yes (P := Tryz.prog) (t := 63) Tryz.underlying63 Tryz.underlying3 (look_kv_some hp) true
   unfold Piece.val at lk
   have HP := hide hp
   have HW := hide hw
   clear hp
   have hx := Blk.new w 96 ↑x
   have hal := (Below.refl w.heap.size w).alloc (Nat.le_refl _) (.cells ↑x 96)
   have HI := hide hI
   have HF := hide hF
   have HWB := hide (waste_bd hI hF)
   have c5 := hX.blk.cell_ 5 (v := .bool true) rfl
   have hg := hX.blk.lt
   have hC : Chg p.has w w := Chg.refl _ _
   clear hI hF
   go_enter Tryz.func25, Tryz.ntmps25
   go_wp2_with fail
   refine (none_any p.g _ c5).mono ?_
   rintro e W' ⟨rfl, rfl⟩
   clear c5
   go_wp2_with fail
   refine (within_is 1 what 1000000000 _ hw).mono ?_
   rintro e W' ⟨rfl, rfl⟩
   clear hw
   replace hX := hX.below hal
   replace hC := hC.trans (.of_below hal)
   clear hal
   go_upto_region 4 with fail
   clear lk c7
   generalize w.alloc (.cells ↑x 96) = W at *
   have x7 := hx.cell_ 7 (v := x.use) rfl
   by_cases hu : x.use = 0
   ·have HE : Hid (useE s id what = 0 ∧ useS s id what = { s with pieces := put s.pieces id { x with use := what } }) := by
     have h1 : useE s id what = 0 := by unfold useE; rw [HW.out, HP.out]; dsimp only; rw [if_pos rfl, if_pos hu]
     exact ⟨h1, by unfold useS; rw [h1, if_pos rfl]; unfold useFn; rw [HP.out]⟩
    have hun : (x.use != 0) = false := by simp [hu]
    clear hu
    go_upto_region 9 with (refine wpList_store_at rfl 3 _ _ rfl (.int .i64 what) hx rfl rfl (by kernel_rfl) rfl (by simp) rfl ?_; intro W3 hx3 hc3)
    have hx4 : Blk W3 w.heap.size 96 #[x.id, x.root, x.lot, x.grade, x.colour, x.width, x.length, what] := hx3
    have hX3 := hX.chg1 hc3 hx (by decide) (by decide)
    have hC3 : Chg p.has w W3 := hC.trans' hc3 fun k hk he => by omega
    clear x7 hX hx hC hx3 hc3
    obtain ⟨W, rfl⟩ := is_ W3
    try dsimp only [Act.put]
    have c7 := hX3.blk.cell_ 7 (v := .map (some p.rp)) rfl
    go_wp2_with fail
    obtain ⟨x0, x1, x2, x3, x4, x5, x6, x7⟩ := hx4.all8
    refine wp_region_qt 6 (by kernel_rfl) (by kernel_rfl) ?_
    simp only [List.take_succ_cons, List.take_zero, List.drop_succ_cons, List.drop_zero]
    obtain ⟨y_x0, y_x1, y_x2, y_x3, y_x4, y_x5, y_x6, y_x7⟩ := Since.c8 x0 x1 x2 x3 x4 x5 x6 x7
    have y_c7 := Since.cell c7
    clear x0 x1 x2 x3 x4 x5 x6 x7
    repeat (go_big_quiet_step ((fail)))
    refine wpQuiet_nil ?_
    rintro W ⟨⟨_, hb⟩, rfl⟩
    try dsimp only at hb ⊢
    replace c7 := sat y_c7 hb
    clear y_x0 y_x1 y_x2 y_x3 y_x4 y_x5 y_x6 y_x7 y_c7
    replace hX3 := StA.below hX3 hb
    replace hC3 := Chg.trans hC3 (Chg.of_below hb)
    replace hx4 := hx4.below hb hx4.lt
    clear hb
    obtain ⟨x0, x1, x2, x3, x4, x5, x6, x7⟩ := hx4.all8
    clear x0 x1 x2 x3 x4 x5 x6 x7
    have hM := hX3.pieces
    go_wp2_with (refine wpList_put_im rfl rfl _ _ _ _ rfl _ _ Tryz.underlying63 Tryz.underlying3 p.rp rfl hM id (Piece.val { x with use := what }) rfl rfl ?_; intro W5 hM5 hg5)
    have hX5 := hX3.put_piece (x := { x with use := what }) hg5 hM5
    have hC5 : Chg p.has w W5 := hC3.trans (.of_grown hg5 (by simp [Fp.has]))
    go_ret
    rw [HE.out.1, HE.out.2]
    exact ⟨rfl, hX5, hC5⟩
   ·have HE : Hid (useE s id what = 25 ∧ useS s id what = s) := by
     have h1 : useE s id what = 25 := by unfold useE; rw [HW.out, HP.out]; dsimp only; rw [if_pos rfl, if_neg hu]
     exact ⟨h1, by unfold useS; rw [h1]; rfl⟩
    have hun : (x.use != 0) = true := by simp [hu]
    clear hu
    go_wp2_with fail
    go_ret
    rw [HE.out.1, HE.out.2]
    exact ⟨rfl, hX, hC⟩
theorem StA.put_item {w w' : World} {p : Fp} {s : SS} {k : Int} {x : Sheet} {v : Value} {MI : List (Int × Value)} (h : StA w p s) (hg : w.grownBy w' (some p.ri)) (hz : Zip (ItV w) s.items MI) (hM : MapOf w' p.ri (put MI k v)) (hv : ItV w x v) : StA w' p { s with items := put s.items k x } := h.upd_items hg hM (hz.put_ hv)
theorem ItV.nil_ (w : World) {x : Sheet} (h : x.faults = []) (A : Option Addr) (c : Nat) : ItV w x (x.valAt A c) := ⟨A, c, rfl, by rw [h]; exact Slc.nil_, fun hne => absurd h hne⟩
set_option maxRecDepth 100000 in
set_option maxHeartbeats 4000000 in
theorem return_any (p : Fp) (s : SS) (id : Int) (w : World) (hX : StA w p s) (hI : Inv s) (hF : Few s) : Calls Tryz.prog 27 #[.pointer (some ⟨p.g, 0, none⟩), id] w fun e w' => e = .returned (.int .i64 (backE s id)) ∧ StA w' p (backS s id) ∧ Chg p.has w w' := by
 have c7 := hX.blk.cell_ 7 (v := .map (some p.rp)) rfl
 cases hp : look s.pieces id with
 | none =>
  have HE : Hid (backE s id = 5 ∧ backS s id = s) := ⟨by unfold backE; rw [hp], by unfold backS; rw [hp]⟩
  have lk := hX.pieces.look_no (P := Tryz.prog) (t := 63) (z := .agg ↑zpA) Tryz.underlying63 Tryz.underlying3 (fun w => by kernel_rfl) (look_kv_none hp) true
  clear hp
  have HI := hide hI
  have HF := hide hF
  have HWB := hide (waste_bd hI hF)
  have c5 := hX.blk.cell_ 5 (v := .bool true) rfl
  have hg := hX.blk.lt
  have hC : Chg p.has w w := Chg.refl _ _
  clear hI hF
  go_enter Tryz.func27, Tryz.ntmps27
  go_wp2_with fail
  refine (none_any p.g _ c5).mono ?_
  rintro e W' ⟨rfl, rfl⟩
  clear c5
  have hal := (Below.refl w.heap.size w).alloc (Nat.le_refl _) zeroPiece
  replace hX := hX.below hal
  replace hC := hC.trans (.of_below hal)
  clear hal
  go_wp2_with fail
  go_ret
  rw [HE.out.1, HE.out.2]
  exact ⟨rfl, hX, hC⟩
 | some x =>
  have lk := hX.pieces.look_yes (P := Tryz.prog) (t := 63) Tryz.underlying63 Tryz.underlying3 (look_kv_some hp) true
  unfold Piece.val at lk
  have HP := hide hp
  have HO := hide (hI.pc _ _ hp)
  have HAR := hide (piece_area hI hp)
  have HLO := hide hI.lo
  clear hp
  have hx := Blk.new w 96 ↑x
  have hal := (Below.refl w.heap.size w).alloc (Nat.le_refl _) (.cells ↑x 96)
  have HI := hide hI
  have HF := hide hF
  have HWB := hide (waste_bd hI hF)
  have c5 := hX.blk.cell_ 5 (v := .bool true) rfl
  have hg := hX.blk.lt
  have hC : Chg p.has w w := Chg.refl _ _
  clear hI hF
  go_enter Tryz.func27, Tryz.ntmps27
  go_wp2_with fail
  refine (none_any p.g _ c5).mono ?_
  rintro e W' ⟨rfl, rfl⟩
  clear c5
  replace hX := hX.below hal
  replace hC := hC.trans (.of_below hal)
  clear hal
  go_upto_region 4 with fail
  clear lk c7
  generalize w.alloc (.cells ↑x 96) = W at *
  have x7 := hx.cell_ 7 (v := x.use) rfl
  by_cases hu : x.use = 0
  case neg =>
   have HE : Hid (backE s id = 25 ∧ backS s id = s) := ⟨by unfold backE; rw [HP.out]; dsimp only; rw [if_neg hu], by unfold backS; rw [HP.out]; dsimp only; rw [if_neg hu]⟩
   have hun : (x.use != 0) = true := by simp [hu]
   clear hu
   go_wp2_with fail
   go_ret
   rw [HE.out.1, HE.out.2]
   exact ⟨rfl, hX, hC⟩
  have HE : Hid (backE s id = 0 ∧ backS s id = backFn s id x) := ⟨by unfold backE; rw [HP.out]; dsimp only; rw [if_pos hu], by unfold backS; rw [HP.out]; dsimp only; rw [if_pos hu]⟩
  have hun : (x.use != 0) = false := by simp [hu]
  clear hu
  have c7 := hX.blk.cell_ 7 (v := .map (some p.rp)) rfl
  go_upto_region 9 with (refine wpList_del_im rfl rfl _ _ _ _ rfl _ Tryz.underlying63 Tryz.underlying3 p.rp rfl hX.pieces id rfl ?_; intro W4 hM4 hg4)
  have hX4 := hX.del_piece hg4 hM4
  have hC4 : Chg p.has w W4 := hC.trans (.of_grown hg4 (by simp [Fp.has]))
  have hx4 := hx.chg (S := fun k => k = p.rp) (.of_grown hg4 rfl) (fun he => hX.pieces.blk_ne hx he.symm)
  clear c7 x7 hX hC hx hM4 hg4 hun
  obtain ⟨W, rfl⟩ := is_ W4
  obtain ⟨t, ht⟩ : ∃ t : SS, t = { s with pieces := del s.pieces id } := ⟨_, rfl⟩
  rw [← ht] at hX4
  have HT := hide ht
  clear ht
  have c0 := hX4.blk.cell_ 0 (v := t.rules.minWidth) rfl
  have c1 := hX4.blk.cell_ 1 (v := t.rules.minLength) rfl
  have HWB2 : Hid (0 ≤ t.waste ∧ t.waste ≤ 1000000000000000) := by rw [HT.out]; exact HWB.out
  have HBF : Hid (backFn s id x = if x.width < t.rules.minWidth ∨ x.length < t.rules.minLength then { t with waste := t.waste + x.width * x.length } else { t with items := put t.items id (backItem s x) }) := by show _ = _; rw [HT.out]; rfl
  clear HWB
  have HWB := HWB2
  by_cases h1 : x.width < t.rules.minWidth
  ·have z1 : decide (x.width < t.rules.minWidth) = true := decide_eq_true h1
   have HB2 : Hid (backFn s id x = { t with waste := t.waste + x.width * x.length }) := by show _ = _; rw [HBF.out, if_pos (.inl h1)]
   clear h1
   go_wp2_with fail
   obtain ⟨x0, x1, x2, x3, x4, x5, x6, x7⟩ := hx4.all8
   refine wp_region_q (by kernel_rfl) (by kernel_rfl) ?_
   dsimp only
   obtain ⟨y_x0, y_x1, y_x2, y_x3, y_x4, y_x5, y_x6, y_x7⟩ := Since.c8 x0 x1 x2 x3 x4 x5 x6 x7
   obtain ⟨y_c0, y_c1⟩ := Since.c2 c0 c1
   clear x0 x1 x2 x3 x4 x5 x6 x7
   repeat (go_big_quiet_step ((fail)))
   refine wpQuiet_nil ?_
   rintro W ⟨⟨_, hb⟩, rfl⟩
   try dsimp only at hb ⊢
   replace c0 := sat y_c0 hb
   replace c1 := sat y_c1 hb
   clear y_x0 y_x1 y_x2 y_x3 y_x4 y_x5 y_x6 y_x7 y_c0 y_c1
   replace hX4 := StA.below hX4 hb
   replace hC4 := Chg.trans hC4 (Chg.of_below hb)
   replace hx4 := hx4.below hb hx4.lt
   clear hb
   obtain ⟨x0, x1, x2, x3, x4, x5, x6, x7⟩ := hx4.all8
   clear x0 x1 x2 x3 x4 x5 x6 x7
   clear c0 c1
   try clear z1
   try clear z2
   have hX := hX4
   have hC := hC4
   have hx := hx4
   clear hX4 hC4 hx4
   have c12 := hX.blk.cell_ 12 (v := t.waste) rfl
   have e1 := IntWalk.i64_in (x.width * x.length) (by have := HAR.out; omega)
   have e2 := IntWalk.i64_in (t.waste + x.width * x.length) (by have := HAR.out; have := HWB.out; omega)
   go_wp2_with fail
   obtain ⟨x0, x1, x2, x3, x4, x5, x6, x7⟩ := hx.all8
   refine wp_region_qt 12 (by kernel_rfl) (by kernel_rfl) ?_
   simp only [List.take_succ_cons, List.take_zero, List.drop_succ_cons, List.drop_zero]
   obtain ⟨y_x0, y_x1, y_x2, y_x3, y_x4, y_x5, y_x6, y_x7⟩ := Since.c8 x0 x1 x2 x3 x4 x5 x6 x7
   have y_c12 := Since.cell c12
   clear x0 x1 x2 x3 x4 x5 x6 x7
   repeat (go_big_quiet_step ((fail)))
   refine wpQuiet_nil ?_
   rintro W ⟨⟨_, hb⟩, rfl⟩
   try dsimp only at hb ⊢
   replace c12 := sat y_c12 hb
   clear y_x0 y_x1 y_x2 y_x3 y_x4 y_x5 y_x6 y_x7 y_c12
   replace hX := StA.below hX hb
   replace hC := Chg.trans hC (Chg.of_below hb)
   replace hx := hx.below hb hx.lt
   clear hb
   obtain ⟨x0, x1, x2, x3, x4, x5, x6, x7⟩ := hx.all8
   clear x0 x1 x2 x3 x4 x5 x6 x7
   go_upto_region 11 with (refine wpList_store_at rfl 3 _ _ rfl (.int .i64 (t.waste + x.width * x.length)) hX.blk rfl rfl (by kernel_rfl) rfl (by simp [storeCells_]) rfl ?_; intro W3 hB3 hc3)
   have hX3 := hX.upd_blk (s' := { t with waste := t.waste + x.width * x.length }) hc3 hB3 (by simp [storeCells_]) rfl rfl rfl rfl
   have hC3 : Chg p.has w W3 := hC.trans (hc3.mono fun k _ hk => .inl hk)
   have hx3 := hx.chg1 hc3 (hx.ne_ hX.blk (by decide))
   clear hX hC hx hB3 hc3 c12 e1 e2
   go_wp2_with fail
   go_ret
   rw [HE.out.1, HE.out.2, HB2.out]
   exact ⟨rfl, hX3, hC3⟩
  by_cases h2 : x.length < t.rules.minLength
  ·have z1 : decide (x.width < t.rules.minWidth) = false := decide_eq_false h1
   have z2 : decide (x.length < t.rules.minLength) = true := decide_eq_true h2
   have HB2 : Hid (backFn s id x = { t with waste := t.waste + x.width * x.length }) := by show _ = _; rw [HBF.out, if_pos (.inr h2)]
   clear h1 h2
   go_wp2_with fail
   obtain ⟨x0, x1, x2, x3, x4, x5, x6, x7⟩ := hx4.all8
   refine wp_region_q (by kernel_rfl) (by kernel_rfl) ?_
   dsimp only
   obtain ⟨y_x0, y_x1, y_x2, y_x3, y_x4, y_x5, y_x6, y_x7⟩ := Since.c8 x0 x1 x2 x3 x4 x5 x6 x7
   obtain ⟨y_c0, y_c1⟩ := Since.c2 c0 c1
   clear x0 x1 x2 x3 x4 x5 x6 x7
   repeat (go_big_quiet_step ((fail)))
   refine wpQuiet_nil ?_
   rintro W ⟨⟨_, hb⟩, rfl⟩
   try dsimp only at hb ⊢
   replace c0 := sat y_c0 hb
   replace c1 := sat y_c1 hb
   clear y_x0 y_x1 y_x2 y_x3 y_x4 y_x5 y_x6 y_x7 y_c0 y_c1
   replace hX4 := StA.below hX4 hb
   replace hC4 := Chg.trans hC4 (Chg.of_below hb)
   replace hx4 := hx4.below hb hx4.lt
   clear hb
   obtain ⟨x0, x1, x2, x3, x4, x5, x6, x7⟩ := hx4.all8
   clear x0 x1 x2 x3 x4 x5 x6 x7
   clear c0 c1
   try clear z1
   try clear z2
   have hX := hX4
   have hC := hC4
   have hx := hx4
   clear hX4 hC4 hx4
   have c12 := hX.blk.cell_ 12 (v := t.waste) rfl
   have e1 := IntWalk.i64_in (x.width * x.length) (by have := HAR.out; omega)
   have e2 := IntWalk.i64_in (t.waste + x.width * x.length) (by have := HAR.out; have := HWB.out; omega)
   go_wp2_with fail
   obtain ⟨x0, x1, x2, x3, x4, x5, x6, x7⟩ := hx.all8
   refine wp_region_qt 12 (by kernel_rfl) (by kernel_rfl) ?_
   simp only [List.take_succ_cons, List.take_zero, List.drop_succ_cons, List.drop_zero]
   obtain ⟨y_x0, y_x1, y_x2, y_x3, y_x4, y_x5, y_x6, y_x7⟩ := Since.c8 x0 x1 x2 x3 x4 x5 x6 x7
   have y_c12 := Since.cell c12
   clear x0 x1 x2 x3 x4 x5 x6 x7
   repeat (go_big_quiet_step ((fail)))
   refine wpQuiet_nil ?_
   rintro W ⟨⟨_, hb⟩, rfl⟩
   try dsimp only at hb ⊢
   replace c12 := sat y_c12 hb
   clear y_x0 y_x1 y_x2 y_x3 y_x4 y_x5 y_x6 y_x7 y_c12
   replace hX := StA.below hX hb
   replace hC := Chg.trans hC (Chg.of_below hb)
   replace hx := hx.below hb hx.lt
   clear hb
   obtain ⟨x0, x1, x2, x3, x4, x5, x6, x7⟩ := hx.all8
   clear x0 x1 x2 x3 x4 x5 x6 x7
   go_upto_region 11 with (refine wpList_store_at rfl 3 _ _ rfl (.int .i64 (t.waste + x.width * x.length)) hX.blk rfl rfl (by kernel_rfl) rfl (by simp [storeCells_]) rfl ?_; intro W3 hB3 hc3)
   have hX3 := hX.upd_blk (s' := { t with waste := t.waste + x.width * x.length }) hc3 hB3 (by simp [storeCells_]) rfl rfl rfl rfl
   have hC3 : Chg p.has w W3 := hC.trans (hc3.mono fun k _ hk => .inl hk)
   have hx3 := hx.chg1 hc3 (hx.ne_ hX.blk (by decide))
   clear hX hC hx hB3 hc3 c12 e1 e2
   go_wp2_with fail
   go_ret
   rw [HE.out.1, HE.out.2, HB2.out]
   exact ⟨rfl, hX3, hC3⟩
  ·have z1 : decide (x.width < t.rules.minWidth) = false := decide_eq_false h1
   have z2 : decide (x.length < t.rules.minLength) = false := decide_eq_false h2
   have HB2 : Hid (backFn s id x = { t with items := put t.items id (backItem s x) }) := by show _ = _; rw [HBF.out, if_neg (by omega)]
   clear h1 h2
   go_wp2_with fail
   obtain ⟨x0, x1, x2, x3, x4, x5, x6, x7⟩ := hx4.all8
   refine wp_region_q (by kernel_rfl) (by kernel_rfl) ?_
   dsimp only
   obtain ⟨y_x0, y_x1, y_x2, y_x3, y_x4, y_x5, y_x6, y_x7⟩ := Since.c8 x0 x1 x2 x3 x4 x5 x6 x7
   obtain ⟨y_c0, y_c1⟩ := Since.c2 c0 c1
   clear x0 x1 x2 x3 x4 x5 x6 x7
   repeat (go_big_quiet_step ((fail)))
   refine wpQuiet_nil ?_
   rintro W ⟨⟨_, hb⟩, rfl⟩
   try dsimp only at hb ⊢
   replace c0 := sat y_c0 hb
   replace c1 := sat y_c1 hb
   clear y_x0 y_x1 y_x2 y_x3 y_x4 y_x5 y_x6 y_x7 y_c0 y_c1
   replace hX4 := StA.below hX4 hb
   replace hC4 := Chg.trans hC4 (Chg.of_below hb)
   replace hx4 := hx4.below hb hx4.lt
   clear hb
   obtain ⟨x0, x1, x2, x3, x4, x5, x6, x7⟩ := hx4.all8
   clear x0 x1 x2 x3 x4 x5 x6 x7
   clear c0 c1
   try clear z1
   try clear z2
   obtain ⟨kn, k1, k2, k3⟩ := HO.out.2.k
   have hmade : madeF s x.lot = kn.made := by unfold madeF; rw [k1]
   have HMD := hide hmade
   have hL4 : look t.lots x.lot = some kn := by rw [HT.out]; exact k1
   obtain ⟨kg, kc, km⟩ := kn
   have HLK : Hid (∀ w', Below W.heap.size W w' → (Instr.lookup 65 (.map (some p.rl)) (.int .i64 x.lot) false).run Tryz.prog w' = .ok (.agg #[kg, kc, km]) w') := fun w' hb => (hX4.lots.below hb hX4.lots.lt).look_yes (P := Tryz.prog) (t := 65) Tryz.underlying65 Tryz.underlying3 (look_kv_some hL4) false
   clear k1 k2 k3 hmade hL4
   have c6 := hX4.blk.cell_ 6 (v := .map (some p.ri)) rfl
   have c9 := hX4.blk.cell_ 9 (v := .map (some p.rl)) rfl
   have hfd : ∀ w : World, (Instr.field 100 (.agg #[kg, kc, km]) 2).run Tryz.prog w = .ok (.int .i64 km) w := fun _ => by kernel_rfl
   go_wp2_with fail
   obtain ⟨x0, x1, x2, x3, x4, x5, x6, x7⟩ := hx4.all8
   refine wp_region_qt 28 (by kernel_rfl) (by kernel_rfl) ?_
   simp only [List.take_succ_cons, List.take_zero, List.drop_succ_cons, List.drop_zero]
   obtain ⟨y_x0, y_x1, y_x2, y_x3, y_x4, y_x5, y_x6, y_x7⟩ := Since.c8 x0 x1 x2 x3 x4 x5 x6 x7
   obtain ⟨y_c6, y_c9⟩ := Since.c2 c6 c9
   have y_HLK := fun u : Since W => HLK.out u.w u.h
   clear x0 x1 x2 x3 x4 x5 x6 x7
   repeat (go_big_quiet_step ((fail)))
   refine wpQuiet_nil ?_
   rintro W ⟨⟨_, hb⟩, rfl⟩
   try dsimp only at hb ⊢
   replace c6 := sat y_c6 hb
   replace c9 := sat y_c9 hb
   clear y_x0 y_x1 y_x2 y_x3 y_x4 y_x5 y_x6 y_x7 y_c6 y_c9 y_HLK
   replace hX4 := StA.below hX4 hb
   replace hC4 := Chg.trans hC4 (Chg.of_below hb)
   replace hx4 := hx4.below hb hx4.lt
   clear hb
   obtain ⟨x0, x1, x2, x3, x4, x5, x6, x7⟩ := hx4.all8
   clear x0 x1 x2 x3 x4 x5 x6 x7
   clear HLK c6 c9
   obtain ⟨MI, hM, hZ⟩ := hX4.items
   go_wp2_with (refine wpList_put_im rfl rfl _ _ _ _ rfl _ _ Tryz.underlying62 Tryz.underlying3 p.ri rfl hM id (.agg #[x.id, x.root, x.grade, x.colour, x.lot, km, x.width, x.length, .slice none 0 0]) rfl rfl ?_; intro W5 hM5 hg5)
   have hX5 := hX4.put_item (x := backItem s x) hg5 hZ hM5 (by
    have h9 := ItV.nil_ W (x := backItem s x) rfl none 0
    have e9 : (backItem s x).valAt none 0 = .agg #[x.id, x.root, x.grade, x.colour, x.lot, km, x.width, x.length, .slice none 0 0] := by
     show Value.agg #[_, _, _, _, _, .int .i64 (madeF s x.lot), _, _, _] = _
     rw [HMD.out]; rfl
    rw [e9] at h9; exact h9)
   have hC5 : Chg p.has w W5 := hC4.trans (.of_grown hg5 (by simp [Fp.has]))
   go_wp2_with fail
   go_ret
   rw [HE.out.1, HE.out.2, HB2.out]
   exact ⟨rfl, hX5, hC5⟩
end Go.Proofs.YtehlbomkldnalaaGreat

/- tooOld, usable, add: the walks. -/
namespace Go.Proofs.YtehlbomkldnalaaGreat
open Go Go.RowKit
set_option maxRecDepth 100000 in
set_option maxHeartbeats 2000000 in
theorem old_any (p : Fp) (s : SS) (x : Sheet) (A : Option Addr) (c : Nat) (day : Int) (w : World) (hX : StA w p s) (hg : 1 ≤ x.grade ∧ x.grade ≤ 3) (hm : 0 ≤ x.made ∧ x.made ≤ 100000) (hd : 0 ≤ day ∧ day ≤ 100000) :
  Calls Tryz.prog 62 #[.pointer (some ⟨p.g, 0, none⟩), .agg ↑(x, A, c), day] w fun e w' => e = .returned (.bool (oldF s.rules x day)) ∧ Below w.heap.size w w' := by
 obtain ⟨id, root, gr, co, lo, ma, wi, le, fs⟩ := x
 dsimp only at hg hm ⊢
 have hx := Blk.new w 93 #[id, root, gr, co, lo, ma, wi, le, .slice A fs.length c]
 have hB := (Below.refl w.heap.size w).alloc (Nat.le_refl _) (.cells #[id, root, gr, co, lo, ma, wi, le, .slice A fs.length c] 93)
 replace hX := hX.below hB
 go_enter Tryz.func62, Tryz.ntmps62
 go_upto_region 1 with fail
 generalize w.alloc (.cells #[id, root, gr, co, lo, ma, wi, le, .slice A fs.length c] 93) = W at *
 have c2 := hX.blk.cell_ 2 (v := s.rules.l0) rfl
 have c3 := hX.blk.cell_ 3 (v := s.rules.l1) rfl
 have c4 := hX.blk.cell_ 4 (v := s.rules.l2) rfl
 have e1 := IntWalk.i64_in (day - ma) (by omega)
 rcases (show gr = 1 ∨ gr = 2 ∨ gr = 3 by omega) with rfl | rfl | rfl
 ·have HV : Hid (oldF s.rules ⟨id, root, 1, co, lo, ma, wi, le, fs⟩ day = decide (s.rules.l0 < day - ma)) := by show _ = _; unfold oldF lifeF; simp
  go_wp2_with fail
  obtain ⟨x0, x1, x2, x3, x4, x5, x6, x7, x8⟩ := hx.all9
  refine wp_region_q (by kernel_rfl) (by kernel_rfl) ?_
  dsimp only
  obtain ⟨y_x0, y_x1, y_x2, y_x3, y_x4, y_x5, y_x6, y_x7, y_x8⟩ := Since.c9 x0 x1 x2 x3 x4 x5 x6 x7 x8
  obtain ⟨y_c2, y_c3, y_c4⟩ := Since.c3 c2 c3 c4
  clear x0 x1 x2 x3 x4 x5 x6 x7 x8
  repeat (go_big_quiet_step ((fail)))
  refine wpQuiet_nil ?_
  rintro W ⟨⟨_, hb⟩, rfl⟩
  try dsimp only at hb ⊢
  replace c2 := sat y_c2 hb
  replace c3 := sat y_c3 hb
  replace c4 := sat y_c4 hb
  clear y_x0 y_x1 y_x2 y_x3 y_x4 y_x5 y_x6 y_x7 y_x8 y_c2 y_c3 y_c4
  replace hx := hx.below hb hx.lt
  replace hX := StA.below hX hb
  replace hB := Below.trans hB (Below.mono hb (Below.size hB))
  clear hb
  obtain ⟨x0, x1, x2, x3, x4, x5, x6, x7, x8⟩ := hx.all9
  clear x0 x1 x2 x3 x4 x5 x6 x7 x8
  go_wp2_with fail
  go_ret
  exact ⟨by rw [HV.out]; rfl, hB⟩
 ·have HV : Hid (oldF s.rules ⟨id, root, 2, co, lo, ma, wi, le, fs⟩ day = decide (s.rules.l1 < day - ma)) := by show _ = _; unfold oldF lifeF; simp
  go_wp2_with fail
  obtain ⟨x0, x1, x2, x3, x4, x5, x6, x7, x8⟩ := hx.all9
  refine wp_region_q (by kernel_rfl) (by kernel_rfl) ?_
  dsimp only
  obtain ⟨y_x0, y_x1, y_x2, y_x3, y_x4, y_x5, y_x6, y_x7, y_x8⟩ := Since.c9 x0 x1 x2 x3 x4 x5 x6 x7 x8
  obtain ⟨y_c2, y_c3, y_c4⟩ := Since.c3 c2 c3 c4
  clear x0 x1 x2 x3 x4 x5 x6 x7 x8
  repeat (go_big_quiet_step ((fail)))
  refine wpQuiet_nil ?_
  rintro W ⟨⟨_, hb⟩, rfl⟩
  try dsimp only at hb ⊢
  replace c2 := sat y_c2 hb
  replace c3 := sat y_c3 hb
  replace c4 := sat y_c4 hb
  clear y_x0 y_x1 y_x2 y_x3 y_x4 y_x5 y_x6 y_x7 y_x8 y_c2 y_c3 y_c4
  replace hx := hx.below hb hx.lt
  replace hX := StA.below hX hb
  replace hB := Below.trans hB (Below.mono hb (Below.size hB))
  clear hb
  obtain ⟨x0, x1, x2, x3, x4, x5, x6, x7, x8⟩ := hx.all9
  clear x0 x1 x2 x3 x4 x5 x6 x7 x8
  go_wp2_with fail
  go_ret
  exact ⟨by rw [HV.out]; rfl, hB⟩
 ·have HV : Hid (oldF s.rules ⟨id, root, 3, co, lo, ma, wi, le, fs⟩ day = decide (s.rules.l2 < day - ma)) := by show _ = _; unfold oldF lifeF; simp
  go_wp2_with fail
  obtain ⟨x0, x1, x2, x3, x4, x5, x6, x7, x8⟩ := hx.all9
  refine wp_region_q (by kernel_rfl) (by kernel_rfl) ?_
  dsimp only
  obtain ⟨y_x0, y_x1, y_x2, y_x3, y_x4, y_x5, y_x6, y_x7, y_x8⟩ := Since.c9 x0 x1 x2 x3 x4 x5 x6 x7 x8
  obtain ⟨y_c2, y_c3, y_c4⟩ := Since.c3 c2 c3 c4
  clear x0 x1 x2 x3 x4 x5 x6 x7 x8
  repeat (go_big_quiet_step ((fail)))
  refine wpQuiet_nil ?_
  rintro W ⟨⟨_, hb⟩, rfl⟩
  try dsimp only at hb ⊢
  replace c2 := sat y_c2 hb
  replace c3 := sat y_c3 hb
  replace c4 := sat y_c4 hb
  clear y_x0 y_x1 y_x2 y_x3 y_x4 y_x5 y_x6 y_x7 y_x8 y_c2 y_c3 y_c4
  replace hx := hx.below hb hx.lt
  replace hX := StA.below hX hb
  replace hB := Below.trans hB (Below.mono hb (Below.size hB))
  clear hb
  obtain ⟨x0, x1, x2, x3, x4, x5, x6, x7, x8⟩ := hx.all9
  clear x0 x1 x2 x3 x4 x5 x6 x7 x8
  go_wp2_with fail
  go_ret
  exact ⟨by rw [HV.out]; rfl, hB⟩
theorem old_is (p : Fp) (s : SS) (x : Sheet) (A : Option Addr) (c : Nat) (day : Int) (w : World) (hX : StA w p s) (hg : 1 ≤ x.grade ∧ x.grade ≤ 3) (hm : 0 ≤ x.made ∧ x.made ≤ 100000) (hd : 0 ≤ day ∧ day ≤ 100000) {v : Bool} (h : oldF s.rules x day = v) :
  Calls Tryz.prog 62 #[.pointer (some ⟨p.g, 0, none⟩), .agg ↑(x, A, c), day] w fun e w' => e = .returned (.bool v) ∧ Below w.heap.size w w' := by
 subst h; exact old_any p s x A c day w hX hg hm hd
set_option maxRecDepth 100000 in
set_option maxHeartbeats 2000000 in
theorem usable_any (p : Fp) (s : SS) (x : Sheet) (A : Option Addr) (c : Nat) (day : Int) (w : World) (hX : StA w p s) (hg : 1 ≤ x.grade ∧ x.grade ≤ 3) (hm : 0 ≤ x.made ∧ x.made ≤ 100000) (hd : 0 ≤ day ∧ day ≤ 100000) {v : Bool} (h : useF s.rules x day = v) :
  Calls Tryz.prog 86 #[.pointer (some ⟨p.g, 0, none⟩), .agg ↑(x, A, c), day] w fun e w' => e = .returned (.bool v) ∧ Below w.heap.size w w' := by
 have HV := hide h
 clear h
 have hx := Blk.new w 93 ↑(x, A, c)
 have hB := (Below.refl w.heap.size w).alloc (Nat.le_refl _) (.cells ↑(x, A, c) 93)
 replace hX := hX.below hB
 go_enter Tryz.func86, Tryz.ntmps86
 go_upto_region 1 with fail
 generalize w.alloc (.cells ↑(x, A, c) 93) = W at *
 obtain ⟨x0, x1, x2, x3, x4, x5, x6, x7, x8⟩ := hx.all9
 by_cases h1 : x.made ≤ day
 ·cases hq : oldF s.rules x day with
  | true =>
   have HV2 : Hid (v = false) := by show _ = _; rw [← HV.out]; unfold useF; rw [hq, decide_eq_true h1]; rfl
   go_wp2_with fail
   refine (old_is p s x A c day _ hX hg hm hd hq).mono ?_
   rintro e W ⟨rfl, hb⟩
   clear x0 x1 x2 x3 x4 x5 x6 x7 x8
   replace hx := hx.below hb hx.lt
   replace hX := StA.below hX hb
   replace hB := hB.trans (hb.mono hB.size)
   clear hb
   obtain ⟨x0, x1, x2, x3, x4, x5, x6, x7, x8⟩ := hx.all9
   clear x0 x1 x2 x3 x4 x5 x6 x7 x8
   clear hq
   go_wp2_with fail
   go_ret
   exact ⟨by rw [HV2.out]; rfl, hB⟩
  | false =>
   have HV2 : Hid (v = true) := by show _ = _; rw [← HV.out]; unfold useF; rw [hq, decide_eq_true h1]; rfl
   go_wp2_with fail
   refine (old_is p s x A c day _ hX hg hm hd hq).mono ?_
   rintro e W ⟨rfl, hb⟩
   clear x0 x1 x2 x3 x4 x5 x6 x7 x8
   replace hx := hx.below hb hx.lt
   replace hX := StA.below hX hb
   replace hB := hB.trans (hb.mono hB.size)
   clear hb
   obtain ⟨x0, x1, x2, x3, x4, x5, x6, x7, x8⟩ := hx.all9
   clear x0 x1 x2 x3 x4 x5 x6 x7 x8
   clear hq
   go_wp2_with fail
   go_ret
   exact ⟨by rw [HV2.out]; rfl, hB⟩
 ·have HV2 : Hid (v = false) := by show _ = _; rw [← HV.out]; unfold useF; rw [decide_eq_false h1]; rfl
  have h1' : day < x.made := by omega
  go_wp2_with fail
  go_ret
  exact ⟨by rw [HV2.out]; first | rfl | simp, hB⟩
end Go.Proofs.YtehlbomkldnalaaGreat

/- Receive: the walk. -/
namespace Go.Proofs.YtehlbomkldnalaaGreat
open Go Go.RowKit
theorem exec_bstruct {P : Program} {o : Oper} {a : Act} {t : TypeId} {parts : Array (Nat × Operand)} {ps : Array (Nat × Value)} {v : Value} {w w' : World} (ho : o.op = .build t parts) (hp : (parts.map fun (i, x) => (i, a.eval x)) = ps) (hr : (Instr.build t ps).run P w = .ok v w') : (execOp a.eval o).run P w = .ok (.value v) w' := by
 subst hp
 unfold execOp
 simp only [ho, Sem.run_bind, hr, Result.andThen_ok]
 rfl
theorem run_roll (i gr co lo ma wi le : Int) (A : Option Addr) (n c : Nat) (w : World) : (Instr.build 93 #[(0, .int .i64 i), (1, .int .i64 i), (2, .int .i64 gr), (3, .int .i64 co), (4, .int .i64 lo), (5, .int .i64 ma), (6, .int .i64 wi), (7, .int .i64 le), (8, .slice A n c)]).run Tryz.prog w = .ok (.agg #[i, i, gr, co, lo, ma, wi, le, .slice A n c]) w := run_build w _ _ _ (by kernel_rfl)
theorem fields_kin : (Tryz.prog.fieldsOf 100).toList.map (fun f => (f.name == "_", f.type, f.offset)) = [(false, 3, 0), (false, 3, 1), (false, 3, 2)] := by kernel_rfl
theorem neq_kin (a b c a' b' c' : Int) (w : World) : (binOp .neq 100 (.agg #[a, b, c]) (.agg #[a', b', c'])).run Tryz.prog w = .ok (.bool (!(a == a' && (b == b' && c == c')))) w := by
 have hf := fields_kin
 have he : (Op.equalIn 10000 100 (.agg #[a, b, c]) (.agg #[a', b', c'])).run Tryz.prog w = .ok (a == a' && (b == b' && c == c')) w := by
  rw [run_equalIn_struct w 9999 _ _ _ (by kernel_rfl) (by kernel_rfl)]
  obtain ⟨f0, f1, f2, hl, h0, h1, h2⟩ : ∃ f0 f1 f2, (Tryz.prog.fieldsOf 100).toList = [f0, f1, f2] ∧ ((f0.name == "_") = false ∧ f0.type = 3 ∧ f0.offset = 0) ∧ ((f1.name == "_") = false ∧ f1.type = 3 ∧ f1.offset = 1) ∧ ((f2.name == "_") = false ∧ f2.type = 3 ∧ f2.offset = 2) := by
   generalize (Tryz.prog.fieldsOf 100).toList = l at hf
   have hlen : l.length = 3 := by have := congrArg List.length hf; simpa using this
   match l, hlen, hf with
   | [f0, f1, f2], _, hf => simp only [List.map_cons, List.map_nil, List.cons.injEq, Prod.mk.injEq] at hf; exact ⟨f0, f1, f2, rfl, hf.1, hf.2.1, hf.2.2.1⟩
  rw [hl]
  have n0 : f0.name ≠ "_" := by simpa using h0.1
  have n1 : f1.name ≠ "_" := by simpa using h1.1
  have n2 : f2.name ≠ "_" := by simpa using h2.1
  by_cases e0 : a = a' <;> by_cases e1 : b = b' <;> by_cases e2 : c = c' <;>
   simp [Op.eqFields, n0, n1, n2, h0.2.1, h0.2.2, h1.2.1, h1.2.2, h2.2.1, h2.2.2, part, isAgg, run_underlying Tryz.underlying3, run_equalIn_int, e0, e1, e2]
 simp [binOp, Op.equal, Op.maxDepth, he]
theorem Slc.chgE {α : Type} {enc : α → List Value} {sz : Nat} {w w' : World} {B : Nat} {A : Option Addr} {xs : List α} {S : Nat → Prop} (h : Slc enc sz w B A xs) (hc : Chg S w w') (hB : B ≤ w.heap.size) (hA : xs ≠ [] → ∀ ad, A = some ad → ¬ S ad.block) : Slc enc sz w' B A xs := fun i x hx => by
 obtain ⟨b, off, rfl, hb, hcell⟩ := h i x hx
 exact ⟨b, off, rfl, hb, fun j v hv => (World.cell?_of_block (hc.block b (by omega) (hA (by rintro rfl; simp at hx) _ rfl))).trans (hcell j v hv)⟩
theorem imax_max (a b : Int) : imax a b = max a b := by unfold imax; split <;> omega
set_option maxRecDepth 100000 in
set_option maxHeartbeats 8000000 in
theorem receive_any (p : Fp) (s : SS) (id gr co lo ma wi le : Int) (A : Option Addr) (c : Nat) (fs : List Pt) (w : World) (hX : StA w p s) (hI : Inv s) (hF : Few s) (hS : Slc Pt.enc 2 w w.heap.size A fs) (hfl : fs.length ≤ 100000) (hNA : fs ≠ [] → ∀ ad, A = some ad → ¬ p.has ad.block) :
  Calls Tryz.prog 13 #[.pointer (some ⟨p.g, 0, none⟩), .agg #[id, gr, co, lo, ma, wi, le, .slice A fs.length c]] w fun e w' =>
   e = .returned (.int .i64 (recE s ⟨id, gr, co, lo, ma, wi, le, fs⟩)) ∧ StA w' p (recS s ⟨id, gr, co, lo, ma, wi, le, fs⟩) ∧ Chg p.has w w' := by
 have HS := hide hS
 have HNA := hide hNA
 obtain ⟨r, hr⟩ : ∃ r : Roll, r = ⟨id, gr, co, lo, ma, wi, le, fs⟩ := ⟨_, rfl⟩
 rw [← hr]
 have HR := hide hr
 have hx := Blk.new w 43 #[id, gr, co, lo, ma, wi, le, .slice A fs.length c]
 have hal := (Below.refl w.heap.size w).alloc (Nat.le_refl _) (.cells #[id, gr, co, lo, ma, wi, le, .slice A fs.length c] 43)
 have HI := hide hI
 have HF := hide hF
 have hC : Chg p.has w (w.alloc (.cells #[id, gr, co, lo, ma, wi, le, .slice A fs.length c] 43)) := .of_below hal
 replace hX := hX.below hal
 replace hS := Slc.on hS hal
 clear hI hF hr hal hNA
 go_enter Tryz.func13, Tryz.ntmps13
 go_upto_region 1 with fail
 generalize w.alloc (.cells #[id, gr, co, lo, ma, wi, le, .slice A fs.length c] 43) = W at *
 have c5 := hX.blk.cell_ 5 (v := .bool true) rfl
 go_wp2_with fail
 refine (none_any p.g _ c5).mono ?_
 rintro e W' ⟨rfl, rfl⟩
 clear c5
 obtain ⟨x0, x1, x2, x3, x4, x5, x6, x7⟩ := hx.all8
 obtain ⟨V, hV⟩ := nm_ (validRoll ⟨id, gr, co, lo, ma, wi, le, fs⟩)
 have HV : Hid (validRoll r = V) := by show _ = _; rw [HR.out]; exact hV
 have hvr := validRoll_any id gr co lo ma wi le A c fs W hS hfl
 rw [hV] at hvr
 clear hV hS
 go_wp2_with fail
 refine (hvr).mono ?_
 rintro e W ⟨rfl, hb⟩
 clear x0 x1 x2 x3 x4 x5 x6 x7
 replace hx := hx.below hb hx.lt
 replace hX := StA.below hX hb
 replace hC := Chg.trans hC (Chg.of_below hb)
 clear hb
 obtain ⟨x0, x1, x2, x3, x4, x5, x6, x7⟩ := hx.all8
 cases V with
 | false =>
  have HE : Hid (recE s r = 20 ∧ recS s r = s) := by
   have h1 : recE s r = 20 := by unfold recE; rw [HV.out]; rfl
   exact ⟨h1, by unfold recS; rw [h1]; rfl⟩
  clear x0 x1 x2 x3 x4 x5 x6 x7
  go_wp2_with fail
  go_ret
  rw [HE.out.1, HE.out.2]
  exact ⟨rfl, hX, hC⟩
 | true =>
  go_upto_region 5 with fail
  cases hp : look s.parent id with
  | some u =>
   have HE : Hid (recE s r = 22 ∧ recS s r = s) := by
    have h1 : recE s r = 22 := by unfold recE; rw [HV.out, HR.out]; dsimp only; rw [hp]; rfl
    exact ⟨h1, by unfold recS; rw [h1]; rfl⟩
   have HLK : Hid (∀ w', Below W.heap.size W w' → (Instr.lookup 64 (.map (some p.rq)) (.int .i64 id) true).run Tryz.prog w' = .ok (.tuple #[u, .bool true]) w') := fun w' hb => (hX.parent.below hb hX.parent.lt).look_yes (P := Tryz.prog) (t := 64) Tryz.underlying64 Tryz.underlying3 (look_kv_some hp) true
   have c8 := hX.blk.cell_ 8 (v := .map (some p.rq)) rfl
   clear hp
   go_wp2_with fail
   refine wp_region_q (by kernel_rfl) (by kernel_rfl) ?_
   dsimp only
   obtain ⟨y_x0, y_x1, y_x2, y_x3, y_x4, y_x5, y_x6, y_x7⟩ := Since.c8 x0 x1 x2 x3 x4 x5 x6 x7
   have y_c8 := Since.cell c8
   have y_HLK := fun u : Since W => HLK.out u.w u.h
   clear x0 x1 x2 x3 x4 x5 x6 x7
   repeat (go_big_quiet_step ((fail)))
   refine wpQuiet_nil ?_
   rintro W ⟨⟨_, hb⟩, rfl⟩
   try dsimp only at hb ⊢
   replace c8 := sat y_c8 hb
   clear y_x0 y_x1 y_x2 y_x3 y_x4 y_x5 y_x6 y_x7 y_c8 y_HLK
   replace hx := hx.below hb hx.lt
   replace hX := StA.below hX hb
   replace hC := Chg.trans hC (Chg.of_below hb)
   clear hb
   obtain ⟨x0, x1, x2, x3, x4, x5, x6, x7⟩ := hx.all8
   clear x0 x1 x2 x3 x4 x5 x6 x7
   go_wp2_with fail
   go_ret
   rw [HE.out.1, HE.out.2]
   exact ⟨rfl, hX, hC⟩
  | none =>
   have HLK : Hid (∀ w', Below W.heap.size W w' → (Instr.lookup 64 (.map (some p.rq)) (.int .i64 id) true).run Tryz.prog w' = .ok (.tuple #[.int .i64 0, .bool false]) w') := fun w' hb => (hX.parent.below hb hX.parent.lt).look_no (P := Tryz.prog) (t := 64) Tryz.underlying64 Tryz.underlying3 (fun w => by kernel_rfl) (look_kv_none hp) true
   have c8 := hX.blk.cell_ 8 (v := .map (some p.rq)) rfl
   have HPN : Hid (look s.parent r.id = none) := by show _ = _; rw [HR.out]; exact hp
   clear hp
   go_wp2_with fail
   refine wp_region_q (by kernel_rfl) (by kernel_rfl) ?_
   dsimp only
   obtain ⟨y_x0, y_x1, y_x2, y_x3, y_x4, y_x5, y_x6, y_x7⟩ := Since.c8 x0 x1 x2 x3 x4 x5 x6 x7
   have y_c8 := Since.cell c8
   have y_HLK := fun u : Since W => HLK.out u.w u.h
   clear x0 x1 x2 x3 x4 x5 x6 x7
   repeat (go_big_quiet_step ((fail)))
   refine wpQuiet_nil ?_
   rintro W ⟨⟨_, hb⟩, rfl⟩
   try dsimp only at hb ⊢
   replace c8 := sat y_c8 hb
   clear y_x0 y_x1 y_x2 y_x3 y_x4 y_x5 y_x6 y_x7 y_c8 y_HLK
   replace hx := hx.below hb hx.lt
   replace hX := StA.below hX hb
   replace hC := Chg.trans hC (Chg.of_below hb)
   clear hb
   obtain ⟨x0, x1, x2, x3, x4, x5, x6, x7⟩ := hx.all8
   clear HLK c8
   have hk := Blk.new W 100 #[gr, co, ma]
   have hal := (Below.refl W.heap.size W).alloc (Nat.le_refl _) (.cells #[gr, co, ma] 100)
   go_upto_region 9 with fail
   clear x0 x1 x2 x3 x4 x5 x6 x7
   replace hx := hx.below hal hx.lt
   replace hX := hX.below hal
   replace hC := hC.trans (.of_below hal)
   clear hal
   generalize W.heap.size = bk at *
   generalize W.alloc (.cells #[gr, co, ma] 100) = W2 at *
   obtain ⟨W, rfl⟩ := is_ W2
   cases hl : look s.lots lo
   case' none =>
    have HLK : Hid (∀ w', Below W.heap.size W w' → (Instr.lookup 65 (.map (some p.rl)) (.int .i64 lo) true).run Tryz.prog w' = .ok (.tuple #[.agg #[.int .i64 0, .int .i64 0, .int .i64 0], .bool false]) w') := fun w' hb => (hX.lots.below hb hX.lots.lt).look_no (P := Tryz.prog) (t := 65) Tryz.underlying65 Tryz.underlying3 (fun w => by kernel_rfl) (look_kv_none hl) true
    have c9 := hX.blk.cell_ 9 (v := .map (some p.rl)) rfl
    have HE : Hid (recE s r = 0 ∧ recS s r = recFn s r) := by
     have h1 : recE s r = 0 := by unfold recE kinOk; rw [HV.out, HPN.out, HR.out]; dsimp only; rw [hl]; rfl
     exact ⟨h1, by unfold recS; rw [h1, if_pos rfl]⟩
    clear hl
    go_wp2_with fail
    obtain ⟨x0, x1, x2, x3, x4, x5, x6, x7⟩ := hx.all8
    have k0 := hk.cell_ 0 rfl
    have k1 := hk.cell_ 1 rfl
    have k2 := hk.cell_ 2 rfl
    have z_x0 := Since.hid x0
    have z_x1 := Since.hid x1
    have z_x2 := Since.hid x2
    have z_x3 := Since.hid x3
    have z_x4 := Since.hid x4
    have z_x5 := Since.hid x5
    have z_x6 := Since.hid x6
    have z_x7 := Since.hid x7
    have z_k0 := Since.hid k0
    have z_k1 := Since.hid k1
    have z_k2 := Since.hid k2
    have z_c9 := Since.hid c9
    have hok : FldOk W ([⟨10, .ptr, (.cells #[.int .i64 0, .int .i64 0, .int .i64 0] 100), 11, (.cells #[.int .i64 0, .int .i64 0, .int .i64 0] 100)⟩]) [] := FldOk.nil_
    refine wp_region_both 12 [0, 1, 2, 3, 4, 5, 6, 7, 8, 9] [10, 11] [⟨10, .ptr, (.cells #[.int .i64 0, .int .i64 0, .int .i64 0] 100), 11, (.cells #[.int .i64 0, .int .i64 0, .int .i64 0] 100)⟩] [] (fun f hf => by cases hf) (by kernel_rfl) (by kernel_rfl) (by kernel_rfl) (by kernel_rfl) (by kernel_rfl) (by simp) ?_
    apply Exists.intro
    refine ⟨fun W1 hc0 => ?_, ?_⟩
    ·have hb := hc0.nil_
     have y_x0 := Since.cell (z_x0.out W1 hb)
     have y_x1 := Since.cell (z_x1.out W1 hb)
     have y_x2 := Since.cell (z_x2.out W1 hb)
     have y_x3 := Since.cell (z_x3.out W1 hb)
     have y_x4 := Since.cell (z_x4.out W1 hb)
     have y_x5 := Since.cell (z_x5.out W1 hb)
     have y_x6 := Since.cell (z_x6.out W1 hb)
     have y_x7 := Since.cell (z_x7.out W1 hb)
     have y_k0 := Since.cell (z_k0.out W1 hb)
     have y_k1 := Since.cell (z_k1.out W1 hb)
     have y_k2 := Since.cell (z_k2.out W1 hb)
     have y_c9 := Since.cell (z_c9.out W1 hb)
     have y_HLK := fun u : Since W1 => HLK.out u.w (hb.trans (u.h.mono hb.size))
     replace hx := hx.below hb hx.lt
     replace hX := StA.below hX hb
     replace hC := Chg.trans hC (Chg.of_below hb)
     replace hk := hk.below hb hk.lt
     dsimp only [pick, List.filterMap, List.getElem?_cons_succ, List.getElem?_cons_zero]
     repeat (go_big_quiet_step ((fail)))
     exact wpQuiet_nil rfl
    case' _ =>
     refine ownWalk_alloc ⟨10, .ptr, (.cells #[.int .i64 0, .int .i64 0, .int .i64 0] 100), 11, (.cells #[.int .i64 0, .int .i64 0, .int .i64 0] 100)⟩ hok (by kernel_rfl) rfl rfl rfl rfl (fun _ => rfl) (by simp) (by simp) (fun h => absurd h (by simp)) ?_
     intro hob
     simp only [Shape.val, List.setIfInBounds_toArray, List.set_cons_succ, List.set_cons_zero]
     refine ownWalk_fill (cs := #[.int .i64 0, .int .i64 0, .int .i64 0]) (cs' := #[.int .i64 0, .int .i64 0, .int .i64 0]) ⟨10, .ptr, (.cells #[.int .i64 0, .int .i64 0, .int .i64 0] 100), 11, (.cells #[.int .i64 0, .int .i64 0, .int .i64 0] 100)⟩ hok (by kernel_rfl) rfl rfl rfl rfl rfl rfl rfl rfl (by kernel_rfl) rfl (by simp [Value.oneCell']) rfl rfl (by simp) (by simp) (by simp) rfl ?_ (by simp)
     refine ownWalk_nil ?_
     intro w' hc0 hD
     have hb := hc0.nil_
     obtain ⟨hoge, ho⟩ := hD.box.get (x := ⟨10, .ptr, (.cells #[.int .i64 0, .int .i64 0, .int .i64 0] 100), 11, (.cells #[.int .i64 0, .int .i64 0, .int .i64 0] 100)⟩) (o := (.cells #[.int .i64 0, .int .i64 0, .int .i64 0] 100)) (by simp) rfl rfl
     replace ho : Blk _ _ _ _ := ho
     clear hD
     try simp only [List.drop_succ_cons, List.drop_zero]
     replace c9 : w'.cell? _ = _ := z_c9.out w' hb
     clear z_x0 z_x1 z_x2 z_x3 z_x4 z_x5 z_x6 z_x7 z_k0 z_k1 z_k2 z_c9
     clear x0 x1 x2 x3 x4 x5 x6 x7 k0 k1 k2
     replace hx := hx.below hb hx.lt
     replace hX := StA.below hX hb
     replace hC := Chg.trans hC (Chg.of_below hb)
     replace hk := hk.below hb hk.lt
     clear hb hok hc0
     obtain ⟨W, rfl⟩ := is_ w'
     obtain ⟨x0, x1, x2, x3, x4, x5, x6, x7⟩ := hx.all8
     have k0 := hk.cell_ 0 rfl
     have k1 := hk.cell_ 1 rfl
     have k2 := hk.cell_ 2 rfl
     have o0 := ho.cell_ 0 rfl
     have o1 := ho.cell_ 1 rfl
     have o2 := ho.cell_ 2 rfl
     clear HLK c9
     go_upto_region 12 with fail
     clear x0 x1 x2 x3 x4 x5 x6 x7 k0 k1 k2 o0 o1 o2
     clear ho
   case' some kn =>
    obtain ⟨kg, kc, km⟩ := kn
    have HLK : Hid (∀ w', Below W.heap.size W w' → (Instr.lookup 65 (.map (some p.rl)) (.int .i64 lo) true).run Tryz.prog w' = .ok (.tuple #[.agg #[kg, kc, km], .bool true]) w') := fun w' hb => (hX.lots.below hb hX.lots.lt).look_yes (P := Tryz.prog) (t := 65) Tryz.underlying65 Tryz.underlying3 (look_kv_some hl) true
    have c9 := hX.blk.cell_ 9 (v := .map (some p.rl)) rfl
    have hnq := fun w => neq_kin kg kc km gr co ma w
    cases hq : (kg == gr && (kc == co && km == ma))
    case' true =>
     rw [hq] at hnq
     simp only [Bool.not_true] at hnq
     have HE : Hid (recE s r = 0 ∧ recS s r = recFn s r) := by
      have h0 : (decide (kg = gr) && decide (kc = co) && decide (km = ma)) = true := by
       simp only [Bool.and_eq_true, beq_iff_eq, decide_eq_true_eq] at hq ⊢
       exact ⟨⟨hq.1, hq.2.1⟩, hq.2.2⟩
      have hk0 : kinOk s r = true := by unfold kinOk; rw [HR.out]; dsimp only; rw [hl]; exact h0
      have h1 : recE s r = 0 := by unfold recE; rw [HV.out, HPN.out, hk0]; rfl
      exact ⟨h1, by unfold recS; rw [h1, if_pos rfl]⟩
     clear hl hq
     go_wp2_with fail
     obtain ⟨x0, x1, x2, x3, x4, x5, x6, x7⟩ := hx.all8
     have k0 := hk.cell_ 0 rfl
     have k1 := hk.cell_ 1 rfl
     have k2 := hk.cell_ 2 rfl
     have z_x0 := Since.hid x0
     have z_x1 := Since.hid x1
     have z_x2 := Since.hid x2
     have z_x3 := Since.hid x3
     have z_x4 := Since.hid x4
     have z_x5 := Since.hid x5
     have z_x6 := Since.hid x6
     have z_x7 := Since.hid x7
     have z_k0 := Since.hid k0
     have z_k1 := Since.hid k1
     have z_k2 := Since.hid k2
     have z_c9 := Since.hid c9
     have hok : FldOk W ([⟨10, .ptr, (.cells #[.int .i64 0, .int .i64 0, .int .i64 0] 100), 11, (.cells #[kg, kc, km] 100)⟩]) [] := FldOk.nil_
     refine wp_region_both 12 [0, 1, 2, 3, 4, 5, 6, 7, 8, 9] [10, 11] [⟨10, .ptr, (.cells #[.int .i64 0, .int .i64 0, .int .i64 0] 100), 11, (.cells #[kg, kc, km] 100)⟩] [] (fun f hf => by cases hf) (by kernel_rfl) (by kernel_rfl) (by kernel_rfl) (by kernel_rfl) (by kernel_rfl) (by simp) ?_
     apply Exists.intro
     refine ⟨fun W1 hc0 => ?_, ?_⟩
     ·have hb := hc0.nil_
      have y_x0 := Since.cell (z_x0.out W1 hb)
      have y_x1 := Since.cell (z_x1.out W1 hb)
      have y_x2 := Since.cell (z_x2.out W1 hb)
      have y_x3 := Since.cell (z_x3.out W1 hb)
      have y_x4 := Since.cell (z_x4.out W1 hb)
      have y_x5 := Since.cell (z_x5.out W1 hb)
      have y_x6 := Since.cell (z_x6.out W1 hb)
      have y_x7 := Since.cell (z_x7.out W1 hb)
      have y_k0 := Since.cell (z_k0.out W1 hb)
      have y_k1 := Since.cell (z_k1.out W1 hb)
      have y_k2 := Since.cell (z_k2.out W1 hb)
      have y_c9 := Since.cell (z_c9.out W1 hb)
      have y_HLK := fun u : Since W1 => HLK.out u.w (hb.trans (u.h.mono hb.size))
      replace hx := hx.below hb hx.lt
      replace hX := StA.below hX hb
      replace hC := Chg.trans hC (Chg.of_below hb)
      replace hk := hk.below hb hk.lt
      dsimp only [pick, List.filterMap, List.getElem?_cons_succ, List.getElem?_cons_zero]
      repeat (go_big_quiet_step ((fail)))
      exact wpQuiet_nil rfl
     case' _ =>
      refine ownWalk_alloc ⟨10, .ptr, (.cells #[.int .i64 0, .int .i64 0, .int .i64 0] 100), 11, (.cells #[kg, kc, km] 100)⟩ hok (by kernel_rfl) rfl rfl rfl rfl (fun _ => rfl) (by simp) (by simp) (fun h => absurd h (by simp)) ?_
      intro hob
      simp only [Shape.val, List.setIfInBounds_toArray, List.set_cons_succ, List.set_cons_zero]
      refine ownWalk_fill (cs := #[.int .i64 0, .int .i64 0, .int .i64 0]) (cs' := #[kg, kc, km]) ⟨10, .ptr, (.cells #[.int .i64 0, .int .i64 0, .int .i64 0] 100), 11, (.cells #[kg, kc, km] 100)⟩ hok (by kernel_rfl) rfl rfl rfl rfl rfl rfl rfl rfl (by kernel_rfl) rfl (by simp [Value.oneCell']) rfl rfl (by simp) (by simp) (by simp) rfl ?_ (by simp)
      refine ownWalk_nil ?_
      intro w' hc0 hD
      have hb := hc0.nil_
      obtain ⟨hoge, ho⟩ := hD.box.get (x := ⟨10, .ptr, (.cells #[.int .i64 0, .int .i64 0, .int .i64 0] 100), 11, (.cells #[kg, kc, km] 100)⟩) (o := (.cells #[kg, kc, km] 100)) (by simp) rfl rfl
      replace ho : Blk _ _ _ _ := ho
      clear hD
      try simp only [List.drop_succ_cons, List.drop_zero]
      replace c9 : w'.cell? _ = _ := z_c9.out w' hb
      clear z_x0 z_x1 z_x2 z_x3 z_x4 z_x5 z_x6 z_x7 z_k0 z_k1 z_k2 z_c9
      clear x0 x1 x2 x3 x4 x5 x6 x7 k0 k1 k2
      replace hx := hx.below hb hx.lt
      replace hX := StA.below hX hb
      replace hC := Chg.trans hC (Chg.of_below hb)
      replace hk := hk.below hb hk.lt
      clear hb hok hc0
      obtain ⟨W, rfl⟩ := is_ w'
      obtain ⟨x0, x1, x2, x3, x4, x5, x6, x7⟩ := hx.all8
      have k0 := hk.cell_ 0 rfl
      have k1 := hk.cell_ 1 rfl
      have k2 := hk.cell_ 2 rfl
      have o0 := ho.cell_ 0 rfl
      have o1 := ho.cell_ 1 rfl
      have o2 := ho.cell_ 2 rfl
      clear HLK c9
      go_upto_region 12 with fail
      clear hnq
      clear x0 x1 x2 x3 x4 x5 x6 x7 k0 k1 k2 o0 o1 o2
      clear ho
    case' false =>
     rw [hq] at hnq
     simp only [Bool.not_false] at hnq
     have HE : Hid (recE s r = 23 ∧ recS s r = s) := by
      have h0 : (decide (kg = gr) && decide (kc = co) && decide (km = ma)) = false := by
       rw [Bool.eq_false_iff] at hq ⊢
       intro h
       apply hq
       simp only [Bool.and_eq_true, beq_iff_eq, decide_eq_true_eq] at h ⊢
       exact ⟨h.1.1, h.1.2, h.2⟩
      have hk0 : kinOk s r = false := by unfold kinOk; rw [HR.out]; dsimp only; rw [hl]; exact h0
      have h1 : recE s r = 23 := by unfold recE; rw [HV.out, HPN.out, hk0]; rfl
      exact ⟨h1, by unfold recS; rw [h1]; rfl⟩
     clear hl hq
     go_wp2_with fail
     obtain ⟨x0, x1, x2, x3, x4, x5, x6, x7⟩ := hx.all8
     have k0 := hk.cell_ 0 rfl
     have k1 := hk.cell_ 1 rfl
     have k2 := hk.cell_ 2 rfl
     have z_x0 := Since.hid x0
     have z_x1 := Since.hid x1
     have z_x2 := Since.hid x2
     have z_x3 := Since.hid x3
     have z_x4 := Since.hid x4
     have z_x5 := Since.hid x5
     have z_x6 := Since.hid x6
     have z_x7 := Since.hid x7
     have z_k0 := Since.hid k0
     have z_k1 := Since.hid k1
     have z_k2 := Since.hid k2
     have z_c9 := Since.hid c9
     have hok : FldOk W ([⟨10, .ptr, (.cells #[.int .i64 0, .int .i64 0, .int .i64 0] 100), 11, (.cells #[kg, kc, km] 100)⟩]) [] := FldOk.nil_
     refine wp_region_both 12 [0, 1, 2, 3, 4, 5, 6, 7, 8, 9] [10, 11] [⟨10, .ptr, (.cells #[.int .i64 0, .int .i64 0, .int .i64 0] 100), 11, (.cells #[kg, kc, km] 100)⟩] [] (fun f hf => by cases hf) (by kernel_rfl) (by kernel_rfl) (by kernel_rfl) (by kernel_rfl) (by kernel_rfl) (by simp) ?_
     apply Exists.intro
     refine ⟨fun W1 hc0 => ?_, ?_⟩
     ·have hb := hc0.nil_
      have y_x0 := Since.cell (z_x0.out W1 hb)
      have y_x1 := Since.cell (z_x1.out W1 hb)
      have y_x2 := Since.cell (z_x2.out W1 hb)
      have y_x3 := Since.cell (z_x3.out W1 hb)
      have y_x4 := Since.cell (z_x4.out W1 hb)
      have y_x5 := Since.cell (z_x5.out W1 hb)
      have y_x6 := Since.cell (z_x6.out W1 hb)
      have y_x7 := Since.cell (z_x7.out W1 hb)
      have y_k0 := Since.cell (z_k0.out W1 hb)
      have y_k1 := Since.cell (z_k1.out W1 hb)
      have y_k2 := Since.cell (z_k2.out W1 hb)
      have y_c9 := Since.cell (z_c9.out W1 hb)
      have y_HLK := fun u : Since W1 => HLK.out u.w (hb.trans (u.h.mono hb.size))
      replace hx := hx.below hb hx.lt
      replace hX := StA.below hX hb
      replace hC := Chg.trans hC (Chg.of_below hb)
      replace hk := hk.below hb hk.lt
      dsimp only [pick, List.filterMap, List.getElem?_cons_succ, List.getElem?_cons_zero]
      repeat (go_big_quiet_step ((fail)))
      exact wpQuiet_nil rfl
     ·refine ownWalk_alloc ⟨10, .ptr, (.cells #[.int .i64 0, .int .i64 0, .int .i64 0] 100), 11, (.cells #[kg, kc, km] 100)⟩ hok (by kernel_rfl) rfl rfl rfl rfl (fun _ => rfl) (by simp) (by simp) (fun h => absurd h (by simp)) ?_
      intro hob
      simp only [Shape.val, List.setIfInBounds_toArray, List.set_cons_succ, List.set_cons_zero]
      refine ownWalk_fill (cs := #[.int .i64 0, .int .i64 0, .int .i64 0]) (cs' := #[kg, kc, km]) ⟨10, .ptr, (.cells #[.int .i64 0, .int .i64 0, .int .i64 0] 100), 11, (.cells #[kg, kc, km] 100)⟩ hok (by kernel_rfl) rfl rfl rfl rfl rfl rfl rfl rfl (by kernel_rfl) rfl (by simp [Value.oneCell']) rfl rfl (by simp) (by simp) (by simp) rfl ?_ (by simp)
      refine ownWalk_nil ?_
      intro w' hc0 hD
      have hb := hc0.nil_
      obtain ⟨hoge, ho⟩ := hD.box.get (x := ⟨10, .ptr, (.cells #[.int .i64 0, .int .i64 0, .int .i64 0] 100), 11, (.cells #[kg, kc, km] 100)⟩) (o := (.cells #[kg, kc, km] 100)) (by simp) rfl rfl
      replace ho : Blk _ _ _ _ := ho
      clear hD
      try simp only [List.drop_succ_cons, List.drop_zero]
      replace c9 : w'.cell? _ = _ := z_c9.out w' hb
      clear z_x0 z_x1 z_x2 z_x3 z_x4 z_x5 z_x6 z_x7 z_k0 z_k1 z_k2 z_c9
      clear x0 x1 x2 x3 x4 x5 x6 x7 k0 k1 k2
      replace hx := hx.below hb hx.lt
      replace hX := StA.below hX hb
      replace hC := Chg.trans hC (Chg.of_below hb)
      replace hk := hk.below hb hk.lt
      clear hb hok hc0
      obtain ⟨W, rfl⟩ := is_ w'
      obtain ⟨x0, x1, x2, x3, x4, x5, x6, x7⟩ := hx.all8
      have k0 := hk.cell_ 0 rfl
      have k1 := hk.cell_ 1 rfl
      have k2 := hk.cell_ 2 rfl
      have o0 := ho.cell_ 0 rfl
      have o1 := ho.cell_ 1 rfl
      have o2 := ho.cell_ 2 rfl
      clear HLK c9
      go_wp2_with fail
      go_ret
      rw [HE.out.1, HE.out.2]
      exact ⟨rfl, hX, hC⟩
   all_goals
    have c9 := hX.blk.cell_ 9 (v := .map (some p.rl)) rfl
    go_wp2_with fail
    obtain ⟨x0, x1, x2, x3, x4, x5, x6, x7⟩ := hx.all8
    have k0 := hk.cell_ 0 rfl
    have k1 := hk.cell_ 1 rfl
    have k2 := hk.cell_ 2 rfl
    refine wp_region_qt 7 (by kernel_rfl) (by kernel_rfl) ?_
    simp only [List.take_succ_cons, List.take_zero, List.drop_succ_cons, List.drop_zero]
    obtain ⟨y_x0, y_x1, y_x2, y_x3, y_x4, y_x5, y_x6, y_x7⟩ := Since.c8 x0 x1 x2 x3 x4 x5 x6 x7
    obtain ⟨y_k0, y_k1, y_k2⟩ := Since.c3 k0 k1 k2
    have y_c9 := Since.cell c9
    clear x0 x1 x2 x3 x4 x5 x6 x7 k0 k1 k2
    repeat (go_big_quiet_step ((fail)))
    refine wpQuiet_nil ?_
    rintro W ⟨⟨_, hb⟩, rfl⟩
    try dsimp only at hb ⊢
    replace c9 := sat y_c9 hb
    clear y_x0 y_x1 y_x2 y_x3 y_x4 y_x5 y_x6 y_x7 y_k0 y_k1 y_k2 y_c9
    replace hx := hx.below hb hx.lt
    replace hX := StA.below hX hb
    replace hC := Chg.trans hC (Chg.of_below hb)
    replace hk := hk.below hb hk.lt
    clear hb
    obtain ⟨x0, x1, x2, x3, x4, x5, x6, x7⟩ := hx.all8
    have k0 := hk.cell_ 0 rfl
    have k1 := hk.cell_ 1 rfl
    have k2 := hk.cell_ 2 rfl
    clear x0 x1 x2 x3 x4 x5 x6 x7 k0 k1 k2
    clear c9
    go_wp2_with (refine wpList_put_im rfl rfl _ _ _ _ rfl _ _ Tryz.underlying65 Tryz.underlying3 p.rl rfl hX.lots lo (.agg #[gr, co, ma]) rfl rfl ?_; intro W5 hM5 hg5)
    have hX5 := hX.upd_lots (P' := put s.lots lo ⟨gr, co, ma⟩) hg5 (by rw [← put_kv]; exact hM5)
    have hx5 := hx.chg (S := fun k => k = p.rl) (.of_grown hg5 rfl) (fun he => hX.lots.blk_ne hx he.symm)
    have hC5 : Chg p.has w W5 := hC.trans (.of_grown hg5 (by simp [Fp.has]))
    clear hk hX hx hC hM5 hg5
    obtain ⟨W, rfl⟩ := is_ W5
    have c8 := hX5.blk.cell_ 8 (v := .map (some p.rq)) rfl
    go_wp2_with fail
    obtain ⟨x0, x1, x2, x3, x4, x5, x6, x7⟩ := hx5.all8
    refine wp_region_qt 6 (by kernel_rfl) (by kernel_rfl) ?_
    simp only [List.take_succ_cons, List.take_zero, List.drop_succ_cons, List.drop_zero]
    obtain ⟨y_x0, y_x1, y_x2, y_x3, y_x4, y_x5, y_x6, y_x7⟩ := Since.c8 x0 x1 x2 x3 x4 x5 x6 x7
    have y_c8 := Since.cell c8
    clear x0 x1 x2 x3 x4 x5 x6 x7
    repeat (go_big_quiet_step ((fail)))
    refine wpQuiet_nil ?_
    rintro W ⟨⟨_, hb⟩, rfl⟩
    try dsimp only at hb ⊢
    replace c8 := sat y_c8 hb
    clear y_x0 y_x1 y_x2 y_x3 y_x4 y_x5 y_x6 y_x7 y_c8
    replace hx5 := hx5.below hb hx5.lt
    replace hX5 := StA.below hX5 hb
    replace hC5 := Chg.trans hC5 (Chg.of_below hb)
    clear hb
    obtain ⟨x0, x1, x2, x3, x4, x5, x6, x7⟩ := hx5.all8
    clear x0 x1 x2 x3 x4 x5 x6 x7
    clear c8
    go_wp2_with (refine wpList_put_im rfl rfl _ _ _ _ rfl _ _ Tryz.underlying64 Tryz.underlying3 p.rq rfl hX5.parent id (.int .i64 0) rfl rfl ?_; intro W6 hM6 hg6)
    have hX6 := hX5.upd_parent (P' := put s.parent id 0) hg6 (by rw [← put_kv]; exact hM6)
    have hx6 := hx5.chg (S := fun k => k = p.rq) (.of_grown hg6 rfl) (fun he => hX5.parent.blk_ne hx5 he.symm)
    have hC6 : Chg p.has w W6 := hC5.trans (.of_grown hg6 (by simp [Fp.has]))
    clear hX5 hx5 hC5 hM6 hg6
    obtain ⟨W, rfl⟩ := is_ W6
    have c10 := hX6.blk.cell_ 10 (v := s.last) rfl
    go_wp2_with fail
    obtain ⟨x0, x1, x2, x3, x4, x5, x6, x7⟩ := hx6.all8
    refine wp_region_qt 10 (by kernel_rfl) (by kernel_rfl) ?_
    simp only [List.take_succ_cons, List.take_zero, List.drop_succ_cons, List.drop_zero]
    obtain ⟨y_x0, y_x1, y_x2, y_x3, y_x4, y_x5, y_x6, y_x7⟩ := Since.c8 x0 x1 x2 x3 x4 x5 x6 x7
    have y_c10 := Since.cell c10
    clear x0 x1 x2 x3 x4 x5 x6 x7
    repeat (go_big_quiet_step ((fail)))
    refine wpQuiet_nil ?_
    rintro W ⟨⟨_, hb⟩, rfl⟩
    try dsimp only at hb ⊢
    replace c10 := sat y_c10 hb
    clear y_x0 y_x1 y_x2 y_x3 y_x4 y_x5 y_x6 y_x7 y_c10
    replace hx6 := hx6.below hb hx6.lt
    replace hX6 := StA.below hX6 hb
    replace hC6 := Chg.trans hC6 (Chg.of_below hb)
    clear hb
    obtain ⟨x0, x1, x2, x3, x4, x5, x6, x7⟩ := hx6.all8
    clear x0 x1 x2 x3 x4 x5 x6 x7
    clear c10
    go_upto_region 15 with (refine wpList_store_at rfl 3 _ _ rfl (.int .i64 (max s.last id)) hX6.blk rfl rfl (by kernel_rfl) rfl (by simp [storeCells_]) rfl ?_; intro W7 hB7 hc7; rw [← imax_max] at hB7)
    have hX7 := hX6.upd_blk (s' := { s with lots := put s.lots lo ⟨gr, co, ma⟩, parent := put s.parent id 0, last := imax s.last id }) hc7 hB7 (by simp [storeCells_]) rfl rfl rfl rfl
    have hx7 := hx6.chg1 hc7 (hx6.ne_ hX6.blk (by decide))
    have hC7 : Chg p.has w W7 := hC6.trans (hc7.mono fun k _ hk => .inl hk)
    clear hX6 hx6 hC6 hB7 hc7
    obtain ⟨W, rfl⟩ := is_ W7
    try dsimp only [Act.put]
    have HX7 := hide hX7
    have HXX := hide hx7
    have HC7 := hide hC7
    have HC6 := hide (hX7.blk.cell_ 6 (v := .map (some p.ri)) rfl)
    have hS7 : Hid (Slc Pt.enc 2 W W.heap.size A fs) := by
     have h1 : Slc Pt.enc 2 W w.heap.size A fs := HS.out.chgE hC7 (Nat.le_refl _) HNA.out
     exact h1.more hC7.size
    clear hX7 hx7 hC7
    go_upto_region 15 with fail
    refine wp_region_callb (args := #[.slice A fs.length c]) 26 24 25 [0, 1, 2, 3, 4, 5, 6, 7, 8, 9, 10, 11, 12, 13, 14, 15, 16, 17, 18, 19, 20, 21, 22, 23] (fun u w' => ∃ A' c', u = .slice A' fs.length c' ∧ ItV w' (rollItem r) ((rollItem r).valAt A' c')) (fun u => ∃ A' n' c', u = .slice A' n' c') (fun u => .agg #[id, id, gr, co, lo, ma, wi, le, u]) (by kernel_rfl) (by kernel_rfl) (by kernel_rfl) (by kernel_rfl) (by decide) (fun u w w' hb ⟨A', c', h1, h2⟩ => ⟨A', c', h1, h2.below hb⟩) (fun u w ⟨A', c', h1, _⟩ => ⟨A', _, c', h1⟩) ⟨.slice none 0 0, none, 0, 0, rfl⟩ rfl rfl rfl rfl rfl (fun _ _ => rfl) ?_
    apply Exists.intro
    refine ⟨fun W1 hc => ?_, ?_⟩
    ·have y6 := Since.cell (Since.later hc HC6.out)
     have hx1 := HXX.out.below hc HXX.out.lt
     obtain ⟨y0, y1, y2, y3, y4, y5, y6b, y7⟩ := hx1.sin8
     clear hx1
     dsimp only [pick, List.filterMap, List.getElem?_cons_succ, List.getElem?_cons_zero]
     repeat (go_big_quiet_step (fail))
     exact wpQuiet_nil rfl
    refine ⟨by simp [Act.eval], rfl, fun w1 hb1 => ?_, fun u0 ⟨A', n', c', hu⟩ => ?_, fun u w8 hb8 hR => ?_⟩
    ·refine (cloneSpan_any A c fs w1 hfl (Slc.on hS7.out hb1)).mono ?_
     rintro e w2 ⟨A', c', rfl, hb2, hS2, hO2⟩
     have hrf : (rollItem r).faults = fs := by rw [HR.out]; rfl
     exact ⟨_, rfl, ⟨A', c', rfl, ItV.made (by rw [hrf]; exact hS2) (by rw [hrf]; exact hO2)⟩, hb2⟩
    ·subst hu
     refine ⟨rfl, fun w1 => ?_⟩
     exact exec_bstruct rfl (by simp [Act.eval, Act.put]) (run_roll id gr co lo ma wi le A' n' c' w1)
    obtain ⟨A', c', rfl, hIt⟩ := hR
    have hX8 := HX7.out.below hb8
    have hx8 := HXX.out.below hb8 HXX.out.lt
    have hC8 := HC7.out.trans (.of_below hb8)
    clear HX7 HXX HC7 HC6 hS7 hb8
    obtain ⟨W, rfl⟩ := is_ w8
    dsimp only [Act.put]
    simp only [List.setIfInBounds_toArray, List.set_cons_succ, List.set_cons_zero, List.drop_succ_cons, List.drop_zero]
    obtain ⟨MI, hM, hZ⟩ := hX8.items
    have e9 : (rollItem r).valAt A' c' = .agg #[id, id, gr, co, lo, ma, wi, le, .slice A' fs.length c'] := by rw [HR.out]; rfl
    rw [e9] at hIt
    refine wpList_put_im rfl rfl _ _ _ _ rfl _ _ Tryz.underlying62 Tryz.underlying3 p.ri rfl hM id (.agg #[id, id, gr, co, lo, ma, wi, le, .slice A' fs.length c']) rfl rfl ?_
    intro W9 hM9 hg9
    have hX9 := hX8.put_item (x := rollItem r) hg9 hZ hM9 hIt
    have hx9 := hx8.chg (S := fun k => k = p.ri) (.of_grown hg9 rfl) (fun he => hM.blk_ne hx8 he.symm)
    have hC9 : Chg p.has w W9 := hC8.trans (.of_grown hg9 (by simp [Fp.has]))
    clear hX8 hx8 hC8 hM hZ hM9 hg9 hIt e9
    obtain ⟨W, rfl⟩ := is_ W9
    have c11 := hX9.blk.cell_ 11 (v := s.received) rfl
    obtain ⟨b1, b2, b3, b4, b5, b6, b7, b8, b9⟩ := roll_bd HV.out
    have HAR : Hid (0 ≤ wi * le ∧ wi * le ≤ 900000) := by
     show _ ∧ _
     have h6 : 1 ≤ wi ∧ wi ≤ 150 := by have h := b6; rw [HR.out] at h; exact h
     have h7 : 1 ≤ le ∧ le ≤ 6000 := by have h := b7; rw [HR.out] at h; exact h
     exact mul_le_mul0 (b := 150) (e := 6000) (by omega) h6.2 (by omega) h7.2
    clear b1 b2 b3 b4 b5 b6 b7 b8 b9
    have hrcv : 0 ≤ s.received := by
     have h1 := HI.out.ba
     have h2 : 0 ≤ sumM areaS s.items := sum_nonneg fun q hq => (item_area HI.out (look_mem HI.out.ki hq)).1
     have h3 : 0 ≤ sumM areaP s.pieces := sum_nonneg fun q hq => (piece_area HI.out (look_mem HI.out.kp hq)).1
     have h4 := HI.out.wa
     omega
    have e1 := IntWalk.i64_in (wi * le) (by have := HAR.out; omega)
    have e2 := IntWalk.i64_in (s.received + wi * le) (by have := HAR.out; have := HF.out.re; omega)
    clear hrcv
    go_wp2_with fail
    obtain ⟨x0, x1, x2, x3, x4, x5, x6, x7⟩ := hx9.all8
    refine wp_region_qt 12 (by kernel_rfl) (by kernel_rfl) ?_
    simp only [List.take_succ_cons, List.take_zero, List.drop_succ_cons, List.drop_zero]
    obtain ⟨y_x0, y_x1, y_x2, y_x3, y_x4, y_x5, y_x6, y_x7⟩ := Since.c8 x0 x1 x2 x3 x4 x5 x6 x7
    have y_c11 := Since.cell c11
    clear x0 x1 x2 x3 x4 x5 x6 x7
    repeat (go_big_quiet_step ((fail)))
    refine wpQuiet_nil ?_
    rintro W ⟨⟨_, hb⟩, rfl⟩
    try dsimp only at hb ⊢
    replace c11 := sat y_c11 hb
    clear y_x0 y_x1 y_x2 y_x3 y_x4 y_x5 y_x6 y_x7 y_c11
    replace hx9 := hx9.below hb hx9.lt
    replace hX9 := StA.below hX9 hb
    replace hC9 := Chg.trans hC9 (Chg.of_below hb)
    clear hb
    obtain ⟨x0, x1, x2, x3, x4, x5, x6, x7⟩ := hx9.all8
    clear x0 x1 x2 x3 x4 x5 x6 x7
    clear c11
    go_upto_region 17 with (refine wpList_store_at rfl 3 _ _ rfl (.int .i64 (s.received + wi * le)) hX9.blk rfl rfl (by kernel_rfl) rfl (by simp [storeCells_]) rfl ?_; intro W10 hB10 hc10)
    have hX10 := hX9.upd_blk (s' := recFn s r) hc10 hB10 (by rw [HR.out]; simp [storeCells_, recFn]) (by rw [HR.out]; rfl) (by rw [HR.out]; rfl) (by rw [HR.out]; rfl) (by rw [HR.out]; rfl)
    have hC10 : Chg p.has w W10 := hC9.trans (hc10.mono fun k _ hk => .inl hk)
    clear hX9 hC9 hx9 hB10 hc10
    go_wp2_with fail
    go_ret
    rw [HE.out.1, HE.out.2]
    exact ⟨rfl, hX10, hC10⟩
end Go.Proofs.YtehlbomkldnalaaGreat

/- validNeed: the walk. -/
namespace Go.Proofs.YtehlbomkldnalaaGreat
open Go Go.RowKit
def needB (n : Need) (day : Int) : Bool := inB 1 n.grade 3 && (inB 1 n.colour 7 && (inB 1 n.width 150 && (inB 1 n.length 6000 && (inB 1 n.count 50 && inB 0 day 100000))))
theorem needB_ok {n : Need} {day : Int} (h : needB n day = true) : NeedOk n ∧ (0 ≤ day ∧ day ≤ 100000) := by
 unfold needB at h
 simp only [Bool.and_eq_true, inB_iff] at h
 exact ⟨⟨h.1, h.2.2.1, h.2.2.2.1, h.2.2.2.2.1⟩, h.2.2.2.2.2⟩
set_option maxRecDepth 100000 in
set_option maxHeartbeats 2000000 in
theorem validNeed_any (n : Need) (day : Int) (w : World) : Calls Tryz.prog 53 #[.agg ↑n, day] w fun e w' => e = .returned (.bool (needB n day)) ∧ Below w.heap.size w w' := by
 have hn := Blk.new w 45 ↑n
 have hB := (Below.refl w.heap.size w).alloc (Nat.le_refl _) (.cells ↑n 45)
 go_enter Tryz.func53, Tryz.ntmps53
 go_upto_region 1 with fail
 generalize w.alloc (.cells ↑n 45) = W at *
 obtain ⟨y0, y1, y2, y3, y4⟩ := hn.all5
 clear hn
 cases h1 : inB 1 n.grade 3 with
 | false =>
  have HE : Hid (needB n day = false) := by show _ = _; unfold needB; rw [h1]; rfl
  go_wp2_with fail
  refine (within_is 1 n.grade 3 _ h1).mono ?_
  rintro e W' ⟨rfl, rfl⟩
  clear h1
  go_wp2_with fail
  go_ret
  exact ⟨by rw [HE.out]; rfl, hB⟩
 | true =>
  go_wp2_with fail
  refine (within_is 1 n.grade 3 _ h1).mono ?_
  rintro e W' ⟨rfl, rfl⟩
  have H1 := hide h1
  clear h1
  cases h2 : inB 1 n.colour 7 with
  | false =>
   have HE : Hid (needB n day = false) := by show _ = _; unfold needB; rw [H1.out, h2]; rfl
   go_wp2_with fail
   refine (within_is 1 n.colour 7 _ h2).mono ?_
   rintro e W' ⟨rfl, rfl⟩
   clear h2
   go_wp2_with fail
   go_ret
   exact ⟨by rw [HE.out]; rfl, hB⟩
  | true =>
   go_wp2_with fail
   refine (within_is 1 n.colour 7 _ h2).mono ?_
   rintro e W' ⟨rfl, rfl⟩
   have H2 := hide h2
   clear h2
   cases h3 : inB 1 n.width 150 with
   | false =>
    have HE : Hid (needB n day = false) := by show _ = _; unfold needB; rw [H1.out, H2.out, h3]; rfl
    go_wp2_with fail
    refine (within_is 1 n.width 150 _ h3).mono ?_
    rintro e W' ⟨rfl, rfl⟩
    clear h3
    go_wp2_with fail
    go_ret
    exact ⟨by rw [HE.out]; rfl, hB⟩
   | true =>
    go_wp2_with fail
    refine (within_is 1 n.width 150 _ h3).mono ?_
    rintro e W' ⟨rfl, rfl⟩
    have H3 := hide h3
    clear h3
    cases h4 : inB 1 n.length 6000 with
    | false =>
     have HE : Hid (needB n day = false) := by show _ = _; unfold needB; rw [H1.out, H2.out, H3.out, h4]; rfl
     go_wp2_with fail
     refine (within_is 1 n.length 6000 _ h4).mono ?_
     rintro e W' ⟨rfl, rfl⟩
     clear h4
     go_wp2_with fail
     go_ret
     exact ⟨by rw [HE.out]; rfl, hB⟩
    | true =>
     go_wp2_with fail
     refine (within_is 1 n.length 6000 _ h4).mono ?_
     rintro e W' ⟨rfl, rfl⟩
     have H4 := hide h4
     clear h4
     cases h5 : inB 1 n.count 50 with
     | false =>
      have HE : Hid (needB n day = false) := by show _ = _; unfold needB; rw [H1.out, H2.out, H3.out, H4.out, h5]; rfl
      go_wp2_with fail
      refine (within_is 1 n.count 50 _ h5).mono ?_
      rintro e W' ⟨rfl, rfl⟩
      clear h5
      go_wp2_with fail
      go_ret
      exact ⟨by rw [HE.out]; rfl, hB⟩
     | true =>
      go_wp2_with fail
      refine (within_is 1 n.count 50 _ h5).mono ?_
      rintro e W' ⟨rfl, rfl⟩
      have HE : Hid (needB n day = inB 0 day 100000) := by show _ = _; unfold needB; rw [H1.out, H2.out, H3.out, H4.out, h5]; rfl
      clear h5
      obtain ⟨b6, h6⟩ := nm_ (inB 0 day 100000)
      have H6 := hide h6
      clear h6
      go_wp2_with fail
      refine (within_is 0 day 100000 _ H6.out).mono ?_
      rintro e W' ⟨rfl, rfl⟩
      go_wp2_with fail
      go_ret
      exact ⟨by rw [HE.out, H6.out]; rfl, hB⟩
theorem validNeed_is (n : Need) (day : Int) (w : World) {b : Bool} (h : needB n day = b) : Calls Tryz.prog 53 #[.agg ↑n, day] w fun e w' => e = .returned (.bool b) ∧ Below w.heap.size w w' := by
 subst h; exact validNeed_any n day w
end Go.Proofs.YtehlbomkldnalaaGreat

/- What the search for the best item holds, and where an item's faults lie: plain. -/
namespace Go.Proofs.YtehlbomkldnalaaGreat
open Go Go.RowKit
def zS : Sheet := ⟨0, 0, 0, 0, 0, 0, 0, 0, []⟩
/-- the best of the items that are not in L -/
def BestOk (s : SS) (n : Need) (lot day : Int) (L : List (Int × Value)) : Option Sheet → Prop
 | none => ∀ q ∈ s.items, (∃ v, (q.1, v) ∈ L) ∨ candF s.rules n lot day q.2 = false
 | some b => (b.id, b) ∈ s.items ∧ candF s.rules n lot day b = true ∧ ∀ q ∈ s.items, candF s.rules n lot day q.2 = true → (∃ v, (q.1, v) ∈ L) ∨ lessS q.2 b = false
section
variable {s : SS} {n : Need} {lot day : Int} {L L1 L2 MI : List (Int × Value)} {o : Option Sheet} {k : Int} {v : Value} {x : Sheet} {w : World}
theorem best_start {R : Sheet → Value → Prop} (hz : Zip R s.items MI) : BestOk s n lot day MI none := fun q hq => by
 obtain ⟨i, hi⟩ := List.getElem?_of_mem hq
 have hl : i < MI.length := by rw [hz.1]; exact (List.getElem?_eq_some_iff.1 hi).1
 have := hz.2 i q MI[i] hi (List.getElem?_eq_getElem hl)
 exact .inl ⟨MI[i].2, by rw [this.1]; exact List.getElem_mem hl⟩
theorem best_end (h : BestOk s n lot day [] o) : Chosen s n lot day o := by
 cases o with
 | none => exact fun q hq => (h q hq).resolve_left fun ⟨v, hv⟩ => by cases hv
 | some b => exact ⟨h.1, h.2.1, fun q hq hc => (h.2.2 q hq hc).resolve_left fun ⟨v, hv⟩ => by cases hv⟩
theorem left_or {q : Int × Sheet} (hki : NodupK s.items) (hx : (k, x) ∈ s.items) (hq : q ∈ s.items) (h : ∃ u, (q.1, u) ∈ L1 ++ (k, v) :: L2) : (∃ u, (q.1, u) ∈ L1 ++ L2) ∨ q.2 = x := by
 obtain ⟨u, hu⟩ := h
 rcases List.mem_append.1 hu with h1 | h1
 ·exact .inl ⟨u, List.mem_append_left _ h1⟩
 ·rcases List.mem_cons.1 h1 with h2 | h2
  ·injection h2 with h3 h4
   have l1 := look_mem hki hx
   have l2 := look_mem hki (k := q.1) (v := q.2) hq
   rw [h3, l1] at l2
   injection l2 with l2
   exact .inr l2.symm
  ·exact .inl ⟨u, List.mem_append_right _ h2⟩
theorem best_skip (hki : NodupK s.items) (hx : (k, x) ∈ s.items) (hc : candF s.rules n lot day x = false) (h : BestOk s n lot day (L1 ++ (k, v) :: L2) o) : BestOk s n lot day (L1 ++ L2) o := by
 cases o with
 | none =>
  intro q hq
  rcases h q hq with h1 | h1
  ·rcases left_or hki hx hq h1 with h2 | h2
   ·exact .inl h2
   ·exact .inr (by rw [h2]; exact hc)
  ·exact .inr h1
 | some b =>
  refine ⟨h.1, h.2.1, fun q hq hqc => ?_⟩
  rcases h.2.2 q hq hqc with h1 | h1
  ·rcases left_or hki hx hq h1 with h2 | h2
   ·exact .inl h2
   ·rw [h2, hc] at hqc; cases hqc
  ·exact .inr h1
theorem best_keep {b : Sheet} (hki : NodupK s.items) (hx : (k, x) ∈ s.items) (hl : lessS x b = false) (h : BestOk s n lot day (L1 ++ (k, v) :: L2) (some b)) : BestOk s n lot day (L1 ++ L2) (some b) := by
 refine ⟨h.1, h.2.1, fun q hq hqc => ?_⟩
 rcases h.2.2 q hq hqc with h1 | h1
 ·rcases left_or hki hx hq h1 with h2 | h2
  ·exact .inl h2
  ·exact .inr (by rw [h2]; exact hl)
 ·exact .inr h1
theorem less_irr (a : Sheet) : lessS a a = false := by unfold lessS; simp
theorem less_asymm {a b : Sheet} (h : lessS a b = true) : lessS b a = false := by
 unfold lessS at h ⊢
 simp only [Bool.or_eq_true, Bool.and_eq_true, decide_eq_true_eq, Bool.or_eq_false_iff, Bool.and_eq_false_iff, decide_eq_false_iff_not] at h ⊢
 omega
theorem best_new (hki : NodupK s.items) (hx : (k, x) ∈ s.items) (hid : x.id = k) (hc : candF s.rules n lot day x = true) (ho : ∀ b, o = some b → lessS x b = true) (h : BestOk s n lot day (L1 ++ (k, v) :: L2) o) : BestOk s n lot day (L1 ++ L2) (some x) := by
 refine ⟨by rw [hid]; exact hx, hc, fun q hq hqc => ?_⟩
 cases o with
 | none =>
  rcases h q hq with h1 | h1
  ·rcases left_or hki hx hq h1 with h2 | h2
   ·exact .inl h2
   ·exact .inr (by rw [h2]; exact less_irr x)
  ·rw [h1] at hqc; cases hqc
 | some b =>
  rcases h.2.2 q hq hqc with h1 | h1
  ·rcases left_or hki hx hq h1 with h2 | h2
   ·exact .inl h2
   ·exact .inr (by rw [h2]; exact less_irr x)
  ·exact .inr (less_trans (less_asymm (ho b rfl)) h1)
theorem zip_mem {R : Sheet → Value → Prop} (hz : Zip R s.items MI) (h : (k, v) ∈ MI) : ∃ x, (k, x) ∈ s.items ∧ R x v := by
 obtain ⟨i, hi⟩ := List.getElem?_of_mem h
 have hl : i < s.items.length := by rw [← hz.1]; exact (List.getElem?_eq_some_iff.1 hi).1
 have := hz.2 i s.items[i] (k, v) (List.getElem?_eq_getElem hl) hi
 refine ⟨s.items[i].2, ?_, this.2⟩
 have e : (k, s.items[i].2) = s.items[i] := Prod.ext this.1.symm rfl
 rw [e]; exact List.getElem_mem hl
theorem ItV.zero (w : World) : ItV w zS (zS.valAt none 0) := ⟨none, 0, rfl, fun i y hy => by simp [zS] at hy, fun h => absurd rfl h⟩
theorem spans_bd {len last : Int} : ∀ {fs : List Pt}, spansOk len last fs = true → 0 ≤ last → ∀ q ∈ fs, 0 ≤ q.a ∧ q.a ≤ len ∧ 0 ≤ q.b ∧ q.b ≤ len
 | [], _, _, q, hq => by cases hq
 | f :: r, h, h0, q, hq => by
  unfold spansOk at h
  simp only [Bool.and_eq_true, Bool.not_eq_true', Bool.or_eq_false_iff, decide_eq_false_iff_not] at h
  obtain ⟨⟨⟨a1, a2⟩, a3⟩, a4⟩ := h
  rcases List.mem_cons.1 hq with rfl | hq
  ·omega
  ·exact spans_bd a4 (by omega) q hq
end
end Go.Proofs.YtehlbomkldnalaaGreat

/- The bounds of what stands between the steps of a cut: plain. -/
namespace Go.Proofs.YtehlbomkldnalaaGreat
theorem add_bd {s : SS} {x : Sheet} {up m : Int} (hx : 0 ≤ x.width * x.length ∧ x.width * x.length ≤ 900000) : (s.waste ≤ (addF s x up m).waste ∧ (addF s x up m).waste ≤ s.waste + 900000) ∧ (s.last ≤ (addF s x up m).last ∧ (addF s x up m).last ≤ s.last + 1) ∧ (addF s x up m).rules = s.rules := by
 unfold addF
 split
 ·exact ⟨⟨by show s.waste ≤ s.waste + x.width * x.length; omega, by show s.waste + x.width * x.length ≤ _; omega⟩, ⟨Int.le_refl _, by show s.last ≤ _; omega⟩, rfl⟩
 ·exact ⟨⟨Int.le_refl _, by show s.waste ≤ _; omega⟩, ⟨by show s.last ≤ s.last + 1; omega, Int.le_refl _⟩, rfl⟩
structure CutBd (s : SS) (n : Need) (b : Sheet) (q : Int) : Prop where
 aA : 0 ≤ b.width * q ∧ b.width * q ≤ 900000
 aB : 0 ≤ (b.width - n.width) * n.length ∧ (b.width - n.width) * n.length ≤ 900000
 aC : 0 ≤ b.width * (b.length - (q + n.length)) ∧ b.width * (b.length - (q + n.length)) ≤ 900000
 wA : 0 ≤ (cutA s b q).waste ∧ (cutA s b q).waste ≤ 1100000000000000
 wB : 0 ≤ (cutB s n b q).waste ∧ (cutB s n b q).waste ≤ 1200000000000000
 w0 : 0 ≤ s.waste ∧ s.waste ≤ 1000000000000000
 l0 : 0 ≤ s.last ∧ s.last ≤ 1000000000000
 lA : 0 ≤ (cutA s b q).last ∧ (cutA s b q).last ≤ 1000000000001
 lB : 0 ≤ (cutB s n b q).last ∧ (cutB s n b q).last ≤ 1000000000002
 lC : 0 ≤ (cutC s n b q).last ∧ (cutC s n b q).last ≤ 1000000000002
 rA : (cutA s b q).rules = s.rules
 rB : (cutB s n b q).rules = s.rules
theorem rest_last (s : SS) (x : Sheet) : (restF s x).last = s.last := by unfold restF; split <;> rfl
theorem cut_bd {s : SS} (h : Inv s) (f : Few s) {n : Need} (hn : NeedOk n) {b : Sheet} (ho : ItemOk s b) (hw : n.width ≤ b.width) {q : Int} (hq : 0 ≤ q ∧ q ≤ b.length - n.length) : CutBd s n b q := by
 have g1 := ho.w
 have g2 := ho.l
 have g3 := hn.w
 have g4 := hn.l
 have a1 := mul_le_mul0 (a := b.width) (b := 150) (c := q) (e := 6000) (by omega) (by omega) (by omega) (by omega)
 have a2 := mul_le_mul0 (a := b.width - n.width) (b := 150) (c := n.length) (e := 6000) (by omega) (by omega) (by omega) (by omega)
 have a3 := mul_le_mul0 (a := b.width) (b := 150) (c := b.length - (q + n.length)) (e := 6000) (by omega) (by omega) (by omega) (by omega)
 have h0 := waste_bd h f
 have h1 := h.la
 have h2 := f.la
 obtain ⟨b1, b2, b3⟩ := add_bd (s := { s with items := del s.items b.id }) (x := { b with length := q, faults := partF b.faults 0 q }) (up := b.id) (m := 1) a1
 have b1 : s.waste ≤ (cutA s b q).waste ∧ (cutA s b q).waste ≤ s.waste + 900000 := b1
 have b2 : s.last ≤ (cutA s b q).last ∧ (cutA s b q).last ≤ s.last + 1 := b2
 obtain ⟨c1, c2, c3⟩ := add_bd (s := cutA s b q) (x := { b with width := b.width - n.width, length := n.length, faults := [] }) (up := b.id) (m := s.rules.minWidth) a2
 have c1 : (cutA s b q).waste ≤ (cutB s n b q).waste ∧ (cutB s n b q).waste ≤ (cutA s b q).waste + 900000 := c1
 have c2 : (cutA s b q).last ≤ (cutB s n b q).last ∧ (cutB s n b q).last ≤ (cutA s b q).last + 1 := c2
 have d : (cutC s n b q).last = (cutB s n b q).last := rest_last _ _
 exact ⟨a1, a2, a3, by omega, by omega, h0, by omega, by omega, by omega, by omega, b3, c3.trans b3⟩
end Go.Proofs.YtehlbomkldnalaaGreat

/- part: the faults of a part of an item. -/
namespace Go.Proofs.YtehlbomkldnalaaGreat
open Go Go.RowKit
theorem imax_eq (a b : Int) : imax a b = max a b := by unfold imax; split <;> omega
theorem imin_eq (a b : Int) : imin a b = min a b := by unfold imin; split <;> omega
theorem partF_snoc (fs : List Pt) (f : Pt) (a b : Int) : partF (fs ++ [f]) a b = partF fs a b ++ if (partOf a b f).a < (partOf a b f).b then [partOf a b f] else [] := by
 unfold partF
 rw [List.map_append, List.filter_append]
 congr 1
 by_cases h : (partOf a b f).a < (partOf a b f).b
 ·rw [if_pos h]; simp [h]
 ·rw [if_neg h]; simp [h]
set_option maxRecDepth 100000 in
set_option maxHeartbeats 2000000 in
theorem part_any (A : Option Addr) (c : Nat) (fs : List Pt) (a b : Int) (w : World) (hS : Slc Pt.enc 2 w w.heap.size A fs) (hfl : fs.length ≤ 100000) (hfb : ∀ q ∈ fs, -1000000 ≤ q.a ∧ q.a ≤ 1000000 ∧ -1000000 ≤ q.b ∧ q.b ≤ 1000000) (ha : 0 ≤ a ∧ a ≤ 1000000) (hb : 0 ≤ b ∧ b ≤ 1000000) :
  Calls Tryz.prog 88 #[.slice A fs.length c, a, b] w (ClonePost 57 Pt.enc 2 (partF fs a b) w) := by
 have HFB := hide hfb
 have HAB := hide (And.intro ha hb)
 clear hfb ha hb
 go_enter Tryz.func88, Tryz.ntmps88
 go_upto_block 3 with fail
 go_loopw [7, 13] (fun v z wr => ∃ (i : Nat) (ls : List Pt), z = .int .i64 i ∧ i ≤ fs.length ∧ ls.length ≤ i ∧ Hid (ls = partF (fs.take i) a b) ∧ Own wr w.heap.size 57 2 Pt.enc v ls ∧ Below w.heap.size w wr) (fun _ z _ => fs.length - (intOf z).toNat)
 case atStart => exact ⟨0, [], rfl, Nat.zero_le _, Nat.zero_le _, rfl, Own.nil_, Below.refl _ _⟩
 case round =>
  obtain ⟨W, rfl⟩ := is_ wr
  obtain ⟨i, ls, rfl, hi, hll, HL, hO, hB⟩ := hrel
  have hBs := hB.size
  by_cases hlt : i < fs.length
  ·obtain ⟨xa, xb, bF, oF, hx, hA, hbF, d0, d1⟩ := pts_at (hS.below hB) hlt
   have hii : (i : Int) < (fs.length : Int) := by omega
   have ei := wsuc i (by omega)
   have hfx := HFB.out _ (List.mem_of_getElem? hx)
   dsimp only at hfx
   obtain ⟨pa, hpa⟩ : ∃ pa, pa = (partOf a b ⟨xa, xb⟩).a := ⟨_, rfl⟩
   obtain ⟨pb, hpb⟩ : ∃ pb, pb = (partOf a b ⟨xa, xb⟩).b := ⟨_, rfl⟩
   have e1 : IntKind.i64.wrap (max xa a - a) = pa := by
    rw [hpa]; show _ = imax xa a - a
    rw [imax_eq, IntWalk.i64_in _ (by have := HAB.out; omega)]
   have e2 : IntKind.i64.wrap (min xb b - a) = pb := by
    rw [hpb]; show _ = imin xb b - a
    rw [imin_eq, IntWalk.i64_in _ (by have := HAB.out; omega)]
   have HPP : Hid (partOf a b ⟨xa, xb⟩ = ⟨pa, pb⟩) := by show partOf a b ⟨xa, xb⟩ = ⟨pa, pb⟩; rw [hpa, hpb]
   have HT : Hid (partF (fs.take (i + 1)) a b = ls ++ if pa < pb then [⟨pa, pb⟩] else []) := by
    show partF (fs.take (i + 1)) a b = _
    rw [List.take_add_one, hx, Option.toList_some, partF_snoc, HPP.out, HL.out]
   subst hA
   clear hx hfx hpa hpb HPP
   by_cases hc : pa < pb
   ·have HT2 : Hid (ls ++ [⟨pa, pb⟩] = partF (fs.take (i + 1)) a b) := by show _ = _; rw [HT.out, if_pos hc]
    go_upto_region 7 with fail
    have hal := ((Below.refl W.heap.size W).alloc (Nat.le_refl _) (.cells #[xa, xb] 57)).alloc (by simp) (.cells #[pa, pb] 57)
    have hg5 := Blk.new (W.alloc (.cells #[xa, xb] 57)) 57 #[pa, pb]
    rw [show (W.alloc (.cells #[xa, xb] 57)).heap.size = W.heap.size + 1 by simp] at hg5
    replace hO := hO.below hal
    replace hB := hB.trans (hal.mono hB.size)
    clear d0 d1 e1 e2 hal
    generalize (W.alloc (.cells #[xa, xb] 57)).alloc (.cells #[pa, pb] 57) = W5 at *
    have g0 := hg5.cell_ 0 (v := pa) rfl
    have g1 := hg5.cell_ 1 (v := pb) rfl
    go_wp2_with (at_builtin; refine wpList_app_own (base := w.heap.size) (f := Pt.enc) (ys := [⟨pa, pb⟩]) _ _ rfl rfl et_span (hO.alloc _) rfl rfl ((Blk.new W5 57 #[pa, pb]).slc1 (y := (⟨pa, pb⟩ : Pt)) (f := Pt.enc) rfl) rfl pt_len pt_one (by simp <;> omega) (by have := hB.size; simp <;> omega) ?_; intro v6 W6 hO6 hb6 hg6)
    have hal := (Below.refl W5.heap.size W5).alloc (Nat.le_refl _) (.cells #[pa, pb] 57)
    replace hB := (hB.trans (hal.mono hB.size)).trans hb6
    clear g0 g1 hg5 hO hal hb6 hg6
    go_roundw
    case rel => exact ⟨i + 1, ls ++ [⟨pa, pb⟩], by go_num, by omega, by simp; omega, HT2, hO6, hB⟩
    case measure => simp [intOf]; omega
   ·have HT2 : Hid (ls = partF (fs.take (i + 1)) a b) := by show _ = _; rw [HT.out, if_neg hc, List.append_nil]
    go_wp2_with fail
    have hal := ((Below.refl W.heap.size W).alloc (Nat.le_refl _) (.cells #[xa, xb] 57)).alloc (by simp) (.cells #[pa, pb] 57)
    replace hB := hB.trans (hal.mono hB.size)
    replace hO := hO.below hal
    clear d0 d1 e1 e2 hal
    go_roundw
    case rel => exact ⟨i + 1, ls, by go_num, by omega, by omega, HT2, hO, hB⟩
    case measure => simp [intOf]; omega
  ·obtain rfl : i = fs.length := by omega
   have h9 : Hid (ls = partF fs a b) := by show _ = _; rw [HL.out, List.take_length]
   obtain ⟨A, c, rfl, hsl⟩ := hO.form pt_len
   go_wp2_with fail
   go_ret
   rw [← h9.out]
   exact ⟨A, c, rfl, hB, hsl, fun _ => hO⟩
end Go.Proofs.YtehlbomkldnalaaGreat

/- better: which item is taken first. -/
namespace Go.Proofs.YtehlbomkldnalaaGreat
open Go Go.RowKit
theorem isNaN_any (a : Int) (w : World) : Calls Tryz.prog 118 #[a] w fun e w' => e = .returned (.bool false) ∧ w = w' := by
 go_enter Tryz.func118, Tryz.ntmps118
 go_wp2
 go_ret
 exact ⟨by simp, rfl⟩
def cmpN (a b : Int) : Int := if a < b then -1 else if b < a then 1 else 0
theorem ret_int_ {a b : Int} (h : b = a) : Ending.returned (.int .i64 a) = Ending.returned (.int .i64 b) := by rw [h]
theorem compare_any (a b : Int) (w : World) : Calls Tryz.prog 110 #[a, b] w fun e w' => e = .returned (.int .i64 (cmpN a b)) ∧ w = w' := by
 have HC : Hid (cmpN a b = if a < b then -1 else if b < a then 1 else 0) := rfl
 by_cases h1 : a < b
 ·go_enter Tryz.func110, Tryz.ntmps110
  go_wp2_with fail
  refine (isNaN_any _ _).mono ?_
  rintro e W' ⟨rfl, rfl⟩
  go_wp2_with fail
  refine (isNaN_any _ _).mono ?_
  rintro e W' ⟨rfl, rfl⟩
  go_wp2_with fail
  go_ret
  exact ⟨ret_int_ (by rw [HC.out, if_pos h1]), rfl⟩
 ·by_cases h2 : b < a
  ·go_enter Tryz.func110, Tryz.ntmps110
   go_wp2_with fail
   refine (isNaN_any _ _).mono ?_
   rintro e W' ⟨rfl, rfl⟩
   go_wp2_with fail
   refine (isNaN_any _ _).mono ?_
   rintro e W' ⟨rfl, rfl⟩
   go_wp2_with fail
   go_ret
   exact ⟨ret_int_ (by rw [HC.out, if_neg (by omega), if_pos h2]), rfl⟩
  ·go_enter Tryz.func110, Tryz.ntmps110
   go_wp2_with fail
   refine (isNaN_any _ _).mono ?_
   rintro e W' ⟨rfl, rfl⟩
   go_wp2_with fail
   refine (isNaN_any _ _).mono ?_
   rintro e W' ⟨rfl, rfl⟩
   go_wp2_with fail
   go_ret
   exact ⟨ret_int_ (by rw [HC.out, if_neg (by omega), if_neg (by omega)]), rfl⟩
def orL : List Int → Int
 | [] => 0
 | x :: xs => if x = 0 then orL xs else x
def betF (a b : Sheet) : Int := orL [cmpN a.width b.width, cmpN a.length b.length, cmpN a.id b.id]
theorem betF_lt (a b : Sheet) : decide (betF a b < 0) = lessS a b := by
 unfold betF lessS
 simp only [orL]
 unfold cmpN
 by_cases h1 : a.width < b.width
 ·simp [h1]
 ·by_cases h2 : b.width < a.width
  ·have : a.width ≠ b.width := by omega
   simp [h1, h2, this]
  ·have e : a.width = b.width := by omega
   by_cases h3 : a.length < b.length
   ·simp [e, h3]
   ·by_cases h4 : b.length < a.length
    ·have : a.length ≠ b.length := by omega
     simp [e, h3, h4, this]
    ·have e2 : a.length = b.length := by omega
     by_cases h5 : a.id < b.id
     ·simp [e, e2, h5]
     ·by_cases h6 : b.id < a.id
      ·simp [e, e2, h5, h6]
      ·simp [e, e2, h5, h6]
set_option maxRecDepth 100000 in
set_option maxHeartbeats 1000000 in
theorem or_any (A : Option Addr) (c : Nat) (l : List Int) (w : World) (hS : Slc intEnc 1 w w.heap.size A l) (hl : l.length ≤ 1000) : Calls Tryz.prog 109 #[.slice A l.length c] w fun e w' => e = .returned (.int .i64 (orL l)) ∧ Below w.heap.size w w' := by
 go_enter Tryz.func109, Tryz.ntmps109
 go_upto_block 3 with fail
 go_loopw [8] (fun z wr => ∃ (i : Nat), z = .int .i64 i ∧ i ≤ l.length ∧ Hid (orL l = orL (l.drop i)) ∧ Below w.heap.size w wr) (fun z _ => l.length - (intOf z).toNat)
 case atStart => exact ⟨0, rfl, Nat.zero_le _, rfl, Below.refl _ _⟩
 case round =>
  obtain ⟨W, rfl⟩ := is_ wr
  obtain ⟨i, rfl, hi, HL, hB⟩ := hrel
  by_cases hlt : i < l.length
  ·obtain ⟨k, bK, oK, hk, hA, hbK, d0⟩ := ints_at' (hS.below hB) hlt
   have hii : (i : Int) < (l.length : Int) := by omega
   have ei := wsuc i (by omega)
   have hd : l.drop i = k :: l.drop (i + 1) := by
    obtain ⟨h1, h2⟩ := List.getElem?_eq_some_iff.1 hk
    rw [List.drop_eq_getElem_cons h1, h2]
   have HT : Hid (orL l = if k = 0 then orL (l.drop (i + 1)) else k) := by show _ = _; rw [HL.out, hd]; rfl
   subst hA
   clear hk hd
   by_cases hc : k = 0
   ·have HT2 : Hid (orL l = orL (l.drop (i + 1))) := by show _ = _; rw [HT.out, if_pos hc]
    go_wp2_with fail
    go_roundw
    case rel => exact ⟨i + 1, by go_num, by omega, HT2, hB⟩
    case measure => simp [intOf]; omega
   ·go_wp2_with fail
    go_ret
    exact ⟨ret_int_ (by rw [HT.out, if_neg hc]), hB⟩
  ·obtain rfl : i = l.length := by omega
   have h9 : Hid (orL l = 0) := by show _ = _; rw [HL.out, List.drop_length]; rfl
   go_wp2_with fail
   go_ret
   exact ⟨ret_int_ h9.out, hB⟩
theorem slc3 {w : World} {g : Nat} {t : TypeId} (x y z : Int) (h : Blk w g t #[x, y, z]) : Slc intEnc 1 w w.heap.size (some ⟨g, 0, none⟩) [x, y, z] := fun i v hv => by
 refine ⟨g, 0, rfl, h.lt, fun j u hu => ?_⟩
 match i, hv with
 | 0, hv =>
  simp at hv; subst hv
  match j, hu with
  | 0, hu => simp [intEnc] at hu; subst hu; exact h.cell_ 0 rfl
  | j + 1, hu => simp [intEnc] at hu
 | 1, hv =>
  simp at hv; subst hv
  match j, hu with
  | 0, hu => simp [intEnc] at hu; subst hu; exact h.cell_ 1 rfl
  | j + 1, hu => simp [intEnc] at hu
 | 2, hv =>
  simp at hv; subst hv
  match j, hu with
  | 0, hu => simp [intEnc] at hu; subst hu; exact h.cell_ 2 rfl
  | j + 1, hu => simp [intEnc] at hu
 | i + 3, hv => simp at hv
theorem run_build3 (x y z : Int) (w : World) : (Instr.buildSlice 72 3 #[(0, .int .i64 x), (1, .int .i64 y), (2, .int .i64 z)]).run Tryz.prog w = .ok (.slice (some ⟨w.heap.size, 0, none⟩) 3 3) (w.alloc (.cells #[x, y, z] 3)) := by
 kernel_rfl
set_option maxRecDepth 100000 in
set_option maxHeartbeats 2000000 in
theorem better_any (x y : Sheet) (A A' : Option Addr) (c c' : Nat) (w : World) : Calls Tryz.prog 87 #[x.valAt A c, y.valAt A' c'] w fun e w' => e = .returned (.int .i64 (betF x y)) ∧ Below w.heap.size w w' := by
 unfold Sheet.valAt
 obtain ⟨k1, hk1⟩ : ∃ k, k = cmpN x.width y.width := ⟨_, rfl⟩
 obtain ⟨k2, hk2⟩ : ∃ k, k = cmpN x.length y.length := ⟨_, rfl⟩
 obtain ⟨k3, hk3⟩ : ∃ k, k = cmpN x.id y.id := ⟨_, rfl⟩
 have HK : Hid (betF x y = orL [k1, k2, k3]) := by show _ = _; unfold betF; rw [hk1, hk2, hk3]
 have H1 : Hid (∀ w, Calls Tryz.prog 110 #[x.width, y.width] w fun e w' => e = .returned (.int .i64 k1) ∧ w = w') := fun w => by rw [hk1]; exact compare_any _ _ w
 have H2 : Hid (∀ w, Calls Tryz.prog 110 #[x.length, y.length] w fun e w' => e = .returned (.int .i64 k2) ∧ w = w') := fun w => by rw [hk2]; exact compare_any _ _ w
 have H3 : Hid (∀ w, Calls Tryz.prog 110 #[x.id, y.id] w fun e w' => e = .returned (.int .i64 k3) ∧ w = w') := fun w => by rw [hk3]; exact compare_any _ _ w
 clear hk1 hk2 hk3
 have hx := (Blk.new w 93 ↑(x, A, c)).alloc (.cells ↑(y, A', c') 93)
 have hy := Blk.new (w.alloc (.cells ↑(x, A, c) 93)) 93 ↑(y, A', c')
 rw [show (w.alloc (.cells ↑(x, A, c) 93)).heap.size = w.heap.size + 1 by simp] at hy
 have hB := ((Below.refl w.heap.size w).alloc (Nat.le_refl _) (.cells ↑(x, A, c) 93)).alloc (by simp) (.cells ↑(y, A', c') 93)
 go_enter Tryz.func87, Tryz.ntmps87
 go_upto_region 1 with fail
 generalize (w.alloc (.cells ↑(x, A, c) 93)).alloc (.cells ↑(y, A', c') 93) = W at *
 have HX := hide hx
 have HY := hide hy
 have HB := hide hB
 clear hx hy hB
 refine wp_region_buildc (cs := #[k1, k2, k3]) (e := 3) (m := 3) 17 15 16 [0, 1, 2, 3, 4, 5, 6, 7, 8, 9, 10, 11, 12, 13, 14] (.int .i64 (orL [k1, k2, k3])) (by kernel_rfl) (by kernel_rfl) (by kernel_rfl) (by kernel_rfl) (by decide) rfl rfl rfl rfl rfl (fun _ _ => rfl) ?_
 apply Exists.intro
 refine ⟨fun W1 hc => ?_, ?_⟩
 ·have hx1 := HX.out.below hc HX.out.lt
  have hy1 := HY.out.below hc HY.out.lt
  have x0 := Since.cell (hx1.cell_ 0 (v := x.id) rfl)
  have x6 := Since.cell (hx1.cell_ 6 (v := x.width) rfl)
  have x7 := Since.cell (hx1.cell_ 7 (v := x.length) rfl)
  have y0 := Since.cell (hy1.cell_ 0 (v := y.id) rfl)
  have y6 := Since.cell (hy1.cell_ 6 (v := y.width) rfl)
  have y7 := Since.cell (hy1.cell_ 7 (v := y.length) rfl)
  clear hx1 hy1
  dsimp only [pick, List.filterMap, List.getElem?_cons_succ, List.getElem?_cons_zero]
  repeat (go_big_quiet_step ((first | (go_at_call 110; with_reducible exact Since.calls_same (H1.out _)) | (go_at_call 110; with_reducible exact Since.calls_same (H2.out _)) | (go_at_call 110; with_reducible exact Since.calls_same (H3.out _)))))
  exact wpQuiet_nil rfl
 refine ⟨rfl, fun w1 => exec_build rfl (by simp [Act.eval] <;> rfl) (run_build3 k1 k2 k3 w1), fun u0 => ⟨rfl, by simp [Act.eval, Act.put]⟩, fun g w1 hb => or_any _ 3 [k1, k2, k3] w1 (slc3 k1 k2 k3 hb) (by simp), fun g w2 hb => ?_⟩
 have hB := HB.out.trans (hb.mono HB.out.size)
 clear HX HY HB hb
 dsimp only [Act.put]
 simp only [List.setIfInBounds_toArray, List.set_cons_succ, List.set_cons_zero, List.drop_succ_cons, List.drop_zero]
 go_wp2_with fail
 go_ret
 exact ⟨ret_int_ HK.out, hB⟩
end Go.Proofs.YtehlbomkldnalaaGreat

/- add: an item is put on the shelf, or its area counted as waste. -/
namespace Go.Proofs.YtehlbomkldnalaaGreat
open Go Go.RowKit
theorem ItV.withId {w : World} {x : Sheet} {A : Option Addr} {c : Nat} (h : ItV w x (x.valAt A c)) (k : Int) : ItV w { x with id := k } (.agg #[k, x.root, x.grade, x.colour, x.lot, x.made, x.width, x.length, .slice A x.faults.length c]) := by
 obtain ⟨A', c', h1, h2, h3⟩ := h
 have h4 : Sheet.valAt x A c = Sheet.valAt x A' c' := h1
 unfold Sheet.valAt at h4
 injection h4 with h4
 have h5 := congrArg (fun (a : Array Value) => a[8]?) h4
 simp at h5
 obtain ⟨rfl, rfl⟩ := h5
 exact ⟨A, c, rfl, h2, h3⟩
theorem Chg.of_new {w w1 w2 : World} {S : Nat → Prop} {b : Nat} (h : Chg S w w1) (hc : Chg (fun k => k = b) w1 w2) (hb : w.heap.size ≤ b) : Chg S w w2 :=
 h.trans' hc fun i hi hT => by subst hT; omega
set_option maxRecDepth 100000 in
set_option maxHeartbeats 4000000 in
theorem add_any (p : Fp) (s : SS) (x : Sheet) (A : Option Addr) (c : Nat) (up minW : Int) (w : World) (hX : StA w p s) (hV : ItV w x (x.valAt A c)) (har : 0 ≤ x.width * x.length ∧ x.width * x.length ≤ 900000) (hwb : 0 ≤ s.waste ∧ s.waste ≤ 2000000000000000) (hlb : 0 ≤ s.last ∧ s.last ≤ 2000000000000000) :
  Calls Tryz.prog 89 #[.pointer (some ⟨p.g, 0, none⟩), x.valAt A c, up, minW] w fun e w' => e = .returned (.tuple #[]) ∧ StA w' p (addF s x up minW) ∧ Chg p.has w w' := by
 have HAR := hide har
 have HWB := hide hwb
 have HLB := hide hlb
 clear har hwb hlb
 have hx := Blk.new w 93 ↑(x, A, c)
 have hal := (Below.refl w.heap.size w).alloc (Nat.le_refl _) (.cells ↑(x, A, c) 93)
 have hC : Chg p.has w (w.alloc (.cells ↑(x, A, c) 93)) := .of_below hal
 replace hX := hX.below hal
 replace hV := hV.below hal
 clear hal
 have eV : x.valAt A c = .agg ↑(x, A, c) := rfl
 rw [eV]
 clear eV
 have HV := hide hV
 clear hV
 go_enter Tryz.func89, Tryz.ntmps89
 go_upto_region 1 with fail
 generalize w.alloc (.cells ↑(x, A, c) 93) = W at *
 obtain ⟨bx, hbx⟩ := nm_ w.heap.size
 have HBX : Hid (w.heap.size ≤ bx) := by show _ ≤ _; omega
 rw [hbx] at hx ⊢
 clear hbx
 have c1 := hX.blk.cell_ 1 (v := s.rules.minLength) rfl
 obtain ⟨x0, x1, x2, x3, x4, x5, x6, x7, x8⟩ := hx.all9
 by_cases h1 : x.width < minW
 ·have d1 : decide (x.width < minW) = true := by simpa using h1
  have d2 : True := trivial
  have h2 : True := trivial
  have HE : Hid (addF s x up minW = { s with waste := s.waste + x.width * x.length }) := by show _ = _; unfold addF; rw [if_pos (.inl h1)]
  clear h1 h2
  go_wp2_with fail
  refine wp_region_q (by kernel_rfl) (by kernel_rfl) ?_
  dsimp only
  obtain ⟨y_x0, y_x1, y_x2, y_x3, y_x4, y_x5, y_x6, y_x7, y_x8⟩ := Since.c9 x0 x1 x2 x3 x4 x5 x6 x7 x8
  have y_c1 := Since.cell c1
  clear x0 x1 x2 x3 x4 x5 x6 x7 x8
  repeat (go_big_quiet_step ((fail)))
  refine wpQuiet_nil ?_
  rintro W ⟨⟨_, hb⟩, rfl⟩
  try dsimp only at hb ⊢
  replace c1 := sat y_c1 hb
  clear y_x0 y_x1 y_x2 y_x3 y_x4 y_x5 y_x6 y_x7 y_x8 y_c1
  replace hx := hx.below hb hx.lt
  replace hX := StA.below hX hb
  replace hC := Chg.trans hC (Chg.of_below hb)
  replace HV := hide (ItV.below (Hid.out HV) hb)
  clear hb
  obtain ⟨x0, x1, x2, x3, x4, x5, x6, x7, x8⟩ := hx.all9
  clear x0 x1 x2 x3 x4 x5 x6 x7 x8
  clear d1 d2 c1
  have c12 := hX.blk.cell_ 12 (v := s.waste) rfl
  have e1 := IntWalk.i64_in (x.width * x.length) (by have := HAR.out; omega)
  have e2 := IntWalk.i64_in (s.waste + x.width * x.length) (by have := HAR.out; have := HWB.out; omega)
  go_wp2_with fail
  obtain ⟨x0, x1, x2, x3, x4, x5, x6, x7, x8⟩ := hx.all9
  refine wp_region_qt 12 (by kernel_rfl) (by kernel_rfl) ?_
  simp only [List.take_succ_cons, List.take_zero, List.drop_succ_cons, List.drop_zero]
  obtain ⟨y_x0, y_x1, y_x2, y_x3, y_x4, y_x5, y_x6, y_x7, y_x8⟩ := Since.c9 x0 x1 x2 x3 x4 x5 x6 x7 x8
  have y_c12 := Since.cell c12
  clear x0 x1 x2 x3 x4 x5 x6 x7 x8
  repeat (go_big_quiet_step ((fail)))
  refine wpQuiet_nil ?_
  rintro W ⟨⟨_, hb⟩, rfl⟩
  try dsimp only at hb ⊢
  replace c12 := sat y_c12 hb
  clear y_x0 y_x1 y_x2 y_x3 y_x4 y_x5 y_x6 y_x7 y_x8 y_c12
  replace hx := hx.below hb hx.lt
  replace hX := StA.below hX hb
  replace hC := Chg.trans hC (Chg.of_below hb)
  replace HV := hide (ItV.below (Hid.out HV) hb)
  clear hb
  obtain ⟨x0, x1, x2, x3, x4, x5, x6, x7, x8⟩ := hx.all9
  clear x0 x1 x2 x3 x4 x5 x6 x7 x8
  go_wp2_with (refine wpList_store_at rfl 3 _ _ rfl (.int .i64 (s.waste + x.width * x.length)) hX.blk rfl rfl (by kernel_rfl) rfl (by simp [storeCells_]) rfl ?_; intro W3 hB3 hc3)
  have hX3 := hX.upd_blk (s' := { s with waste := s.waste + x.width * x.length }) hc3 hB3 (by simp [storeCells_]) rfl rfl rfl rfl
  have hC3 : Chg p.has w W3 := hC.trans (hc3.mono fun k _ hk => .inl hk)
  exact bodyPost_ret (v := .tuple #[]) (results_none rfl _ _ _) rfl ⟨rfl, by rw [HE.out]; exact hX3, hC3⟩
 ·have d1 : decide (x.width < minW) = false := by simpa using h1
  by_cases h2 : x.length < s.rules.minLength
  ·have d2 : decide (x.length < s.rules.minLength) = true := by simpa using h2
   have HE : Hid (addF s x up minW = { s with waste := s.waste + x.width * x.length }) := by show _ = _; unfold addF; rw [if_pos (.inr h2)]
   clear h1 h2
   go_wp2_with fail
   refine wp_region_q (by kernel_rfl) (by kernel_rfl) ?_
   dsimp only
   obtain ⟨y_x0, y_x1, y_x2, y_x3, y_x4, y_x5, y_x6, y_x7, y_x8⟩ := Since.c9 x0 x1 x2 x3 x4 x5 x6 x7 x8
   have y_c1 := Since.cell c1
   clear x0 x1 x2 x3 x4 x5 x6 x7 x8
   repeat (go_big_quiet_step ((fail)))
   refine wpQuiet_nil ?_
   rintro W ⟨⟨_, hb⟩, rfl⟩
   try dsimp only at hb ⊢
   replace c1 := sat y_c1 hb
   clear y_x0 y_x1 y_x2 y_x3 y_x4 y_x5 y_x6 y_x7 y_x8 y_c1
   replace hx := hx.below hb hx.lt
   replace hX := StA.below hX hb
   replace hC := Chg.trans hC (Chg.of_below hb)
   replace HV := hide (ItV.below (Hid.out HV) hb)
   clear hb
   obtain ⟨x0, x1, x2, x3, x4, x5, x6, x7, x8⟩ := hx.all9
   clear x0 x1 x2 x3 x4 x5 x6 x7 x8
   clear d1 d2 c1
   have c12 := hX.blk.cell_ 12 (v := s.waste) rfl
   have e1 := IntWalk.i64_in (x.width * x.length) (by have := HAR.out; omega)
   have e2 := IntWalk.i64_in (s.waste + x.width * x.length) (by have := HAR.out; have := HWB.out; omega)
   go_wp2_with fail
   obtain ⟨x0, x1, x2, x3, x4, x5, x6, x7, x8⟩ := hx.all9
   refine wp_region_qt 12 (by kernel_rfl) (by kernel_rfl) ?_
   simp only [List.take_succ_cons, List.take_zero, List.drop_succ_cons, List.drop_zero]
   obtain ⟨y_x0, y_x1, y_x2, y_x3, y_x4, y_x5, y_x6, y_x7, y_x8⟩ := Since.c9 x0 x1 x2 x3 x4 x5 x6 x7 x8
   have y_c12 := Since.cell c12
   clear x0 x1 x2 x3 x4 x5 x6 x7 x8
   repeat (go_big_quiet_step ((fail)))
   refine wpQuiet_nil ?_
   rintro W ⟨⟨_, hb⟩, rfl⟩
   try dsimp only at hb ⊢
   replace c12 := sat y_c12 hb
   clear y_x0 y_x1 y_x2 y_x3 y_x4 y_x5 y_x6 y_x7 y_x8 y_c12
   replace hx := hx.below hb hx.lt
   replace hX := StA.below hX hb
   replace hC := Chg.trans hC (Chg.of_below hb)
   replace HV := hide (ItV.below (Hid.out HV) hb)
   clear hb
   obtain ⟨x0, x1, x2, x3, x4, x5, x6, x7, x8⟩ := hx.all9
   clear x0 x1 x2 x3 x4 x5 x6 x7 x8
   go_wp2_with (refine wpList_store_at rfl 3 _ _ rfl (.int .i64 (s.waste + x.width * x.length)) hX.blk rfl rfl (by kernel_rfl) rfl (by simp [storeCells_]) rfl ?_; intro W3 hB3 hc3)
   have hX3 := hX.upd_blk (s' := { s with waste := s.waste + x.width * x.length }) hc3 hB3 (by simp [storeCells_]) rfl rfl rfl rfl
   have hC3 : Chg p.has w W3 := hC.trans (hc3.mono fun k _ hk => .inl hk)
   exact bodyPost_ret (v := .tuple #[]) (results_none rfl _ _ _) rfl ⟨rfl, by rw [HE.out]; exact hX3, hC3⟩
  ·have d2 : decide (x.length < s.rules.minLength) = false := by simpa using h2
   have HE : Hid (addF s x up minW = { s with last := s.last + 1, parent := put s.parent (s.last + 1) up, items := put s.items (s.last + 1) { x with id := s.last + 1 } }) := by show _ = _; unfold addF; rw [if_neg (by omega)]
   clear h1 h2
   go_wp2_with fail
   refine wp_region_q (by kernel_rfl) (by kernel_rfl) ?_
   dsimp only
   obtain ⟨y_x0, y_x1, y_x2, y_x3, y_x4, y_x5, y_x6, y_x7, y_x8⟩ := Since.c9 x0 x1 x2 x3 x4 x5 x6 x7 x8
   have y_c1 := Since.cell c1
   clear x0 x1 x2 x3 x4 x5 x6 x7 x8
   repeat (go_big_quiet_step ((fail)))
   refine wpQuiet_nil ?_
   rintro W ⟨⟨_, hb⟩, rfl⟩
   try dsimp only at hb ⊢
   replace c1 := sat y_c1 hb
   clear y_x0 y_x1 y_x2 y_x3 y_x4 y_x5 y_x6 y_x7 y_x8 y_c1
   replace hx := hx.below hb hx.lt
   replace hX := StA.below hX hb
   replace hC := Chg.trans hC (Chg.of_below hb)
   replace HV := hide (ItV.below (Hid.out HV) hb)
   clear hb
   obtain ⟨x0, x1, x2, x3, x4, x5, x6, x7, x8⟩ := hx.all9
   clear x0 x1 x2 x3 x4 x5 x6 x7 x8
   clear d1 d2 c1
   have c10 := hX.blk.cell_ 10 (v := s.last) rfl
   have e1 := IntWalk.i64_in (s.last + 1) (by have := HLB.out; omega)
   go_upto_region 4 with (refine wpList_store_at rfl 3 _ _ rfl (.int .i64 (s.last + 1)) hX.blk rfl rfl (by kernel_rfl) rfl (by simp [storeCells_]) rfl ?_; intro W3 hB3 hc3)
   have hX3 := hX.upd_blk (s' := { s with last := s.last + 1 }) hc3 hB3 (by simp [storeCells_]) rfl rfl rfl rfl
   have hx3 := hx.chg1 hc3 (hx.ne_ hX.blk (by decide))
   have hC3 : Chg p.has w W3 := hC.trans (hc3.mono fun k _ hk => .inl hk)
   have HV3 : Hid (ItV W3 x (x.valAt A c)) := HV.out.chg hc3 fun k hk => by subst hk; exact NoSpan.blk hX.blk (by decide)
   clear hX hx hC HV hB3 hc3 c10 e1
   obtain ⟨W, rfl⟩ := is_ W3
   try dsimp only [Act.put]
   have c10 := hX3.blk.cell_ 10 (v := .int .i64 (s.last + 1)) rfl
   go_upto_region 5 with (refine wpList_store_at rfl 3 _ _ rfl (.int .i64 (s.last + 1)) hx3 rfl rfl (by kernel_rfl) rfl (by simp) rfl ?_; intro W4 hB4 hc4)
   have hX4 := hX3.chg1 hc4 hx3 (by decide) (by decide)
   have hC4 : Chg p.has w W4 := hC3.of_new hc4 HBX.out
   have HV4 : Hid (ItV W4 x (x.valAt A c)) := HV3.out.chg hc4 fun k hk => by subst hk; exact NoSpan.blk hx3 (by decide)
   clear hX3 hx3 hC3 HV3 hc4 c10
   have hx4 : Blk W4 bx 93 #[.int .i64 (s.last + 1), x.root, x.grade, x.colour, x.lot, x.made, x.width, x.length, .slice A x.faults.length c] := hB4
   clear hB4
   obtain ⟨W, rfl⟩ := is_ W4
   try dsimp only [Act.put]
   have c8 := hX4.blk.cell_ 8 (v := .map (some p.rq)) rfl
   obtain ⟨x0, x1, x2, x3, x4, x5, x6, x7, x8⟩ := hx4.all9
   go_wp2_with fail
   refine wp_region_qt 7 (by kernel_rfl) (by kernel_rfl) ?_
   simp only [List.take_succ_cons, List.take_zero, List.drop_succ_cons, List.drop_zero]
   obtain ⟨y_x0, y_x1, y_x2, y_x3, y_x4, y_x5, y_x6, y_x7, y_x8⟩ := Since.c9 x0 x1 x2 x3 x4 x5 x6 x7 x8
   have y_c8 := Since.cell c8
   clear x0 x1 x2 x3 x4 x5 x6 x7 x8
   repeat (go_big_quiet_step ((fail)))
   refine wpQuiet_nil ?_
   rintro W ⟨⟨_, hb⟩, rfl⟩
   try dsimp only at hb ⊢
   replace c8 := sat y_c8 hb
   clear y_x0 y_x1 y_x2 y_x3 y_x4 y_x5 y_x6 y_x7 y_x8 y_c8
   replace hx4 := hx4.below hb hx4.lt
   replace hX4 := StA.below hX4 hb
   replace hC4 := Chg.trans hC4 (Chg.of_below hb)
   replace HV4 := hide (ItV.below (Hid.out HV4) hb)
   clear hb
   obtain ⟨x0, x1, x2, x3, x4, x5, x6, x7, x8⟩ := hx4.all9
   clear x0 x1 x2 x3 x4 x5 x6 x7 x8
   clear c8
   go_wp2_with (refine wpList_put_im rfl rfl _ _ _ _ rfl _ _ Tryz.underlying64 Tryz.underlying3 p.rq rfl hX4.parent (s.last + 1) (.int .i64 up) rfl rfl ?_; intro W6 hM6 hg6)
   have hX6 := hX4.upd_parent (P' := put s.parent (s.last + 1) up) hg6 (by rw [← put_kv]; exact hM6)
   have hx6 := hx4.chg (S := fun k => k = p.rq) (.of_grown hg6 rfl) (fun he => hX4.parent.blk_ne hx4 he.symm)
   have hC6 : Chg p.has w W6 := hC4.trans (.of_grown hg6 (by simp [Fp.has]))
   have HV6 : Hid (ItV W6 x (x.valAt A c)) := HV4.out.chg (S := fun k => k = p.rq) (.of_grown hg6 rfl) fun k hk => by subst hk; exact NoSpan.map_ hX4.parent
   clear hX4 hx4 hC4 HV4 hM6 hg6
   obtain ⟨W, rfl⟩ := is_ W6
   have c6 := hX6.blk.cell_ 6 (v := .map (some p.ri)) rfl
   obtain ⟨x0, x1, x2, x3, x4, x5, x6, x7, x8⟩ := hx6.all9
   go_wp2_with fail
   refine wp_region_qt 7 (by kernel_rfl) (by kernel_rfl) ?_
   simp only [List.take_succ_cons, List.take_zero, List.drop_succ_cons, List.drop_zero]
   obtain ⟨y_x0, y_x1, y_x2, y_x3, y_x4, y_x5, y_x6, y_x7, y_x8⟩ := Since.c9 x0 x1 x2 x3 x4 x5 x6 x7 x8
   have y_c6 := Since.cell c6
   clear x0 x1 x2 x3 x4 x5 x6 x7 x8
   repeat (go_big_quiet_step ((fail)))
   refine wpQuiet_nil ?_
   rintro W ⟨⟨_, hb⟩, rfl⟩
   try dsimp only at hb ⊢
   replace c6 := sat y_c6 hb
   clear y_x0 y_x1 y_x2 y_x3 y_x4 y_x5 y_x6 y_x7 y_x8 y_c6
   replace hx6 := hx6.below hb hx6.lt
   replace hX6 := StA.below hX6 hb
   replace hC6 := Chg.trans hC6 (Chg.of_below hb)
   replace HV6 := hide (ItV.below (Hid.out HV6) hb)
   clear hb
   obtain ⟨x0, x1, x2, x3, x4, x5, x6, x7, x8⟩ := hx6.all9
   clear x0 x1 x2 x3 x4 x5 x6 x7 x8
   clear c6
   obtain ⟨MI, hM, hZ⟩ := hX6.items
   have hIt : ItV W { x with id := s.last + 1 } (.agg #[.int .i64 (s.last + 1), x.root, x.grade, x.colour, x.lot, x.made, x.width, x.length, .slice A x.faults.length c]) := HV6.out.withId _
   go_wp2_with (refine wpList_put_im rfl rfl _ _ _ _ rfl _ _ Tryz.underlying62 Tryz.underlying3 p.ri rfl hM (s.last + 1) (.agg #[.int .i64 (s.last + 1), x.root, x.grade, x.colour, x.lot, x.made, x.width, x.length, .slice A x.faults.length c]) rfl rfl ?_; intro W9 hM9 hg9)
   have hX9 := hX6.put_item (x := { x with id := s.last + 1 }) hg9 hZ hM9 hIt
   have hC9 : Chg p.has w W9 := hC6.trans (.of_grown hg9 (by simp [Fp.has]))
   exact bodyPost_end (v := .tuple #[]) (results_none rfl _ _ _) rfl ⟨rfl, by rw [HE.out]; exact hX9, hC9⟩
end Go.Proofs.YtehlbomkldnalaaGreat

/- How much a store may grow: plain. -/
namespace Go.Proofs.YtehlbomkldnalaaGreat
structure Room (s : SS) (r : Nat) : Prop where
 it : s.items.length + 4 * r ≤ 1000000
 pc : s.pieces.length + 4 * r ≤ 1000000
 pa : s.parent.length + 4 * r ≤ 1000000
 lo : s.lots.length + 4 * r ≤ 1000000
 la : s.last + 4 * (r : Int) ≤ 1000000000000
 re : s.received + 1000000 * (r : Int) ≤ 1000000000000000
section
variable {s s' t : SS} {r k : Nat}
theorem Room.few (h : Room s r) : Few s := ⟨by have := h.it; omega, by have := h.pc; omega, by have := h.pa; omega, by have := h.lo; omega, by have := h.la; omega, by have := h.re; omega⟩
theorem Room.less (h : Room s r) (hr : k ≤ r) : Room s k := ⟨by have := h.it; omega, by have := h.pc; omega, by have := h.pa; omega, by have := h.lo; omega, by have := h.la; omega, by have := h.re; omega⟩
/-- what a store has more than another one, at the most -/
structure More (s t : SS) (a b c : Nat) (d : Int) : Prop where
 it : t.items.length ≤ s.items.length + a
 pc : t.pieces.length ≤ s.pieces.length + b
 pa : t.parent.length ≤ s.parent.length + c
 lo : t.lots.length ≤ s.lots.length
 la : t.last ≤ s.last + d
 re : t.received ≤ s.received
theorem More.trans {u : SS} {a b c a' b' c' : Nat} {d d' : Int} (h : More s t a b c d) (g : More t u a' b' c' d') : More s u (a + a') (b + b') (c + c') (d + d') :=
 ⟨by have := h.it; have := g.it; omega, by have := h.pc; have := g.pc; omega, by have := h.pa; have := g.pa; omega, Nat.le_trans g.lo h.lo, by have := h.la; have := g.la; omega, Int.le_trans g.re h.re⟩
theorem more_add (s : SS) (x : Sheet) (u m : Int) : More s (addF s x u m) 1 0 1 1 := by
 unfold addF
 split
 ·exact ⟨by show s.items.length ≤ _; omega, Nat.le_refl _, by show s.parent.length ≤ _; omega, Nat.le_refl _, by show s.last ≤ _; omega, Int.le_refl _⟩
 ·exact ⟨len_put _ _ _, Nat.le_refl _, len_put _ _ _, Nat.le_refl _, Int.le_refl _, Int.le_refl _⟩
theorem more_rest (s : SS) (x : Sheet) : More s (restF s x) 1 0 0 0 := by
 unfold restF
 split
 ·exact ⟨len_put _ _ _, Nat.le_refl _, Nat.le_refl _, Nat.le_refl _, by show s.last ≤ _; omega, Int.le_refl _⟩
 ·exact ⟨by show s.items.length ≤ _; omega, Nat.le_refl _, Nat.le_refl _, Nat.le_refl _, by show s.last ≤ _; omega, Int.le_refl _⟩
theorem more_cut (s : SS) (n : Need) (lot : Int) (b : Sheet) (q : Int) : More s (cutD (cutC s n b q) n lot b) 3 1 3 3 := by
 have h0 : More s { s with items := del s.items b.id } 0 0 0 0 := ⟨len_del _ _, Nat.le_refl _, Nat.le_refl _, Nat.le_refl _, by show s.last ≤ _; omega, Int.le_refl _⟩
 have h1 : More _ (cutA s b q) 1 0 1 1 := more_add _ _ _ _
 have h2 : More (cutA s b q) (cutB s n b q) 1 0 1 1 := more_add _ _ _ _
 have h3 : More (cutB s n b q) (cutC s n b q) 1 0 0 0 := more_rest _ _
 have h4 : More (cutC s n b q) (cutD (cutC s n b q) n lot b) 0 1 1 1 := ⟨Nat.le_refl _, len_put _ _ _, len_put _ _ _, Nat.le_refl _, Int.le_refl _, Int.le_refl _⟩
 exact (((h0.trans h1).trans h2).trans h3).trans h4
theorem Room.more {a b c : Nat} {d : Int} (h : Room s (r + 1)) (m : More s t a b c d) (ha : a ≤ 4) (hb : b ≤ 4) (hc : c ≤ 4) (hd : d ≤ 4) : Room t r :=
 ⟨by have := h.it; have := m.it; omega, by have := h.pc; have := m.pc; omega, by have := h.pa; have := m.pa; omega, by have := h.lo; have := m.lo; omega, by have := h.la; have := m.la; omega, by have := h.re; have := m.re; omega⟩
theorem room_one {n : Need} {lot day : Int} {q : Piece} (h : Room s (r + 1)) (hc : cutOneF s n lot day = some (s', q)) : Room s' r := by
 unfold cutOneF at hc
 cases hb : chosen s n lot day with
 | none => rw [hb] at hc; cases hc
 | some b =>
  rw [hb] at hc
  injection hc with hc
  injection hc with h1 h2
  rw [← h1]
  exact h.more (more_cut _ _ _ _ _) (by omega) (by omega) (by omega) (by omega)
theorem room_all {n : Need} {lot day : Int} : ∀ {k r : Nat} {s s' : SS} {l : List Piece}, Room s (r + k) → cutAllF n lot day k s = some (s', l) → Room s' r
 | 0, r, s, s', l, h, hc => by
  injection hc with hc
  injection hc with h1 h2
  rw [← h1]; exact h
 | k + 1, r, s, s', l, h, hc => by
  unfold cutAllF at hc
  cases h1 : cutAllF n lot day k s with
  | none => rw [h1] at hc; cases hc
  | some q =>
   obtain ⟨s1, l1⟩ := q
   rw [h1] at hc
   dsimp only at hc
   have i1 := room_all (k := k) (r := r + 1) (by rw [show r + 1 + k = r + (k + 1) by omega]; exact h) h1
   cases h2 : cutOneF s1 n lot day with
   | none => rw [h2] at hc; cases hc
   | some q2 =>
    obtain ⟨s2, p2⟩ := q2
    rw [h2] at hc
    injection hc with hc
    injection hc with h3 h4
    rw [← h3]
    exact room_one i1 h2
theorem all_no {n : Need} {lot day : Int} {i k : Nat} (h : cutAllF n lot day i s = none) (hk : i ≤ k) : cutAllF n lot day k s = none := by
 obtain ⟨d, rfl⟩ := Nat.le.dest hk
 induction d with
 | zero => exact h
 | succ d ih => show (match cutAllF n lot day (i + d) s with | none => none | some (s', l) => match cutOneF s' n lot day with | none => none | some (s2, p) => some (s2, l ++ [p])) = none; rw [ih (by omega)]
theorem all_stop {n : Need} {lot day : Int} {i : Nat} {l : List Piece} (h : cutAllF n lot day i s = some (s', l)) (hc : cutOneF s' n lot day = none) : cutAllF n lot day (i + 1) s = none := by
 unfold cutAllF; rw [h]; dsimp only; rw [hc]
theorem all_next {n : Need} {lot day : Int} {i : Nat} {l : List Piece} {q : Piece} (h : cutAllF n lot day i s = some (s', l)) (hc : cutOneF s' n lot day = some (t, q)) : cutAllF n lot day (i + 1) s = some (t, l ++ [q]) := by
 unfold cutAllF; rw [h]; dsimp only; rw [hc]
end
end Go.Proofs.YtehlbomkldnalaaGreat

/- Balance of a store in memory; two balances compared. -/
namespace Go.Proofs.YtehlbomkldnalaaGreat
open Go Go.RowKit
def pA (x : Piece) : Int := if x.use = 0 then x.width * x.length else 0
def pU (x : Piece) : Int := if x.use = 0 then 0 else x.width * x.length
def stockF (s : SS) : Int := sumM areaS s.items
def freeF (s : SS) : Int := sumM pA s.pieces
def usedF (s : SS) : Int := sumM pU s.pieces
theorem zip_sum {w : World} : ∀ {L : List (Int × Sheet)} {M : List (Int × Value)}, Zip (ItV w) L M → sumV wlV M = sumM areaS L
 | [], [], _ => rfl
 | [], q :: M, h => by have := h.1; simp at this
 | p :: L, [], h => by have := h.1; simp at this
 | p :: L, q :: M, h => by
  obtain ⟨⟨h1, A, c, h2, _⟩, h3⟩ := h.cons
  have ih := zip_sum h3
  rw [sumM_cons, ← ih]
  show (wlV q.2 + (M.map fun p => wlV p.2).sum) = _
  rw [h2]; rfl
theorem kv_sum (f : Value → Int) (g : Piece → Int) (h : ∀ x : Piece, f x.val = g x) : ∀ L : List (Int × Piece), sumV f (L.map (kv Piece.val)) = sumM g L
 | [] => rfl
 | p :: L => by
  have ih := kv_sum f g h L
  rw [sumM_cons, ← ih, ← h]; rfl
theorem balance_any (p : Fp) (s : SS) (w : World) (hX : StA w p s) (hI : Inv s) (hF : Few s) :
  Calls Tryz.prog 14 #[.pointer (some ⟨p.g, 0, none⟩)] w fun e w' => e = .returned (.agg #[s.received, .int .i64 (stockF s), .int .i64 (freeF s), .int .i64 (usedF s), s.waste]) ∧ Below w.heap.size w w' := by
 obtain ⟨MI, hM, hZ⟩ := hX.items
 have e1 := zip_sum hZ
 have e2 : sumV plV (s.pieces.map (kv Piece.val)) = freeF s := kv_sum _ _ (fun x => rfl) _
 have e3 : sumV puV (s.pieces.map (kv Piece.val)) = usedF s := kv_sum _ _ (fun x => rfl) _
 refine (bal_any p.g w _ hX.blk p.ri p.rp s.received s.waste rfl rfl rfl rfl rfl MI _ hM hX.pieces (fun q hq => ?_) (by rw [hZ.1]; exact hF.it) (fun q hq => ?_) (by rw [List.length_map]; exact hF.pc)).mono fun e w' ⟨he, hb⟩ => ⟨by rw [he, e1, e2, e3]; rfl, hb⟩
 ·obtain ⟨i, hi⟩ := List.getElem?_of_mem hq
  have hl : i < s.items.length := by rw [← hZ.1]; exact (List.getElem?_eq_some_iff.1 hi).1
  obtain ⟨h1, A, c, h2, _⟩ := hZ.2 i s.items[i] q (List.getElem?_eq_getElem hl) hi
  have ho := (hI.it _ _ (look_mem hI.ki (k := s.items[i].1) (v := s.items[i].2) (List.getElem_mem hl))).2
  have hw := ho.w
  have hl2 := ho.l
  exact ⟨_, _, _, _, _, _, _, _, _, _, _, h2, by omega, hw.2, by omega, hl2.2⟩
 ·obtain ⟨x, hx, rfl⟩ := List.mem_map.1 hq
  have ho := (hI.pc _ _ (look_mem hI.kp hx)).2
  have hw := ho.w
  have hl2 := ho.l
  exact ⟨_, _, _, _, _, _, _, _, rfl, by omega, hw.2, by omega, hl2.2⟩
theorem eql_bal (a b c d e : Int) (w : World) : (binOp .eql 60 (.agg #[a, b, c, d, e]) (.agg #[a, b, c, d, e])).run Tryz.prog w = .ok (.bool true) w := by
 have he := eq_bal a b c d e a b c d e w
 simp [binOp, Op.equal, Op.maxDepth, he]
section
variable {s : SS} {x : Piece}
theorem sum_split : ∀ L : List (Int × Piece), sumM areaP L = sumM pA L + sumM pU L
 | [] => rfl
 | q :: L => by
  have ih := sum_split L
  rw [sumM_cons, sumM_cons, sumM_cons, ih]
  have : areaP q.2 = pA q.2 + pU q.2 := by unfold areaP pA pU; split <;> omega
  omega
theorem areas_bd (h : Inv s) (f : Few s) : 0 ≤ stockF s ∧ 0 ≤ freeF s ∧ 0 ≤ usedF s ∧ 0 ≤ s.waste ∧ stockF s + freeF s + usedF s + s.waste = s.received ∧ s.received ≤ 1000000000000000 := by
 have h1 := h.ba
 have h2 : 0 ≤ sumM areaS s.items := sum_nonneg fun q hq => (item_area h (look_mem h.ki hq)).1
 have h3 : 0 ≤ sumM pA s.pieces := sum_nonneg fun q hq => by
  have := (piece_area h (look_mem h.kp hq)).1
  unfold pA; split <;> omega
 have h4 : 0 ≤ sumM pU s.pieces := sum_nonneg fun q hq => by
  have := (piece_area h (look_mem h.kp hq)).1
  unfold pU; split <;> omega
 have h5 := sum_split s.pieces
 have h6 := f.re
 have h7 := h.wa
 unfold stockF freeF usedF
 omega
end
end Go.Proofs.YtehlbomkldnalaaGreat
