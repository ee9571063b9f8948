/- Parts of the proofs of this seat: Items, StoreW, UseRet, NeedV, CutP, CutQ, Old, Part. Each part says what it proves; no condition beyond those stated there. -/
import Derived.Deep.DeepCutAuto
import Derived.Deep.CutBlock
import Derived.Test.YtpeokpnjnmgloaaM4
import Derived.Test.YtpeokpnjnmgloaaM6
import Derived.Test.YtpeokpnjnmgloaaM8
import Derived.Test.YtpeokpnjnmgloaaM11
import Derived.Test.YtpeokpnjnmgloaaM13

/- Items and Pieces. -/
namespace Go.Proofs.Ytpeokpnjnmgloaa
open Go Go.RowKit
theorem Zip.look_ {V : Type} {R : V → Value → Prop} {L : List (Int × V)} {M : List (Int × Value)} (h : Zip R L M) {k : Int} {x : V} (hx : look L k = some x) : ∃ v, look M k = some v ∧ R x v := by
  rcases h.look_some (k := k) with ⟨h1, _⟩ | ⟨x', v, h1, h2, h3⟩
  · rw [h1] at hx; cases hx
  · rw [h1] at hx
    injection hx with hx
    subst hx
    exact ⟨v, h2, h3⟩
theorem Zip.look_no {V : Type} {R : V → Value → Prop} {L : List (Int × V)} {M : List (Int × Value)} (h : Zip R L M) {k : Int} (hx : look L k = none) : look M k = none := by
  rcases h.look_some (k := k) with ⟨_, h2⟩ | ⟨x', v, h1, _⟩
  · exact h2
  · rw [h1] at hx; cases hx
/-- the bounds under which a store's maps are walked -/
structure Few (s : SS) : Prop where
  it : s.items.length ≤ 1000000
  pc : s.pieces.length ≤ 1000000
  pa : s.parent.length ≤ 1000000
  lo : s.lots.length ≤ 1000000
  la : s.last ≤ 1000000000000
  re : s.received ≤ 1000000000000000
section
variable {s : SS} {d : Int}
theorem item_keys (h : InvD d s) (f : Few s) {q : Int × Sheet} (hq : q ∈ s.items) : KeyIn q.1 := by
  have h1 := (h.it _ _ (look_mem h.ki hq))
  have h2 := h1.2.id
  have := f.la
  unfold KeyIn; omega
theorem piece_keys (h : InvD d s) (f : Few s) {q : Int × Piece} (hq : q ∈ s.pieces) : KeyIn q.1 := by
  have h1 := (h.pc _ _ (look_mem h.kp hq))
  have h2 := h1.2.id
  have := f.la
  unfold KeyIn; omega
theorem lot_keys (h : InvD d s) {q : Int × Kin} (hq : q ∈ s.lots) : KeyIn q.1 := by
  have h1 := (h.lo _ _ (look_mem h.kl hq)).1
  unfold KeyIn; omega
theorem Zip.mem_key {V : Type} {R : V → Value → Prop} {L : List (Int × V)} {M : List (Int × Value)} (h : Zip R L M) {q : Int × Value} (hq : q ∈ M) : ∃ p ∈ L, p.1 = q.1 := by
  have : q.1 ∈ M.map (·.1) := List.mem_map.2 ⟨q, hq, rfl⟩
  rw [h.keys] at this
  obtain ⟨p, hp, he⟩ := List.mem_map.1 this
  exact ⟨p, hp, he⟩
end
set_option maxRecDepth 100000 in
set_option maxHeartbeats 2000000 in
theorem items_any (p : Fp) (s : SS) (w : World) (hX : StA w p s) (hI : Inv s) (hF : Few s) : Calls Try.prog 25 #[.pointer (some ⟨p.g, 0, none⟩)] w (ItemsPost (itemsL s) w) := by
  have HI := hide hI
  have HF := hide hF
  have c5 := hX.blk.cell_ 5 (v := .bool true) rfl
  have c6 := hX.blk.cell_ 6 (v := .map (some p.ri)) rfl
  have hg := hX.blk.lt
  obtain ⟨MI, hM, hZ⟩ := hX.items
  have hr := hM.lt
  have HZ := hide hZ
  clear hI hF hZ
  go_enter Try.func25, Try.ntmps25
  go_wp2_with fail
  refine (none_any p.g _ c5).mono ?_
  rintro e W' ⟨rfl, rfl⟩
  clear c5
  go_wp2_with fail
  refine (keys_items (some p.ri) w).mono ?_
  rintro e w1 ⟨rfl, hw1⟩
  have hb1 : Below w.heap.size w w1 := by rw [hw1]; exact (Below.refl _ _).alloc (Nat.le_refl _) _
  have hm1 : w1.cell? ⟨w.heap.size, 0, none⟩ = some (.map (some p.ri)) := by rw [hw1]; exact (Blk.new w _ _).cell_ 0 rfl
  have hlt1 : w.heap.size < w1.heap.size := by rw [hw1]; simp
  clear hw1
  go_wp2_with fail
  refine (sorted_items w.heap.size p.ri MI w1 hm1 hlt1 (hM.below hb1 hr) (fun q hq => by obtain ⟨q', h1, h2⟩ := HZ.out.mem_key hq; rw [← h2]; exact item_keys HI.out HF.out h1) (by have := HF.out.it; rw [HZ.out.1]; exact this)).mono ?_
  rintro e w2 ⟨AK, cK, rfl, hK, hb2⟩
  have hks : Hid (keysS MI = keysS s.items) := HZ.out.keysS
  rw [hks.out] at hK
  rw [hks.out]
  replace hb2 := hb1.trans (hb2.mono (by omega))
  have hX2 := hX.below hb2
  have c6' := (hb2.cell (p := ⟨p.g, 6, none⟩) hg).trans c6
  clear hm1 hlt1 hb1 c6 hX hM HZ hks
  obtain ⟨ks, hks⟩ : ∃ ks, keysS s.items = ks := ⟨_, rfl⟩
  have HKS := hide hks
  have hkl : ks.length ≤ 1000000 := by rw [← hks, keys_len]; exact HF.out.it
  rw [hks] at hK
  rw [hks]
  clear hks
  obtain ⟨MI, hM, hZ⟩ := hX2.items
  have hr2 := hM.lt
  have hg2 := hX2.blk.lt
  have HZ := hide hZ
  clear hZ hX2
  go_upto_block 5 with fail
  go_loopw [3, 16] (fun v z wr => ∃ (i : Nat) (hs : List SH), z = .int .i64 i ∧ i ≤ ks.length ∧ hs.length = i ∧ Own wr w2.heap.size 65 9 SH.enc v hs ∧ ShsIn wr hs ((ks.take i).filterMap (look s.items)) ∧ Below w2.heap.size w2 wr) (fun _ z _ => ks.length - (intOf z).toNat)
  case atStart => exact ⟨0, [], rfl, Nat.zero_le _, rfl, Own.nil_, ShsIn.nil_ _, Below.refl _ _⟩
  case round =>
    obtain ⟨W, rfl⟩ : ∃ W : World, W = wr := ⟨_, rfl⟩
    obtain ⟨i, hs, rfl, hi, hhl, hO, hS, hB⟩ := hrel
    have hBs := hB.size
    by_cases hlt : i < ks.length
    · obtain ⟨k, bK, oK, hk, hA, hbK, d0⟩ := ints_at' (hK.below hB) hlt
      have hii : (i : Int) < (ks.length : Int) := by omega
      have ei : IntKind.i64.wrap ((i : Int) + 1) = ((i + 1 : Nat) : Int) := by rw [IntWalk.i64_in _ (by omega)]; push_cast; rfl
      obtain ⟨x, hx⟩ := keys_at (M := s.items) HI.out.ki (i := i) (k := k) (by rw [HKS.out]; exact hk)
      obtain ⟨v, hv, hV⟩ := HZ.out.look_ hx
      obtain ⟨A, c, rfl, hSV⟩ := hV.sh
      have hV' := hSV.below hB
      have hfl : x.faults.length ≤ 100000 := by have := (HI.out.it _ _ hx).2.n; omega
      have lk := (hM.below hB hr2).look_yes (P := Try.prog) (t := 54) Try.underlying54 Try.underlying3 hv false
      have HT : Hid ((ks.take (i + 1)).filterMap (look s.items) = (ks.take i).filterMap (look s.items) ++ [x]) := by
        show _ = _
        rw [← HKS.out]; exact vals_take (by rw [HKS.out]; exact hk) hx
      have c6 := (hB.cell (p := ⟨p.g, 6, none⟩) hg2).trans c6'
      have HX := hide hx
      subst hA
      clear hk hv hx hV hSV
      unfold Sheet.valAt at lk
      have hb := Blk.new W 65 #[.int .i64 x.id, .int .i64 x.root, .int .i64 x.grade, .int .i64 x.colour, .int .i64 x.lot, .int .i64 x.made, .int .i64 x.width, .int .i64 x.length, .slice A x.faults.length c]
      have hal := (Below.refl W.heap.size W).alloc (Nat.le_refl _) (.cells #[.int .i64 x.id, .int .i64 x.root, .int .i64 x.grade, .int .i64 x.colour, .int .i64 x.lot, .int .i64 x.made, .int .i64 x.width, .int .i64 x.length, .slice A x.faults.length c] 65)
      have HON := hide hO.lts
      replace hV' := hV'.below hal
      replace hO := hO.below hal
      replace hS := hS.below hal
      replace hB := hB.trans (hal.mono hB.size)
      go_upto_region 8 with fail
      clear d0 lk c6 hal
      generalize hWn : W.heap.size = bx at *
      generalize W.alloc (.cells #[.int .i64 x.id, .int .i64 x.root, .int .i64 x.grade, .int .i64 x.colour, .int .i64 x.lot, .int .i64 x.made, .int .i64 x.width, .int .i64 x.length, .slice A x.faults.length c] 65) = W3 at *
      clear hWn
      have q8 := hb.cell_ 8 (v := .slice A x.faults.length c) rfl
      go_wp2_with fail
      refine (cloneSpan_any A c x.faults W3 hfl hV'.slc).mono ?_
      rintro e W4 ⟨A', c', rfl, hb4, hS4, hO4⟩
      have hV4 := ShV.made (x := x) hS4 hO4
      replace hb := hb.below hb4 hb.lt
      replace hO := hO.below hb4
      replace hS := hS.below hb4
      replace hB := hB.trans (hb4.mono hB.size)
      clear q8 hV' hb4 hS4 hO4
      go_upto_region 9 with (refine wpList_store_at rfl 34 _ _ rfl (.slice A' x.faults.length c') hb rfl rfl (by kernel_rfl) rfl (by simp) rfl ?_; intro W5 hb5 hc5)
      have hb5' : Blk W5 bx 65 (SH.of x A' c').enc.toArray := hb5
      have hne5 : ∀ k, k = bx → NoSpan W4 k := fun k hk => by subst hk; exact NoSpan.blk hb (by decide)
      replace hV4 := hV4.chg hc5 hne5
      replace hS := hS.chg hc5 hne5
      replace hO := hO.chgN hc5 fun k hk he => by have := HON.out k hk; omega
      replace hB := hB.trans (hc5.below1 hB.size (by omega))
      clear hb hb5 hc5 hne5
      try dsimp only [Act.put]
      have q0 := hb5'.cell_ 0 (v := .int .i64 x.id) rfl
      have q1 := hb5'.cell_ 1 (v := .int .i64 x.root) rfl
      have q2 := hb5'.cell_ 2 (v := .int .i64 x.grade) rfl
      have q3 := hb5'.cell_ 3 (v := .int .i64 x.colour) rfl
      have q4 := hb5'.cell_ 4 (v := .int .i64 x.lot) rfl
      have q5 := hb5'.cell_ 5 (v := .int .i64 x.made) rfl
      have q6 := hb5'.cell_ 6 (v := .int .i64 x.width) rfl
      have q7 := hb5'.cell_ 7 (v := .int .i64 x.length) rfl
      have q8 := hb5'.cell_ 8 (v := .slice A' x.faults.length c') rfl
      have hlen : hs.length + 1 ≤ 1000000000 := by omega
      go_wp2_with (at_builtin; refine wpList_app_own (base := w2.heap.size) (f := SH.enc) (ys := [SH.of x A' c']) _ _ rfl rfl et_sheet (hO.alloc _) rfl rfl ((Blk.new W5 65 (SH.of x A' c').enc.toArray).slc1 rfl) rfl sh_len sh_one (by simp <;> omega) (by have := hB.size; simp <;> omega) ?_; intro v6 W6 hO6 hb6 hg6)
      have hal := (Below.refl W5.heap.size W5).alloc (Nat.le_refl _) (.cells (SH.of x A' c').enc.toArray 65)
      have hS6 := ((hS.below hal).grown (hO.alloc _) (by decide) hg6).snoc ((hV4.below hal).grown (hO.alloc _) (by decide) hg6)
      replace hB := (hB.trans (hal.mono hB.size)).trans hb6
      rw [← HT.out] at hS6
      clear q0 q1 q2 q3 q4 q5 q6 q7 q8 hb5' hV4 hS hO hal hb6 hg6 HON
      go_roundw
      case rel => exact ⟨i + 1, hs ++ [SH.of x A' c'], by go_num, by omega, by simp [hhl], hO6, hS6, hB⟩
      case measure => simp [intOf]; omega
    · obtain rfl : i = ks.length := by omega
      rw [List.take_length] at hS
      have hS9 : ShsIn W hs (itemsL s) := by unfold itemsL valsS; rw [HKS.out]; exact hS
      obtain ⟨A, c, rfl, hsl⟩ := hO.form sh_len
      have HOF := hide (hO.from_ hb2.size)
      have hn9 : hs.length = (itemsL s).length := hS9.len
      have HN9 := hide hn9
      have hB9 := hb2.trans (hB.mono hb2.size)
      clear hn9
      go_wp2_with fail
      go_ret
      exact ⟨A, c, hs, by rw [HN9.out]; rfl, hsl, hS9, hB9, HOF.out⟩
set_option maxRecDepth 100000 in
set_option maxHeartbeats 2000000 in
theorem pieces_any (p : Fp) (s : SS) (w : World) (hX : StA w p s) (hI : Inv s) (hF : Few s) : Calls Try.prog 26 #[.pointer (some ⟨p.g, 0, none⟩)] w (PiecesPost (piecesL s) w) := by
  have HI := hide hI
  have HF := hide hF
  have c5 := hX.blk.cell_ 5 (v := .bool true) rfl
  have c7 := hX.blk.cell_ 7 (v := .map (some p.rp)) rfl
  have hg := hX.blk.lt
  have hM := hX.pieces
  have hr := hM.lt
  clear hI hF
  go_enter Try.func26, Try.ntmps26
  go_wp2_with fail
  refine (none_any p.g _ c5).mono ?_
  rintro e W' ⟨rfl, rfl⟩
  clear c5
  go_wp2_with fail
  refine (keys_pieces (some p.rp) w).mono ?_
  rintro e w1 ⟨rfl, hw1⟩
  have hb1 : Below w.heap.size w w1 := by rw [hw1]; exact (Below.refl _ _).alloc (Nat.le_refl _) _
  have hm1 : w1.cell? ⟨w.heap.size, 0, none⟩ = some (.map (some p.rp)) := by rw [hw1]; exact (Blk.new w _ _).cell_ 0 rfl
  have hlt1 : w.heap.size < w1.heap.size := by rw [hw1]; simp
  clear hw1
  go_wp2_with fail
  refine (sorted_pieces w.heap.size p.rp _ w1 hm1 hlt1 (hM.below hb1 hr) (fun q hq => by obtain ⟨q', h1, rfl⟩ := List.mem_map.1 hq; exact piece_keys HI.out HF.out h1) (by have := HF.out.pc; simpa using this)).mono ?_
  rintro e w2 ⟨AK, cK, rfl, hK, hb2⟩
  rw [keysS_kv] at hK
  rw [keysS_kv]
  replace hb2 := hb1.trans (hb2.mono (by omega))
  have hM2 := hM.below hb2 hr
  have c7' := (hb2.cell (p := ⟨p.g, 7, none⟩) hg).trans c7
  clear hm1 hlt1 hb1 c7 hX hM
  obtain ⟨ks, hks⟩ : ∃ ks, keysS s.pieces = ks := ⟨_, rfl⟩
  have HKS := hide hks
  have hkl : ks.length ≤ 1000000 := by rw [← hks, keys_len]; exact HF.out.pc
  rw [hks] at hK
  rw [hks]
  clear hks
  have hr2 := hM2.lt
  have hg2 : p.g < w2.heap.size := by have := hb2.size; omega
  go_upto_block 5 with fail
  go_loopw [3, 15] (fun v z wr => ∃ (i : Nat) (ls : List Piece), z = .int .i64 i ∧ i ≤ ks.length ∧ ls.length = i ∧ Hid (ls = (ks.take i).filterMap (look s.pieces)) ∧ Own wr w2.heap.size 79 8 Piece.enc v ls ∧ Below w2.heap.size w2 wr) (fun _ z _ => ks.length - (intOf z).toNat)
  case atStart => exact ⟨0, [], rfl, Nat.zero_le _, rfl, rfl, Own.nil_, Below.refl _ _⟩
  case round =>
    obtain ⟨W, rfl⟩ : ∃ W : World, W = wr := ⟨_, rfl⟩
    obtain ⟨i, ls, rfl, hi, hhl, HL, hO, hB⟩ := hrel
    have hBs := hB.size
    by_cases hlt : i < ks.length
    · obtain ⟨k, bK, oK, hk, hA, hbK, d0⟩ := ints_at' (hK.below hB) hlt
      have hii : (i : Int) < (ks.length : Int) := by omega
      have ei : IntKind.i64.wrap ((i : Int) + 1) = ((i + 1 : Nat) : Int) := by rw [IntWalk.i64_in _ (by omega)]; push_cast; rfl
      obtain ⟨x, hx⟩ := keys_at (M := s.pieces) HI.out.kp (i := i) (k := k) (by rw [HKS.out]; exact hk)
      have lk := (hM2.below hB hr2).look_yes (P := Try.prog) (t := 55) Try.underlying55 Try.underlying3 (look_kv_some hx) false
      have HT : Hid (ls ++ [x] = (ks.take (i + 1)).filterMap (look s.pieces)) := by
        show _ = _
        rw [HL.out, ← HKS.out]; exact (vals_take (by rw [HKS.out]; exact hk) hx).symm
      have c7 := (hB.cell (p := ⟨p.g, 7, none⟩) hg2).trans c7'
      subst hA
      clear hk hx
      unfold Piece.val at lk
      go_wp2_with (at_builtin; refine wpList_app_own (base := w2.heap.size) (f := Piece.enc) (ys := [x]) _ _ rfl rfl et_piece (hO.alloc _) rfl rfl ((Blk.new W 79 x.enc.toArray).slc1 rfl) rfl pce_len pce_one (by simp <;> omega) (by have := hB.size; simp <;> omega) ?_; intro v6 W6 hO6 hb6 hg6)
      have hal := (Below.refl W.heap.size W).alloc (Nat.le_refl _) (.cells x.enc.toArray 79)
      replace hB := (hB.trans (hal.mono hB.size)).trans hb6
      clear d0 lk c7 hO hal hb6 hg6
      go_roundw
      case rel => exact ⟨i + 1, ls ++ [x], by go_num, by omega, by simp [hhl], HT, hO6, hB⟩
      case measure => simp [intOf]; omega
    · obtain rfl : i = ks.length := by omega
      have h9 : Hid (ls = piecesL s) := by show _ = _; unfold piecesL valsS; rw [HKS.out, HL.out, List.take_length]
      obtain ⟨A, c, rfl, hsl⟩ := hO.form pce_len
      have HOF := hide (hO.from_ hb2.size)
      have hB9 := hb2.trans (hB.mono hb2.size)
      go_wp2_with fail
      go_ret
      exact ⟨A, c, by rw [← h9.out]; rfl, by rw [← h9.out]; exact hsl, hB9, HOF.out⟩
end Go.Proofs.Ytpeokpnjnmgloaa

/- Scrap, Use and Return: the walks. -/
namespace Go.Proofs.Ytpeokpnjnmgloaa
open Go Go.RowKit
theorem exec_del {P : Program} {o : Oper} {a : Act} {m x : Operand} {t k : TypeId} {v y v' : Value} {w w' : World} (ho : o.op = .call { callee := .builtin .delete, args := #[m, x], argTypes := #[t, k] }) (hs : a.eval m = v) (hx : a.eval x = y) (hr : (Builtin.delete_ #[t, k] o.type #[v, y]).run P w = .ok v' w') : (execOp a.eval o).run P w = .ok (.value v') w' := by
  unfold execOp
  simp only [ho, resolve, invoke, builtin, Sem.run_bind, Sem.run_pure, Result.andThen_ok, List.map_toArray, List.map_cons, List.map_nil, hs, hx, hr]
theorem wpList_del_im {P : Program} {ops : Array Oper} {rest : List Oper} {o : Oper} {a : Act} {Q : Exit → Act → World → Prop} {w : World} {M : List (Int × Value)} (hg : o.guard = none) (hd : o.dst = none) (m x : Operand) (t k : TypeId) (hop : o.op = .call { callee := .builtin .delete, args := #[m, x], argTypes := #[t, k] })
    (e : TypeId) (ht : P.underlying t = some (.map k e)) (hk : P.underlying k = some (.int .i64)) (r : Nat) (hm : a.eval m = .map (some r)) (h : MapOf w r M) (n : Int) (hx : a.eval x = .int .i64 n)
    (hK : ∀ w', MapOf w' r (del M n) → w.grownBy w' (some r) → wpList P ops Q rest a w') : wpList P ops Q (o :: rest) a w := by
  refine wpList_plain hg fun K' hK' => ?_
  obtain ⟨w', hrun, h1, h2⟩ := h.run_del (P := P) (n := n) (ty := o.type) ht hk
  unfold Oper.wp
  rw [exec_del hop hm hx hrun]
  refine hK' _ _ ?_
  rw [hd]
  exact hK w' h1 h2
theorem StA.del_item {w w' : World} {p : Fp} {s : SS} {k : Int} {MI : List (Int × Value)} (h : StA w p s) (hg : w.grownBy w' (some p.ri)) (hz : Zip (ItV w) s.items MI) (hM : MapOf w' p.ri (del MI k)) : StA w' p { s with items := del s.items k } := h.upd_items hg hM hz.filter_
theorem StA.del_piece {w w' : World} {p : Fp} {s : SS} {k : Int} (h : StA w p s) (hg : w.grownBy w' (some p.rp)) (hM : MapOf w' p.rp (del (s.pieces.map (kv Piece.val)) k)) : StA w' p { s with pieces := del s.pieces k } := h.upd_pieces hg (by rw [← del_kv]; exact hM)
theorem item_area {d : Int} {s : SS} (h : InvD d s) {k : Int} {x : Sheet} (hx : look s.items k = some x) : 0 ≤ x.width * x.length ∧ x.width * x.length ≤ 900000 := by
  have ho := (h.it _ _ hx).2
  have h1 := ho.w; have h2 := ho.l
  exact mul_le_mul0 (b := 150) (e := 6000) (by omega) h1.2 (by omega) h2.2
theorem piece_area {d : Int} {s : SS} (h : InvD d s) {k : Int} {x : Piece} (hx : look s.pieces k = some x) : 0 ≤ x.width * x.length ∧ x.width * x.length ≤ 900000 := by
  have ho := (h.pc _ _ hx).2
  have h1 := ho.w; have h2 := ho.l
  exact mul_le_mul0 (b := 150) (e := 6000) (by omega) h1.2 (by omega) h2.2
theorem sum_nonneg {V : Type} {f : V → Int} {M : List (Int × V)} (h : ∀ q ∈ M, 0 ≤ f q.2) : 0 ≤ sumM f M := by
  induction M with
  | nil => simp [sumM]
  | cons q M ih =>
    have h1 := h q (List.mem_cons_self ..)
    have h2 := ih fun p hp => h p (List.mem_cons_of_mem _ hp)
    rw [sumM_cons]; omega
/-- the waste is bounded by what was received -/
theorem waste_bd {s : SS} (h : Inv s) (f : Few s) : 0 ≤ s.waste ∧ s.waste ≤ 1000000000000000 := by
  have h1 := h.ba
  have h2 : 0 ≤ sumM areaS s.items := sum_nonneg fun q hq => (item_area h (look_mem h.ki hq)).1
  have h3 : 0 ≤ sumM areaP s.pieces := sum_nonneg fun q hq => (piece_area h (look_mem h.kp hq)).1
  have := f.re; have := h.wa
  omega
abbrev zeroSheet : Obj := .cells #[.int .i64 0, .int .i64 0, .int .i64 0, .int .i64 0, .int .i64 0, .int .i64 0, .int .i64 0, .int .i64 0, .slice none 0 0] 65
set_option maxRecDepth 100000 in
set_option maxHeartbeats 2000000 in
theorem scrap_any (p : Fp) (s : SS) (id : Int) (w : World) (hX : StA w p s) (hI : Inv s) (hF : Few s) : Calls Try.prog 22 #[.pointer (some ⟨p.g, 0, none⟩), .int .i64 id] w fun e w' => e = .returned (.int .i64 (scrapE s id)) ∧ StA w' p (scrapF s id) ∧ Chg p.has w w' := by
  have c6 := hX.blk.cell_ 6 (v := .map (some p.ri)) rfl
  have c7 := hX.blk.cell_ 7 (v := .map (some p.rp)) rfl
  obtain ⟨MI, hM, hZ⟩ := hX.items
  cases hi : look s.items id with
  | some x =>
    have HE : Hid (scrapE s id = 0 ∧ scrapF s id = { s with items := del s.items id, waste := s.waste + x.width * x.length }) := ⟨by unfold scrapE; rw [hi]; rfl, by unfold scrapF; rw [hi]⟩
    obtain ⟨v, hv, hV⟩ := hZ.look_ hi
    obtain ⟨A, c, rfl, hSV⟩ := hV.sh
    have lk := hM.look_yes (P := Try.prog) (t := 54) Try.underlying54 Try.underlying3 hv true
    have HAR := hide (item_area hI hi)
    unfold Sheet.valAt at lk
    clear hi hv hV hSV c7
    have HI := hide hI
    have HF := hide hF
    have HWB := hide (waste_bd hI hF)
    have c5 := hX.blk.cell_ 5 (v := .bool true) rfl
    have hg := hX.blk.lt
    have hC : Chg p.has w w := Chg.refl _ _
    clear hI hF
    go_enter Try.func22, Try.ntmps22
    go_wp2_with fail
    refine (none_any p.g _ c5).mono ?_
    rintro e W' ⟨rfl, rfl⟩
    clear c5
    have hx := Blk.new w 65 #[.int .i64 x.id, .int .i64 x.root, .int .i64 x.grade, .int .i64 x.colour, .int .i64 x.lot, .int .i64 x.made, .int .i64 x.width, .int .i64 x.length, .slice A x.faults.length c]
    have hal := (Below.refl w.heap.size w).alloc (Nat.le_refl _) (.cells #[.int .i64 x.id, .int .i64 x.root, .int .i64 x.grade, .int .i64 x.colour, .int .i64 x.lot, .int .i64 x.made, .int .i64 x.width, .int .i64 x.length, .slice A x.faults.length c] 65)
    replace hX := hX.below hal
    replace hC := hC.trans (.of_below hal)
    clear hal
    go_upto_region 4 with fail
    clear lk c6 hg hM hZ
    obtain ⟨W, hW⟩ : ∃ X : World, X = w.alloc (.cells #[.int .i64 x.id, .int .i64 x.root, .int .i64 x.grade, .int .i64 x.colour, .int .i64 x.lot, .int .i64 x.made, .int .i64 x.width, .int .i64 x.length, .slice A x.faults.length c] 65) := ⟨_, rfl⟩
    rw [← hW] at hX hC hx ⊢
    clear hW
    have c12 := hX.blk.cell_ 12 (v := .int .i64 s.waste) rfl
    have e1 : IntKind.i64.wrap (x.width * x.length) = x.width * x.length := IntWalk.i64_in _ (by have := HAR.out; omega)
    have e2 : IntKind.i64.wrap (s.waste + x.width * x.length) = s.waste + x.width * x.length := IntWalk.i64_in _ (by have := HAR.out; have := HWB.out; omega)
    go_wp2_with fail
    have x0 := hx.cell_ 0 rfl
    have x1 := hx.cell_ 1 rfl
    have x2 := hx.cell_ 2 rfl
    have x3 := hx.cell_ 3 rfl
    have x4 := hx.cell_ 4 rfl
    have x5 := hx.cell_ 5 rfl
    have x6 := hx.cell_ 6 rfl
    have x7 := hx.cell_ 7 rfl
    have x8 := hx.cell_ 8 rfl
    refine wp_region_quiet_tail (C := fun w' => ∃ u : Since W, w' = u.w) 12 (by kernel_rfl) (by kernel_rfl) (Since.start W) ?_
    simp only [List.take_succ_cons, List.take_zero, List.drop_succ_cons, List.drop_zero]
    have y_x0 := Since.cell x0
    have y_x1 := Since.cell x1
    have y_x2 := Since.cell x2
    have y_x3 := Since.cell x3
    have y_x4 := Since.cell x4
    have y_x5 := Since.cell x5
    have y_x6 := Since.cell x6
    have y_x7 := Since.cell x7
    have y_x8 := Since.cell x8
    have y_c12 := Since.cell c12
    clear x0 x1 x2 x3 x4 x5 x6 x7 x8
    repeat (go_big_quiet_step ((fail)))
    refine wpQuiet_nil ?_
    rintro W ⟨⟨_, hb⟩, rfl⟩
    try dsimp only at hb ⊢
    replace c12 : W.cell? _ = _ := y_c12 ⟨W, hb⟩
    clear y_x0 y_x1 y_x2 y_x3 y_x4 y_x5 y_x6 y_x7 y_x8 y_c12
    replace hX := StA.below hX hb
    replace hC := Chg.trans hC (Chg.of_below hb)
    replace hx := hx.below hb hx.lt
    clear hb
    have x0 := hx.cell_ 0 rfl
    have x1 := hx.cell_ 1 rfl
    have x2 := hx.cell_ 2 rfl
    have x3 := hx.cell_ 3 rfl
    have x4 := hx.cell_ 4 rfl
    have x5 := hx.cell_ 5 rfl
    have x6 := hx.cell_ 6 rfl
    have x7 := hx.cell_ 7 rfl
    have x8 := hx.cell_ 8 rfl
    clear x0 x1 x2 x3 x4 x5 x6 x7 x8
    go_upto_region 6 with (refine wpList_store_at rfl 3 _ _ rfl (.int .i64 (s.waste + x.width * x.length)) hX.blk rfl rfl (by kernel_rfl) rfl (by simp [storeCells_]) rfl ?_; intro W3 hB3 hc3)
    have hX3 := hX.upd_blk (s' := { s with waste := s.waste + x.width * x.length }) hc3 hB3 (by simp [storeCells_]) rfl rfl rfl rfl
    have hC3 : Chg p.has w W3 := hC.trans (hc3.mono fun k _ hk => .inl hk)
    have hx3 := hx.chg1 hc3 (hx.ne_ hX.blk (by decide))
    clear hX hC hx hB3 hc3 c12 e1 e2
    obtain ⟨MI, hM, hZ⟩ := hX3.items
    have c6 := hX3.blk.cell_ 6 (v := .map (some p.ri)) rfl
    try dsimp only [Act.put]
    go_upto_region 7 with (refine wpList_del_im rfl rfl _ _ _ _ rfl _ Try.underlying54 Try.underlying3 p.ri rfl hM id rfl ?_; intro W4 hM4 hg4)
    have hX4 := hX3.del_item hg4 hZ hM4
    have hC4 : Chg p.has w W4 := hC3.trans (.of_grown hg4 (by simp [Fp.has]))
    go_wp2_with fail
    go_ret
    rw [HE.out.1, HE.out.2]
    exact ⟨rfl, hX4, hC4⟩
  | none =>
    have lk := hM.look_no (P := Try.prog) (t := 54) (z := .agg #[.int .i64 0, .int .i64 0, .int .i64 0, .int .i64 0, .int .i64 0, .int .i64 0, .int .i64 0, .int .i64 0, .slice none 0 0]) Try.underlying54 Try.underlying3 (fun w => by kernel_rfl) (hZ.look_no hi) true
    clear hM hZ
    cases hp : look s.pieces id with
    | some x =>
      have HE : Hid (scrapE s id = 0 ∧ scrapF s id = { s with pieces := del s.pieces id, waste := s.waste + x.width * x.length }) := ⟨by unfold scrapE; rw [hi, hp]; rfl, by unfold scrapF; rw [hi, hp]⟩
      have lk2 : ∀ o, (Instr.lookup 55 (.map (some p.rp)) (.int .i64 id) true).run Try.prog (w.alloc o) = .ok (.tuple #[x.val, .bool true]) (w.alloc o) := fun o => (hX.pieces.alloc o).look_yes (P := Try.prog) (t := 55) Try.underlying55 Try.underlying3 (look_kv_some hp) true
      have HAR := hide (piece_area hI hp)
      unfold Piece.val at lk2
      clear hi hp
      have HI := hide hI
      have HF := hide hF
      have HWB := hide (waste_bd hI hF)
      have c5 := hX.blk.cell_ 5 (v := .bool true) rfl
      have hg := hX.blk.lt
      have hC : Chg p.has w w := Chg.refl _ _
      clear hI hF
      go_enter Try.func22, Try.ntmps22
      go_wp2_with fail
      refine (none_any p.g _ c5).mono ?_
      rintro e W' ⟨rfl, rfl⟩
      clear c5
      have hal := (Below.refl w.heap.size w).alloc (Nat.le_refl _) zeroSheet
      replace hX := hX.below hal
      replace hC := hC.trans (.of_below hal)
      clear hal
      go_upto_region 8 with fail
      replace lk2 := lk2 zeroSheet
      clear lk c6
      obtain ⟨W, hW⟩ : ∃ X : World, X = w.alloc zeroSheet := ⟨_, rfl⟩
      rw [show w.alloc zeroSheet = W from hW.symm] at lk2
      rw [← hW] at hX hC ⊢
      have c7 := hX.blk.cell_ 7 (v := .map (some p.rp)) rfl
      clear hW
      have hx := Blk.new W 79 #[.int .i64 x.id, .int .i64 x.root, .int .i64 x.lot, .int .i64 x.grade, .int .i64 x.colour, .int .i64 x.width, .int .i64 x.length, .int .i64 x.use]
      have hal := (Below.refl W.heap.size W).alloc (Nat.le_refl _) (.cells #[.int .i64 x.id, .int .i64 x.root, .int .i64 x.lot, .int .i64 x.grade, .int .i64 x.colour, .int .i64 x.width, .int .i64 x.length, .int .i64 x.use] 79)
      replace hX := hX.below hal
      replace hC := hC.trans (.of_below hal)
      clear hal
      go_upto_region 9 with fail
      clear lk2 c7
      obtain ⟨W2, hW⟩ : ∃ X : World, X = W.alloc (.cells #[.int .i64 x.id, .int .i64 x.root, .int .i64 x.lot, .int .i64 x.grade, .int .i64 x.colour, .int .i64 x.width, .int .i64 x.length, .int .i64 x.use] 79) := ⟨_, rfl⟩
      rw [← hW] at hX hC hx
      rw [← hW]
      clear hW
      obtain ⟨W, rfl⟩ : ∃ X : World, X = W2 := ⟨_, rfl⟩
      have c12 := hX.blk.cell_ 12 (v := .int .i64 s.waste) rfl
      have e1 : IntKind.i64.wrap (x.width * x.length) = x.width * x.length := IntWalk.i64_in _ (by have := HAR.out; omega)
      have e2 : IntKind.i64.wrap (s.waste + x.width * x.length) = s.waste + x.width * x.length := IntWalk.i64_in _ (by have := HAR.out; have := HWB.out; omega)
      go_wp2_with fail
      have x0 := hx.cell_ 0 rfl
      have x1 := hx.cell_ 1 rfl
      have x2 := hx.cell_ 2 rfl
      have x3 := hx.cell_ 3 rfl
      have x4 := hx.cell_ 4 rfl
      have x5 := hx.cell_ 5 rfl
      have x6 := hx.cell_ 6 rfl
      have x7 := hx.cell_ 7 rfl
      refine wp_region_quiet_tail (C := fun w' => ∃ u : Since W, w' = u.w) 12 (by kernel_rfl) (by kernel_rfl) (Since.start W) ?_
      simp only [List.take_succ_cons, List.take_zero, List.drop_succ_cons, List.drop_zero]
      have y_x0 := Since.cell x0
      have y_x1 := Since.cell x1
      have y_x2 := Since.cell x2
      have y_x3 := Since.cell x3
      have y_x4 := Since.cell x4
      have y_x5 := Since.cell x5
      have y_x6 := Since.cell x6
      have y_x7 := Since.cell x7
      have y_c12 := Since.cell c12
      clear x0 x1 x2 x3 x4 x5 x6 x7
      repeat (go_big_quiet_step ((fail)))
      refine wpQuiet_nil ?_
      rintro W ⟨⟨_, hb⟩, rfl⟩
      try dsimp only at hb ⊢
      replace c12 : W.cell? _ = _ := y_c12 ⟨W, hb⟩
      clear y_x0 y_x1 y_x2 y_x3 y_x4 y_x5 y_x6 y_x7 y_c12
      replace hX := StA.below hX hb
      replace hC := Chg.trans hC (Chg.of_below hb)
      replace hx := hx.below hb hx.lt
      clear hb
      have x0 := hx.cell_ 0 rfl
      have x1 := hx.cell_ 1 rfl
      have x2 := hx.cell_ 2 rfl
      have x3 := hx.cell_ 3 rfl
      have x4 := hx.cell_ 4 rfl
      have x5 := hx.cell_ 5 rfl
      have x6 := hx.cell_ 6 rfl
      have x7 := hx.cell_ 7 rfl
      clear x0 x1 x2 x3 x4 x5 x6 x7
      go_upto_region 12 with (refine wpList_store_at rfl 3 _ _ rfl (.int .i64 (s.waste + x.width * x.length)) hX.blk rfl rfl (by kernel_rfl) rfl (by simp [storeCells_]) rfl ?_; intro W3 hB3 hc3)
      have hX3 := hX.upd_blk (s' := { s with waste := s.waste + x.width * x.length }) hc3 hB3 (by simp [storeCells_]) rfl rfl rfl rfl
      have hC3 : Chg p.has w W3 := hC.trans (hc3.mono fun k _ hk => .inl hk)
      have hx3 := hx.chg1 hc3 (hx.ne_ hX.blk (by decide))
      clear hX hC hx hB3 hc3 c12 e1 e2
      have hM := hX3.pieces
      have c7 := hX3.blk.cell_ 7 (v := .map (some p.rp)) rfl
      try dsimp only [Act.put]
      go_upto_region 13 with (refine wpList_del_im rfl rfl _ _ _ _ rfl _ Try.underlying55 Try.underlying3 p.rp rfl hM id rfl ?_; intro W4 hM4 hg4)
      have hX4 := hX3.del_piece hg4 hM4
      have hC4 : Chg p.has w W4 := hC3.trans (.of_grown hg4 (by simp [Fp.has]))
      go_wp2_with fail
      go_ret
      rw [HE.out.1, HE.out.2]
      exact ⟨rfl, hX4, hC4⟩
    | none =>
      have HE : Hid (scrapE s id = 5 ∧ scrapF s id = s) := ⟨by unfold scrapE; rw [hi, hp]; rfl, by unfold scrapF; rw [hi, hp]⟩
      have lk2 : ∀ o, (Instr.lookup 55 (.map (some p.rp)) (.int .i64 id) true).run Try.prog (w.alloc o) = .ok (.tuple #[.agg #[.int .i64 0, .int .i64 0, .int .i64 0, .int .i64 0, .int .i64 0, .int .i64 0, .int .i64 0, .int .i64 0], .bool false]) (w.alloc o) := fun o => (hX.pieces.alloc o).look_no (P := Try.prog) (t := 55) Try.underlying55 Try.underlying3 (fun w => by kernel_rfl) (look_kv_none hp) true
      clear hi hp
      have HI := hide hI
      have HF := hide hF
      have HWB := hide (waste_bd hI hF)
      have c5 := hX.blk.cell_ 5 (v := .bool true) rfl
      have hg := hX.blk.lt
      have hC : Chg p.has w w := Chg.refl _ _
      clear hI hF
      go_enter Try.func22, Try.ntmps22
      go_wp2_with fail
      refine (none_any p.g _ c5).mono ?_
      rintro e W' ⟨rfl, rfl⟩
      clear c5
      have hal := (Below.refl w.heap.size w).alloc (Nat.le_refl _) zeroSheet
      replace hX := hX.below hal
      replace hC := hC.trans (.of_below hal)
      clear hal
      go_upto_region 8 with fail
      replace lk2 := lk2 zeroSheet
      clear lk c6
      obtain ⟨W, hW⟩ : ∃ X : World, X = w.alloc zeroSheet := ⟨_, rfl⟩
      rw [show w.alloc zeroSheet = W from hW.symm] at lk2
      rw [← hW] at hX hC ⊢
      have c7 := hX.blk.cell_ 7 (v := .map (some p.rp)) rfl
      clear hW
      have hal := (Below.refl W.heap.size W).alloc (Nat.le_refl _) (.cells #[.int .i64 0, .int .i64 0, .int .i64 0, .int .i64 0, .int .i64 0, .int .i64 0, .int .i64 0, .int .i64 0] 79)
      replace hX := hX.below hal
      replace hC := hC.trans (.of_below hal)
      clear hal
      go_wp2_with fail
      go_ret
      rw [HE.out.1, HE.out.2]
      exact ⟨rfl, hX, hC⟩
end Go.Proofs.Ytpeokpnjnmgloaa

/- Use and Return of the store: the walks. -/
namespace Go.Proofs.Ytpeokpnjnmgloaa
open Go Go.RowKit
abbrev zeroPiece : Obj := .cells #[.int .i64 0, .int .i64 0, .int .i64 0, .int .i64 0, .int .i64 0, .int .i64 0, .int .i64 0, .int .i64 0] 79
theorem StA.put_piece {w w' : World} {p : Fp} {s : SS} {k : Int} {x : Piece} (h : StA w p s) (hg : w.grownBy w' (some p.rp)) (hM : MapOf w' p.rp (put (s.pieces.map (kv Piece.val)) k x.val)) : StA w' p { s with pieces := put s.pieces k x } := h.upd_pieces hg (by rw [← put_kv]; exact hM)
theorem within_is (a n b : Int) (w : World) {v : Bool} (h : inB a n b = v) : Calls Try.prog 28 #[.int .i64 a, .int .i64 n, .int .i64 b] w fun e w' => e = .returned (.bool v) ∧ w = w' := by
  subst h; exact within_any a n b w
set_option maxRecDepth 100000 in
set_option maxHeartbeats 2000000 in
theorem use_any (p : Fp) (s : SS) (id what : Int) (w : World) (hX : StA w p s) (hI : Inv s) (hF : Few s) : Calls Try.prog 20 #[.pointer (some ⟨p.g, 0, none⟩), .int .i64 id, .int .i64 what] w fun e w' => e = .returned (.int .i64 (useE s id what)) ∧ StA w' p (useS s id what) ∧ Chg p.has w w' := by
  have c7 := hX.blk.cell_ 7 (v := .map (some p.rp)) rfl
  cases hw : inB 1 what 1000000000 with
  | false =>
    have HE : Hid (useE s id what = 2 ∧ useS s id what = s) := by
      have h1 : useE s id what = 2 := by unfold useE; rw [hw]; rfl
      exact ⟨h1, by unfold useS; rw [h1]; rfl⟩
    have HI := hide hI
    have HF := hide hF
    have HWB := hide (waste_bd hI hF)
    have c5 := hX.blk.cell_ 5 (v := .bool true) rfl
    have hg := hX.blk.lt
    have hC : Chg p.has w w := Chg.refl _ _
    clear hI hF
    go_enter Try.func20, Try.ntmps20
    go_wp2_with fail
    refine (none_any p.g _ c5).mono ?_
    rintro e W' ⟨rfl, rfl⟩
    clear c5
    go_wp2_with fail
    refine (within_is 1 what 1000000000 _ hw).mono ?_
    rintro e W' ⟨rfl, rfl⟩
    go_wp2_with fail
    go_ret
    rw [HE.out.1, HE.out.2]
    exact ⟨rfl, hX, hC⟩
  | true =>
    cases hp : look s.pieces id with
    | none =>
      have HE : Hid (useE s id what = 5 ∧ useS s id what = s) := by
        have h1 : useE s id what = 5 := by unfold useE; rw [hw, hp]; rfl
        exact ⟨h1, by unfold useS; rw [h1]; rfl⟩
      have lk := hX.pieces.look_no (P := Try.prog) (t := 55) (z := .agg #[.int .i64 0, .int .i64 0, .int .i64 0, .int .i64 0, .int .i64 0, .int .i64 0, .int .i64 0, .int .i64 0]) Try.underlying55 Try.underlying3 (fun w => by kernel_rfl) (look_kv_none hp) true
      clear hp
      have HI := hide hI
      have HF := hide hF
      have HWB := hide (waste_bd hI hF)
      have c5 := hX.blk.cell_ 5 (v := .bool true) rfl
      have hg := hX.blk.lt
      have hC : Chg p.has w w := Chg.refl _ _
      clear hI hF
      go_enter Try.func20, Try.ntmps20
      go_wp2_with fail
      refine (none_any p.g _ c5).mono ?_
      rintro e W' ⟨rfl, rfl⟩
      clear c5
      go_wp2_with fail
      refine (within_is 1 what 1000000000 _ hw).mono ?_
      rintro e W' ⟨rfl, rfl⟩
      clear hw
      have hal := (Below.refl w.heap.size w).alloc (Nat.le_refl _) zeroPiece
      replace hX := hX.below hal
      replace hC := hC.trans (.of_below hal)
      clear hal
      go_wp2_with fail
      go_ret
      rw [HE.out.1, HE.out.2]
      exact ⟨rfl, hX, hC⟩
    | some x =>
      have lk := hX.pieces.look_yes (P := Try.prog) (t := 55) Try.underlying55 Try.underlying3 (look_kv_some hp) true
      unfold Piece.val at lk
      have HP := hide hp
      have HW := hide hw
      clear hp
      have hx := Blk.new w 79 #[.int .i64 x.id, .int .i64 x.root, .int .i64 x.lot, .int .i64 x.grade, .int .i64 x.colour, .int .i64 x.width, .int .i64 x.length, .int .i64 x.use]
      have hal := (Below.refl w.heap.size w).alloc (Nat.le_refl _) (.cells #[.int .i64 x.id, .int .i64 x.root, .int .i64 x.lot, .int .i64 x.grade, .int .i64 x.colour, .int .i64 x.width, .int .i64 x.length, .int .i64 x.use] 79)
      have HI := hide hI
      have HF := hide hF
      have HWB := hide (waste_bd hI hF)
      have c5 := hX.blk.cell_ 5 (v := .bool true) rfl
      have hg := hX.blk.lt
      have hC : Chg p.has w w := Chg.refl _ _
      clear hI hF
      go_enter Try.func20, Try.ntmps20
      go_wp2_with fail
      refine (none_any p.g _ c5).mono ?_
      rintro e W' ⟨rfl, rfl⟩
      clear c5
      go_wp2_with fail
      refine (within_is 1 what 1000000000 _ hw).mono ?_
      rintro e W' ⟨rfl, rfl⟩
      clear hw
      replace hX := hX.below hal
      replace hC := hC.trans (.of_below hal)
      clear hal
      go_upto_region 4 with fail
      clear lk c7
      generalize w.alloc (.cells #[.int .i64 x.id, .int .i64 x.root, .int .i64 x.lot, .int .i64 x.grade, .int .i64 x.colour, .int .i64 x.width, .int .i64 x.length, .int .i64 x.use] 79) = W at *
      have x7 := hx.cell_ 7 (v := .int .i64 x.use) rfl
      by_cases hu : x.use = 0
      · have HE : Hid (useE s id what = 0 ∧ useS s id what = { s with pieces := put s.pieces id { x with use := what } }) := by
          have h1 : useE s id what = 0 := by unfold useE; rw [HW.out, HP.out]; dsimp only; rw [if_pos rfl, if_pos hu]
          exact ⟨h1, by unfold useS; rw [h1, if_pos rfl]; unfold useFn; rw [HP.out]⟩
        have hun : (x.use != 0) = false := by simp [hu]
        clear hu
        go_upto_region 9 with (refine wpList_store_at rfl 3 _ _ rfl (.int .i64 what) hx rfl rfl (by kernel_rfl) rfl (by simp) rfl ?_; intro W3 hx3 hc3)
        have hx4 : Blk W3 w.heap.size 79 #[.int .i64 x.id, .int .i64 x.root, .int .i64 x.lot, .int .i64 x.grade, .int .i64 x.colour, .int .i64 x.width, .int .i64 x.length, .int .i64 what] := hx3
        have hX3 := hX.chg1 hc3 hx (by decide) (by decide)
        have hC3 : Chg p.has w W3 := hC.trans' hc3 fun k hk he => by omega
        clear x7 hX hx hC hx3 hc3
        obtain ⟨W, rfl⟩ : ∃ X : World, X = W3 := ⟨_, rfl⟩
        try dsimp only [Act.put]
        have c7 := hX3.blk.cell_ 7 (v := .map (some p.rp)) rfl
        go_wp2_with fail
        have x0 := hx4.cell_ 0 rfl
        have x1 := hx4.cell_ 1 rfl
        have x2 := hx4.cell_ 2 rfl
        have x3 := hx4.cell_ 3 rfl
        have x4 := hx4.cell_ 4 rfl
        have x5 := hx4.cell_ 5 rfl
        have x6 := hx4.cell_ 6 rfl
        have x7 := hx4.cell_ 7 rfl
        refine wp_region_quiet_tail (C := fun w' => ∃ u : Since W, w' = u.w) 6 (by kernel_rfl) (by kernel_rfl) (Since.start W) ?_
        simp only [List.take_succ_cons, List.take_zero, List.drop_succ_cons, List.drop_zero]
        have y_x0 := Since.cell x0
        have y_x1 := Since.cell x1
        have y_x2 := Since.cell x2
        have y_x3 := Since.cell x3
        have y_x4 := Since.cell x4
        have y_x5 := Since.cell x5
        have y_x6 := Since.cell x6
        have y_x7 := Since.cell x7
        have y_c7 := Since.cell c7
        clear x0 x1 x2 x3 x4 x5 x6 x7
        repeat (go_big_quiet_step ((fail)))
        refine wpQuiet_nil ?_
        rintro W ⟨⟨_, hb⟩, rfl⟩
        try dsimp only at hb ⊢
        replace c7 : W.cell? _ = _ := y_c7 ⟨W, hb⟩
        clear y_x0 y_x1 y_x2 y_x3 y_x4 y_x5 y_x6 y_x7 y_c7
        replace hX3 := StA.below hX3 hb
        replace hC3 := Chg.trans hC3 (Chg.of_below hb)
        replace hx4 := hx4.below hb hx4.lt
        clear hb
        have x0 := hx4.cell_ 0 rfl
        have x1 := hx4.cell_ 1 rfl
        have x2 := hx4.cell_ 2 rfl
        have x3 := hx4.cell_ 3 rfl
        have x4 := hx4.cell_ 4 rfl
        have x5 := hx4.cell_ 5 rfl
        have x6 := hx4.cell_ 6 rfl
        have x7 := hx4.cell_ 7 rfl
        clear x0 x1 x2 x3 x4 x5 x6 x7
        have hM := hX3.pieces
        go_wp2_with (refine wpList_put_im rfl rfl _ _ _ _ rfl _ _ Try.underlying55 Try.underlying3 p.rp rfl hM id (Piece.val { x with use := what }) rfl rfl ?_; intro W5 hM5 hg5)
        have hX5 := hX3.put_piece (x := { x with use := what }) hg5 hM5
        have hC5 : Chg p.has w W5 := hC3.trans (.of_grown hg5 (by simp [Fp.has]))
        go_ret
        rw [HE.out.1, HE.out.2]
        exact ⟨rfl, hX5, hC5⟩
      · have HE : Hid (useE s id what = 25 ∧ useS s id what = s) := by
          have h1 : useE s id what = 25 := by unfold useE; rw [HW.out, HP.out]; dsimp only; rw [if_pos rfl, if_neg hu]
          exact ⟨h1, by unfold useS; rw [h1]; rfl⟩
        have hun : (x.use != 0) = true := by simp [hu]
        clear hu
        go_wp2_with fail
        go_ret
        rw [HE.out.1, HE.out.2]
        exact ⟨rfl, hX, hC⟩
theorem StA.put_item {w w' : World} {p : Fp} {s : SS} {k : Int} {x : Sheet} {v : Value} {MI : List (Int × Value)} (h : StA w p s) (hg : w.grownBy w' (some p.ri)) (hz : Zip (ItV w) s.items MI) (hM : MapOf w' p.ri (put MI k v)) (hv : ItV w x v) : StA w' p { s with items := put s.items k x } := h.upd_items hg hM (hz.put_ hv)
theorem ItV.nil_ (w : World) {x : Sheet} (h : x.faults = []) (A : Option Addr) (c : Nat) : ItV w x (x.valAt A c) := ⟨A, c, rfl, by rw [h]; exact Slc.nil_, fun hne => absurd h hne⟩
set_option maxRecDepth 100000 in
set_option maxHeartbeats 4000000 in
theorem return_any (p : Fp) (s : SS) (id : Int) (w : World) (hX : StA w p s) (hI : Inv s) (hF : Few s) : Calls Try.prog 21 #[.pointer (some ⟨p.g, 0, none⟩), .int .i64 id] w fun e w' => e = .returned (.int .i64 (backE s id)) ∧ StA w' p (backS s id) ∧ Chg p.has w w' := by
  have c7 := hX.blk.cell_ 7 (v := .map (some p.rp)) rfl
  cases hp : look s.pieces id with
  | none =>
    have HE : Hid (backE s id = 5 ∧ backS s id = s) := ⟨by unfold backE; rw [hp], by unfold backS; rw [hp]⟩
    have lk := hX.pieces.look_no (P := Try.prog) (t := 55) (z := .agg #[.int .i64 0, .int .i64 0, .int .i64 0, .int .i64 0, .int .i64 0, .int .i64 0, .int .i64 0, .int .i64 0]) Try.underlying55 Try.underlying3 (fun w => by kernel_rfl) (look_kv_none hp) true
    clear hp
    have HI := hide hI
    have HF := hide hF
    have HWB := hide (waste_bd hI hF)
    have c5 := hX.blk.cell_ 5 (v := .bool true) rfl
    have hg := hX.blk.lt
    have hC : Chg p.has w w := Chg.refl _ _
    clear hI hF
    go_enter Try.func21, Try.ntmps21
    go_wp2_with fail
    refine (none_any p.g _ c5).mono ?_
    rintro e W' ⟨rfl, rfl⟩
    clear c5
    have hal := (Below.refl w.heap.size w).alloc (Nat.le_refl _) zeroPiece
    replace hX := hX.below hal
    replace hC := hC.trans (.of_below hal)
    clear hal
    go_wp2_with fail
    go_ret
    rw [HE.out.1, HE.out.2]
    exact ⟨rfl, hX, hC⟩
  | some x =>
    have lk := hX.pieces.look_yes (P := Try.prog) (t := 55) Try.underlying55 Try.underlying3 (look_kv_some hp) true
    unfold Piece.val at lk
    have HP := hide hp
    have HO := hide (hI.pc _ _ hp)
    have HAR := hide (piece_area hI hp)
    have HLO := hide hI.lo
    clear hp
    have hx := Blk.new w 79 #[.int .i64 x.id, .int .i64 x.root, .int .i64 x.lot, .int .i64 x.grade, .int .i64 x.colour, .int .i64 x.width, .int .i64 x.length, .int .i64 x.use]
    have hal := (Below.refl w.heap.size w).alloc (Nat.le_refl _) (.cells #[.int .i64 x.id, .int .i64 x.root, .int .i64 x.lot, .int .i64 x.grade, .int .i64 x.colour, .int .i64 x.width, .int .i64 x.length, .int .i64 x.use] 79)
    have HI := hide hI
    have HF := hide hF
    have HWB := hide (waste_bd hI hF)
    have c5 := hX.blk.cell_ 5 (v := .bool true) rfl
    have hg := hX.blk.lt
    have hC : Chg p.has w w := Chg.refl _ _
    clear hI hF
    go_enter Try.func21, Try.ntmps21
    go_wp2_with fail
    refine (none_any p.g _ c5).mono ?_
    rintro e W' ⟨rfl, rfl⟩
    clear c5
    replace hX := hX.below hal
    replace hC := hC.trans (.of_below hal)
    clear hal
    go_upto_region 4 with fail
    clear lk c7
    generalize w.alloc (.cells #[.int .i64 x.id, .int .i64 x.root, .int .i64 x.lot, .int .i64 x.grade, .int .i64 x.colour, .int .i64 x.width, .int .i64 x.length, .int .i64 x.use] 79) = W at *
    have x7 := hx.cell_ 7 (v := .int .i64 x.use) rfl
    by_cases hu : x.use = 0
    case neg =>
      have HE : Hid (backE s id = 25 ∧ backS s id = s) := ⟨by unfold backE; rw [HP.out]; dsimp only; rw [if_neg hu], by unfold backS; rw [HP.out]; dsimp only; rw [if_neg hu]⟩
      have hun : (x.use != 0) = true := by simp [hu]
      clear hu
      go_wp2_with fail
      go_ret
      rw [HE.out.1, HE.out.2]
      exact ⟨rfl, hX, hC⟩
    have HE : Hid (backE s id = 0 ∧ backS s id = backFn s id x) := ⟨by unfold backE; rw [HP.out]; dsimp only; rw [if_pos hu], by unfold backS; rw [HP.out]; dsimp only; rw [if_pos hu]⟩
    have hun : (x.use != 0) = false := by simp [hu]
    clear hu
    have c7 := hX.blk.cell_ 7 (v := .map (some p.rp)) rfl
    go_upto_region 9 with (refine wpList_del_im rfl rfl _ _ _ _ rfl _ Try.underlying55 Try.underlying3 p.rp rfl hX.pieces id rfl ?_; intro W4 hM4 hg4)
    have hX4 := hX.del_piece hg4 hM4
    have hC4 : Chg p.has w W4 := hC.trans (.of_grown hg4 (by simp [Fp.has]))
    have hx4 := hx.chg (S := fun k => k = p.rp) (.of_grown hg4 rfl) (fun he => hX.pieces.blk_ne hx he.symm)
    clear c7 x7 hX hC hx hM4 hg4 hun
    obtain ⟨W, rfl⟩ : ∃ X : World, X = W4 := ⟨_, rfl⟩
    obtain ⟨t, ht⟩ : ∃ t : SS, t = { s with pieces := del s.pieces id } := ⟨_, rfl⟩
    rw [← ht] at hX4
    have HT := hide ht
    clear ht
    have c0 := hX4.blk.cell_ 0 (v := .int .i64 t.rules.minWidth) rfl
    have c1 := hX4.blk.cell_ 1 (v := .int .i64 t.rules.minLength) rfl
    have HWB2 : Hid (0 ≤ t.waste ∧ t.waste ≤ 1000000000000000) := by rw [HT.out]; exact HWB.out
    have HBF : Hid (backFn s id x = if x.width < t.rules.minWidth ∨ x.length < t.rules.minLength then { t with waste := t.waste + x.width * x.length } else { t with items := put t.items id (backItem s x) }) := by show _ = _; rw [HT.out]; rfl
    clear HWB
    have HWB := HWB2
    by_cases h1 : x.width < t.rules.minWidth
    · have z1 : decide (x.width < t.rules.minWidth) = true := decide_eq_true h1
      have HB2 : Hid (backFn s id x = { t with waste := t.waste + x.width * x.length }) := by show _ = _; rw [HBF.out, if_pos (.inl h1)]
      clear h1
      go_wp2_with fail
      have x0 := hx4.cell_ 0 rfl
      have x1 := hx4.cell_ 1 rfl
      have x2 := hx4.cell_ 2 rfl
      have x3 := hx4.cell_ 3 rfl
      have x4 := hx4.cell_ 4 rfl
      have x5 := hx4.cell_ 5 rfl
      have x6 := hx4.cell_ 6 rfl
      have x7 := hx4.cell_ 7 rfl
      refine wp_region_quiet (C := fun w' => ∃ u : Since W, w' = u.w) (by kernel_rfl) (by kernel_rfl) (Since.start W) ?_
      dsimp only
      have y_x0 := Since.cell x0
      have y_x1 := Since.cell x1
      have y_x2 := Since.cell x2
      have y_x3 := Since.cell x3
      have y_x4 := Since.cell x4
      have y_x5 := Since.cell x5
      have y_x6 := Since.cell x6
      have y_x7 := Since.cell x7
      have y_c0 := Since.cell c0
      have y_c1 := Since.cell c1
      clear x0 x1 x2 x3 x4 x5 x6 x7
      repeat (go_big_quiet_step ((fail)))
      refine wpQuiet_nil ?_
      rintro W ⟨⟨_, hb⟩, rfl⟩
      try dsimp only at hb ⊢
      replace c0 : W.cell? _ = _ := y_c0 ⟨W, hb⟩
      replace c1 : W.cell? _ = _ := y_c1 ⟨W, hb⟩
      clear y_x0 y_x1 y_x2 y_x3 y_x4 y_x5 y_x6 y_x7 y_c0 y_c1
      replace hX4 := StA.below hX4 hb
      replace hC4 := Chg.trans hC4 (Chg.of_below hb)
      replace hx4 := hx4.below hb hx4.lt
      clear hb
      have x0 := hx4.cell_ 0 rfl
      have x1 := hx4.cell_ 1 rfl
      have x2 := hx4.cell_ 2 rfl
      have x3 := hx4.cell_ 3 rfl
      have x4 := hx4.cell_ 4 rfl
      have x5 := hx4.cell_ 5 rfl
      have x6 := hx4.cell_ 6 rfl
      have x7 := hx4.cell_ 7 rfl
      clear x0 x1 x2 x3 x4 x5 x6 x7
      clear c0 c1
      try clear z1
      try clear z2
      have hX := hX4
      have hC := hC4
      have hx := hx4
      clear hX4 hC4 hx4
      have c12 := hX.blk.cell_ 12 (v := .int .i64 t.waste) rfl
      have e1 : IntKind.i64.wrap (x.width * x.length) = x.width * x.length := IntWalk.i64_in _ (by have := HAR.out; omega)
      have e2 : IntKind.i64.wrap (t.waste + x.width * x.length) = t.waste + x.width * x.length := IntWalk.i64_in _ (by have := HAR.out; have := HWB.out; omega)
      go_wp2_with fail
      have x0 := hx.cell_ 0 rfl
      have x1 := hx.cell_ 1 rfl
      have x2 := hx.cell_ 2 rfl
      have x3 := hx.cell_ 3 rfl
      have x4 := hx.cell_ 4 rfl
      have x5 := hx.cell_ 5 rfl
      have x6 := hx.cell_ 6 rfl
      have x7 := hx.cell_ 7 rfl
      refine wp_region_quiet_tail (C := fun w' => ∃ u : Since W, w' = u.w) 12 (by kernel_rfl) (by kernel_rfl) (Since.start W) ?_
      simp only [List.take_succ_cons, List.take_zero, List.drop_succ_cons, List.drop_zero]
      have y_x0 := Since.cell x0
      have y_x1 := Since.cell x1
      have y_x2 := Since.cell x2
      have y_x3 := Since.cell x3
      have y_x4 := Since.cell x4
      have y_x5 := Since.cell x5
      have y_x6 := Since.cell x6
      have y_x7 := Since.cell x7
      have y_c12 := Since.cell c12
      clear x0 x1 x2 x3 x4 x5 x6 x7
      repeat (go_big_quiet_step ((fail)))
      refine wpQuiet_nil ?_
      rintro W ⟨⟨_, hb⟩, rfl⟩
      try dsimp only at hb ⊢
      replace c12 : W.cell? _ = _ := y_c12 ⟨W, hb⟩
      clear y_x0 y_x1 y_x2 y_x3 y_x4 y_x5 y_x6 y_x7 y_c12
      replace hX := StA.below hX hb
      replace hC := Chg.trans hC (Chg.of_below hb)
      replace hx := hx.below hb hx.lt
      clear hb
      have x0 := hx.cell_ 0 rfl
      have x1 := hx.cell_ 1 rfl
      have x2 := hx.cell_ 2 rfl
      have x3 := hx.cell_ 3 rfl
      have x4 := hx.cell_ 4 rfl
      have x5 := hx.cell_ 5 rfl
      have x6 := hx.cell_ 6 rfl
      have x7 := hx.cell_ 7 rfl
      clear x0 x1 x2 x3 x4 x5 x6 x7
      go_upto_region 11 with (refine wpList_store_at rfl 3 _ _ rfl (.int .i64 (t.waste + x.width * x.length)) hX.blk rfl rfl (by kernel_rfl) rfl (by simp [storeCells_]) rfl ?_; intro W3 hB3 hc3)
      have hX3 := hX.upd_blk (s' := { t with waste := t.waste + x.width * x.length }) hc3 hB3 (by simp [storeCells_]) rfl rfl rfl rfl
      have hC3 : Chg p.has w W3 := hC.trans (hc3.mono fun k _ hk => .inl hk)
      have hx3 := hx.chg1 hc3 (hx.ne_ hX.blk (by decide))
      clear hX hC hx hB3 hc3 c12 e1 e2
      go_wp2_with fail
      go_ret
      rw [HE.out.1, HE.out.2, HB2.out]
      exact ⟨rfl, hX3, hC3⟩
    by_cases h2 : x.length < t.rules.minLength
    · have z1 : decide (x.width < t.rules.minWidth) = false := decide_eq_false h1
      have z2 : decide (x.length < t.rules.minLength) = true := decide_eq_true h2
      have HB2 : Hid (backFn s id x = { t with waste := t.waste + x.width * x.length }) := by show _ = _; rw [HBF.out, if_pos (.inr h2)]
      clear h1 h2
      go_wp2_with fail
      have x0 := hx4.cell_ 0 rfl
      have x1 := hx4.cell_ 1 rfl
      have x2 := hx4.cell_ 2 rfl
      have x3 := hx4.cell_ 3 rfl
      have x4 := hx4.cell_ 4 rfl
      have x5 := hx4.cell_ 5 rfl
      have x6 := hx4.cell_ 6 rfl
      have x7 := hx4.cell_ 7 rfl
      refine wp_region_quiet (C := fun w' => ∃ u : Since W, w' = u.w) (by kernel_rfl) (by kernel_rfl) (Since.start W) ?_
      dsimp only
      have y_x0 := Since.cell x0
      have y_x1 := Since.cell x1
      have y_x2 := Since.cell x2
      have y_x3 := Since.cell x3
      have y_x4 := Since.cell x4
      have y_x5 := Since.cell x5
      have y_x6 := Since.cell x6
      have y_x7 := Since.cell x7
      have y_c0 := Since.cell c0
      have y_c1 := Since.cell c1
      clear x0 x1 x2 x3 x4 x5 x6 x7
      repeat (go_big_quiet_step ((fail)))
      refine wpQuiet_nil ?_
      rintro W ⟨⟨_, hb⟩, rfl⟩
      try dsimp only at hb ⊢
      replace c0 : W.cell? _ = _ := y_c0 ⟨W, hb⟩
      replace c1 : W.cell? _ = _ := y_c1 ⟨W, hb⟩
      clear y_x0 y_x1 y_x2 y_x3 y_x4 y_x5 y_x6 y_x7 y_c0 y_c1
      replace hX4 := StA.below hX4 hb
      replace hC4 := Chg.trans hC4 (Chg.of_below hb)
      replace hx4 := hx4.below hb hx4.lt
      clear hb
      have x0 := hx4.cell_ 0 rfl
      have x1 := hx4.cell_ 1 rfl
      have x2 := hx4.cell_ 2 rfl
      have x3 := hx4.cell_ 3 rfl
      have x4 := hx4.cell_ 4 rfl
      have x5 := hx4.cell_ 5 rfl
      have x6 := hx4.cell_ 6 rfl
      have x7 := hx4.cell_ 7 rfl
      clear x0 x1 x2 x3 x4 x5 x6 x7
      clear c0 c1
      try clear z1
      try clear z2
      have hX := hX4
      have hC := hC4
      have hx := hx4
      clear hX4 hC4 hx4
      have c12 := hX.blk.cell_ 12 (v := .int .i64 t.waste) rfl
      have e1 : IntKind.i64.wrap (x.width * x.length) = x.width * x.length := IntWalk.i64_in _ (by have := HAR.out; omega)
      have e2 : IntKind.i64.wrap (t.waste + x.width * x.length) = t.waste + x.width * x.length := IntWalk.i64_in _ (by have := HAR.out; have := HWB.out; omega)
      go_wp2_with fail
      have x0 := hx.cell_ 0 rfl
      have x1 := hx.cell_ 1 rfl
      have x2 := hx.cell_ 2 rfl
      have x3 := hx.cell_ 3 rfl
      have x4 := hx.cell_ 4 rfl
      have x5 := hx.cell_ 5 rfl
      have x6 := hx.cell_ 6 rfl
      have x7 := hx.cell_ 7 rfl
      refine wp_region_quiet_tail (C := fun w' => ∃ u : Since W, w' = u.w) 12 (by kernel_rfl) (by kernel_rfl) (Since.start W) ?_
      simp only [List.take_succ_cons, List.take_zero, List.drop_succ_cons, List.drop_zero]
      have y_x0 := Since.cell x0
      have y_x1 := Since.cell x1
      have y_x2 := Since.cell x2
      have y_x3 := Since.cell x3
      have y_x4 := Since.cell x4
      have y_x5 := Since.cell x5
      have y_x6 := Since.cell x6
      have y_x7 := Since.cell x7
      have y_c12 := Since.cell c12
      clear x0 x1 x2 x3 x4 x5 x6 x7
      repeat (go_big_quiet_step ((fail)))
      refine wpQuiet_nil ?_
      rintro W ⟨⟨_, hb⟩, rfl⟩
      try dsimp only at hb ⊢
      replace c12 : W.cell? _ = _ := y_c12 ⟨W, hb⟩
      clear y_x0 y_x1 y_x2 y_x3 y_x4 y_x5 y_x6 y_x7 y_c12
      replace hX := StA.below hX hb
      replace hC := Chg.trans hC (Chg.of_below hb)
      replace hx := hx.below hb hx.lt
      clear hb
      have x0 := hx.cell_ 0 rfl
      have x1 := hx.cell_ 1 rfl
      have x2 := hx.cell_ 2 rfl
      have x3 := hx.cell_ 3 rfl
      have x4 := hx.cell_ 4 rfl
      have x5 := hx.cell_ 5 rfl
      have x6 := hx.cell_ 6 rfl
      have x7 := hx.cell_ 7 rfl
      clear x0 x1 x2 x3 x4 x5 x6 x7
      go_upto_region 11 with (refine wpList_store_at rfl 3 _ _ rfl (.int .i64 (t.waste + x.width * x.length)) hX.blk rfl rfl (by kernel_rfl) rfl (by simp [storeCells_]) rfl ?_; intro W3 hB3 hc3)
      have hX3 := hX.upd_blk (s' := { t with waste := t.waste + x.width * x.length }) hc3 hB3 (by simp [storeCells_]) rfl rfl rfl rfl
      have hC3 : Chg p.has w W3 := hC.trans (hc3.mono fun k _ hk => .inl hk)
      have hx3 := hx.chg1 hc3 (hx.ne_ hX.blk (by decide))
      clear hX hC hx hB3 hc3 c12 e1 e2
      go_wp2_with fail
      go_ret
      rw [HE.out.1, HE.out.2, HB2.out]
      exact ⟨rfl, hX3, hC3⟩
    · have z1 : decide (x.width < t.rules.minWidth) = false := decide_eq_false h1
      have z2 : decide (x.length < t.rules.minLength) = false := decide_eq_false h2
      have HB2 : Hid (backFn s id x = { t with items := put t.items id (backItem s x) }) := by show _ = _; rw [HBF.out, if_neg (by omega)]
      clear h1 h2
      go_wp2_with fail
      have x0 := hx4.cell_ 0 rfl
      have x1 := hx4.cell_ 1 rfl
      have x2 := hx4.cell_ 2 rfl
      have x3 := hx4.cell_ 3 rfl
      have x4 := hx4.cell_ 4 rfl
      have x5 := hx4.cell_ 5 rfl
      have x6 := hx4.cell_ 6 rfl
      have x7 := hx4.cell_ 7 rfl
      refine wp_region_quiet (C := fun w' => ∃ u : Since W, w' = u.w) (by kernel_rfl) (by kernel_rfl) (Since.start W) ?_
      dsimp only
      have y_x0 := Since.cell x0
      have y_x1 := Since.cell x1
      have y_x2 := Since.cell x2
      have y_x3 := Since.cell x3
      have y_x4 := Since.cell x4
      have y_x5 := Since.cell x5
      have y_x6 := Since.cell x6
      have y_x7 := Since.cell x7
      have y_c0 := Since.cell c0
      have y_c1 := Since.cell c1
      clear x0 x1 x2 x3 x4 x5 x6 x7
      repeat (go_big_quiet_step ((fail)))
      refine wpQuiet_nil ?_
      rintro W ⟨⟨_, hb⟩, rfl⟩
      try dsimp only at hb ⊢
      replace c0 : W.cell? _ = _ := y_c0 ⟨W, hb⟩
      replace c1 : W.cell? _ = _ := y_c1 ⟨W, hb⟩
      clear y_x0 y_x1 y_x2 y_x3 y_x4 y_x5 y_x6 y_x7 y_c0 y_c1
      replace hX4 := StA.below hX4 hb
      replace hC4 := Chg.trans hC4 (Chg.of_below hb)
      replace hx4 := hx4.below hb hx4.lt
      clear hb
      have x0 := hx4.cell_ 0 rfl
      have x1 := hx4.cell_ 1 rfl
      have x2 := hx4.cell_ 2 rfl
      have x3 := hx4.cell_ 3 rfl
      have x4 := hx4.cell_ 4 rfl
      have x5 := hx4.cell_ 5 rfl
      have x6 := hx4.cell_ 6 rfl
      have x7 := hx4.cell_ 7 rfl
      clear x0 x1 x2 x3 x4 x5 x6 x7
      clear c0 c1
      try clear z1
      try clear z2
      obtain ⟨kn, k1, k2, k3⟩ := HO.out.2.k
      have hmade : madeF s x.lot = kn.made := by unfold madeF; rw [k1]
      have HMD := hide hmade
      have hL4 : look t.lots x.lot = some kn := by rw [HT.out]; exact k1
      obtain ⟨kg, kc, km⟩ := kn
      have HLK : Hid (∀ w', Below W.heap.size W w' → (Instr.lookup 56 (.map (some p.rl)) (.int .i64 x.lot) false).run Try.prog w' = .ok (.agg #[.int .i64 kg, .int .i64 kc, .int .i64 km]) w') := fun w' hb => (hX4.lots.below hb hX4.lots.lt).look_yes (P := Try.prog) (t := 56) Try.underlying56 Try.underlying3 (look_kv_some hL4) false
      clear k1 k2 k3 hmade hL4
      have c6 := hX4.blk.cell_ 6 (v := .map (some p.ri)) rfl
      have c9 := hX4.blk.cell_ 9 (v := .map (some p.rl)) rfl
      have hfd : ∀ w : World, (Instr.field 61 (.agg #[.int .i64 kg, .int .i64 kc, .int .i64 km]) 2).run Try.prog w = .ok (.int .i64 km) w := fun _ => by kernel_rfl
      go_wp2_with fail
      have x0 := hx4.cell_ 0 rfl
      have x1 := hx4.cell_ 1 rfl
      have x2 := hx4.cell_ 2 rfl
      have x3 := hx4.cell_ 3 rfl
      have x4 := hx4.cell_ 4 rfl
      have x5 := hx4.cell_ 5 rfl
      have x6 := hx4.cell_ 6 rfl
      have x7 := hx4.cell_ 7 rfl
      refine wp_region_quiet_tail (C := fun w' => ∃ u : Since W, w' = u.w) 28 (by kernel_rfl) (by kernel_rfl) (Since.start W) ?_
      simp only [List.take_succ_cons, List.take_zero, List.drop_succ_cons, List.drop_zero]
      have y_x0 := Since.cell x0
      have y_x1 := Since.cell x1
      have y_x2 := Since.cell x2
      have y_x3 := Since.cell x3
      have y_x4 := Since.cell x4
      have y_x5 := Since.cell x5
      have y_x6 := Since.cell x6
      have y_x7 := Since.cell x7
      have y_c6 := Since.cell c6
      have y_c9 := Since.cell c9
      have y_HLK := fun u : Since W => HLK.out u.w u.h
      clear x0 x1 x2 x3 x4 x5 x6 x7
      repeat (go_big_quiet_step ((fail)))
      refine wpQuiet_nil ?_
      rintro W ⟨⟨_, hb⟩, rfl⟩
      try dsimp only at hb ⊢
      replace c6 : W.cell? _ = _ := y_c6 ⟨W, hb⟩
      replace c9 : W.cell? _ = _ := y_c9 ⟨W, hb⟩
      clear y_x0 y_x1 y_x2 y_x3 y_x4 y_x5 y_x6 y_x7 y_c6 y_c9 y_HLK
      replace hX4 := StA.below hX4 hb
      replace hC4 := Chg.trans hC4 (Chg.of_below hb)
      replace hx4 := hx4.below hb hx4.lt
      clear hb
      have x0 := hx4.cell_ 0 rfl
      have x1 := hx4.cell_ 1 rfl
      have x2 := hx4.cell_ 2 rfl
      have x3 := hx4.cell_ 3 rfl
      have x4 := hx4.cell_ 4 rfl
      have x5 := hx4.cell_ 5 rfl
      have x6 := hx4.cell_ 6 rfl
      have x7 := hx4.cell_ 7 rfl
      clear x0 x1 x2 x3 x4 x5 x6 x7
      clear HLK c6 c9
      obtain ⟨MI, hM, hZ⟩ := hX4.items
      go_wp2_with (refine wpList_put_im rfl rfl _ _ _ _ rfl _ _ Try.underlying54 Try.underlying3 p.ri rfl hM id (.agg #[.int .i64 x.id, .int .i64 x.root, .int .i64 x.grade, .int .i64 x.colour, .int .i64 x.lot, .int .i64 km, .int .i64 x.width, .int .i64 x.length, .slice none 0 0]) rfl rfl ?_; intro W5 hM5 hg5)
      have hX5 := hX4.put_item (x := backItem s x) hg5 hZ hM5 (by
        have h9 := ItV.nil_ W (x := backItem s x) rfl none 0
        have e9 : (backItem s x).valAt none 0 = .agg #[.int .i64 x.id, .int .i64 x.root, .int .i64 x.grade, .int .i64 x.colour, .int .i64 x.lot, .int .i64 km, .int .i64 x.width, .int .i64 x.length, .slice none 0 0] := by
          show Value.agg #[_, _, _, _, _, .int .i64 (madeF s x.lot), _, _, _] = _
          rw [HMD.out]; rfl
        rw [e9] at h9; exact h9)
      have hC5 : Chg p.has w W5 := hC4.trans (.of_grown hg5 (by simp [Fp.has]))
      go_wp2_with fail
      go_ret
      rw [HE.out.1, HE.out.2, HB2.out]
      exact ⟨rfl, hX5, hC5⟩
end Go.Proofs.Ytpeokpnjnmgloaa

/- validNeed: the walk. -/
namespace Go.Proofs.Ytpeokpnjnmgloaa
open Go Go.RowKit
def needB (n : Need) (day : Int) : Bool := inB 1 n.grade 3 && (inB 1 n.colour 7 && (inB 1 n.width 150 && (inB 1 n.length 6000 && (inB 1 n.count 50 && inB 0 day 100000))))
theorem needB_ok {n : Need} {day : Int} (h : needB n day = true) : NeedOk n ∧ (0 ≤ day ∧ day ≤ 100000) := by
  unfold needB at h
  simp only [Bool.and_eq_true, inB_iff] at h
  exact ⟨⟨h.1, h.2.2.1, h.2.2.2.1, h.2.2.2.2.1⟩, h.2.2.2.2.2⟩
set_option maxRecDepth 100000 in
set_option maxHeartbeats 2000000 in
theorem validNeed_any (n : Need) (day : Int) (w : World) : Calls Try.prog 29 #[.agg #[.int .i64 n.grade, .int .i64 n.colour, .int .i64 n.width, .int .i64 n.length, .int .i64 n.count], .int .i64 day] w fun e w' => e = .returned (.bool (needB n day)) ∧ Below w.heap.size w w' := by
  have hn := Blk.new w 38 #[.int .i64 n.grade, .int .i64 n.colour, .int .i64 n.width, .int .i64 n.length, .int .i64 n.count]
  have hB := (Below.refl w.heap.size w).alloc (Nat.le_refl _) (.cells #[.int .i64 n.grade, .int .i64 n.colour, .int .i64 n.width, .int .i64 n.length, .int .i64 n.count] 38)
  go_enter Try.func29, Try.ntmps29
  go_upto_region 1 with fail
  generalize w.alloc (.cells #[.int .i64 n.grade, .int .i64 n.colour, .int .i64 n.width, .int .i64 n.length, .int .i64 n.count] 38) = W at *
  have y0 := hn.cell_ 0 (v := .int .i64 n.grade) rfl
  have y1 := hn.cell_ 1 (v := .int .i64 n.colour) rfl
  have y2 := hn.cell_ 2 (v := .int .i64 n.width) rfl
  have y3 := hn.cell_ 3 (v := .int .i64 n.length) rfl
  have y4 := hn.cell_ 4 (v := .int .i64 n.count) rfl
  clear hn
  cases h1 : inB 1 n.grade 3 with
  | false =>
    have HE : Hid (needB n day = false) := by show _ = _; unfold needB; rw [h1]; rfl
    go_wp2_with fail
    refine (within_is 1 n.grade 3 _ h1).mono ?_
    rintro e W' ⟨rfl, rfl⟩
    clear h1
    go_wp2_with fail
    go_ret
    exact ⟨by rw [HE.out]; rfl, hB⟩
  | true =>
    go_wp2_with fail
    refine (within_is 1 n.grade 3 _ h1).mono ?_
    rintro e W' ⟨rfl, rfl⟩
    have H1 := hide h1
    clear h1
    cases h2 : inB 1 n.colour 7 with
    | false =>
      have HE : Hid (needB n day = false) := by show _ = _; unfold needB; rw [H1.out, h2]; rfl
      go_wp2_with fail
      refine (within_is 1 n.colour 7 _ h2).mono ?_
      rintro e W' ⟨rfl, rfl⟩
      clear h2
      go_wp2_with fail
      go_ret
      exact ⟨by rw [HE.out]; rfl, hB⟩
    | true =>
      go_wp2_with fail
      refine (within_is 1 n.colour 7 _ h2).mono ?_
      rintro e W' ⟨rfl, rfl⟩
      have H2 := hide h2
      clear h2
      cases h3 : inB 1 n.width 150 with
      | false =>
        have HE : Hid (needB n day = false) := by show _ = _; unfold needB; rw [H1.out, H2.out, h3]; rfl
        go_wp2_with fail
        refine (within_is 1 n.width 150 _ h3).mono ?_
        rintro e W' ⟨rfl, rfl⟩
        clear h3
        go_wp2_with fail
        go_ret
        exact ⟨by rw [HE.out]; rfl, hB⟩
      | true =>
        go_wp2_with fail
        refine (within_is 1 n.width 150 _ h3).mono ?_
        rintro e W' ⟨rfl, rfl⟩
        have H3 := hide h3
        clear h3
        cases h4 : inB 1 n.length 6000 with
        | false =>
          have HE : Hid (needB n day = false) := by show _ = _; unfold needB; rw [H1.out, H2.out, H3.out, h4]; rfl
          go_wp2_with fail
          refine (within_is 1 n.length 6000 _ h4).mono ?_
          rintro e W' ⟨rfl, rfl⟩
          clear h4
          go_wp2_with fail
          go_ret
          exact ⟨by rw [HE.out]; rfl, hB⟩
        | true =>
          go_wp2_with fail
          refine (within_is 1 n.length 6000 _ h4).mono ?_
          rintro e W' ⟨rfl, rfl⟩
          have H4 := hide h4
          clear h4
          cases h5 : inB 1 n.count 50 with
          | false =>
            have HE : Hid (needB n day = false) := by show _ = _; unfold needB; rw [H1.out, H2.out, H3.out, H4.out, h5]; rfl
            go_wp2_with fail
            refine (within_is 1 n.count 50 _ h5).mono ?_
            rintro e W' ⟨rfl, rfl⟩
            clear h5
            go_wp2_with fail
            go_ret
            exact ⟨by rw [HE.out]; rfl, hB⟩
          | true =>
            go_wp2_with fail
            refine (within_is 1 n.count 50 _ h5).mono ?_
            rintro e W' ⟨rfl, rfl⟩
            have HE : Hid (needB n day = inB 0 day 100000) := by show _ = _; unfold needB; rw [H1.out, H2.out, H3.out, H4.out, h5]; rfl
            clear h5
            obtain ⟨b6, h6⟩ : ∃ b, inB 0 day 100000 = b := ⟨_, rfl⟩
            have H6 := hide h6
            clear h6
            go_wp2_with fail
            refine (within_is 0 day 100000 _ H6.out).mono ?_
            rintro e W' ⟨rfl, rfl⟩
            go_wp2_with fail
            go_ret
            exact ⟨by rw [HE.out, H6.out]; rfl, hB⟩
theorem validNeed_is (n : Need) (day : Int) (w : World) {b : Bool} (h : needB n day = b) : Calls Try.prog 29 #[.agg #[.int .i64 n.grade, .int .i64 n.colour, .int .i64 n.width, .int .i64 n.length, .int .i64 n.count], .int .i64 day] w fun e w' => e = .returned (.bool b) ∧ Below w.heap.size w w' := by
  subst h; exact validNeed_any n day w
end Go.Proofs.Ytpeokpnjnmgloaa

/- What the search for the best item holds, and where an item's faults lie: plain. -/
namespace Go.Proofs.Ytpeokpnjnmgloaa
open Go Go.RowKit
def zS : Sheet := ⟨0, 0, 0, 0, 0, 0, 0, 0, []⟩
/-- the best of the items that are not in L -/
def BestOk (s : SS) (n : Need) (lot day : Int) (L : List (Int × Value)) : Option Sheet → Prop
  | none => ∀ q ∈ s.items, (∃ v, (q.1, v) ∈ L) ∨ candF s.rules n lot day q.2 = false
  | some b => (b.id, b) ∈ s.items ∧ candF s.rules n lot day b = true ∧ ∀ q ∈ s.items, candF s.rules n lot day q.2 = true → (∃ v, (q.1, v) ∈ L) ∨ lessS q.2 b = false
section
variable {s : SS} {n : Need} {lot day : Int} {L L1 L2 MI : List (Int × Value)} {o : Option Sheet} {k : Int} {v : Value} {x : Sheet} {w : World}
theorem best_start {R : Sheet → Value → Prop} (hz : Zip R s.items MI) : BestOk s n lot day MI none := fun q hq => by
  obtain ⟨i, hi⟩ := List.getElem?_of_mem hq
  have hl : i < MI.length := by rw [hz.1]; exact (List.getElem?_eq_some_iff.1 hi).1
  have := hz.2 i q MI[i] hi (List.getElem?_eq_getElem hl)
  exact .inl ⟨MI[i].2, by rw [this.1]; exact List.getElem_mem hl⟩
theorem best_end (h : BestOk s n lot day [] o) : Chosen s n lot day o := by
  cases o with
  | none => exact fun q hq => (h q hq).resolve_left fun ⟨v, hv⟩ => by cases hv
  | some b => exact ⟨h.1, h.2.1, fun q hq hc => (h.2.2 q hq hc).resolve_left fun ⟨v, hv⟩ => by cases hv⟩
theorem left_or {q : Int × Sheet} (hki : NodupK s.items) (hx : (k, x) ∈ s.items) (hq : q ∈ s.items) (h : ∃ u, (q.1, u) ∈ L1 ++ (k, v) :: L2) : (∃ u, (q.1, u) ∈ L1 ++ L2) ∨ q.2 = x := by
  obtain ⟨u, hu⟩ := h
  rcases List.mem_append.1 hu with h1 | h1
  · exact .inl ⟨u, List.mem_append_left _ h1⟩
  · rcases List.mem_cons.1 h1 with h2 | h2
    · injection h2 with h3 h4
      have l1 := look_mem hki hx
      have l2 := look_mem hki (k := q.1) (v := q.2) hq
      rw [h3, l1] at l2
      injection l2 with l2
      exact .inr l2.symm
    · exact .inl ⟨u, List.mem_append_right _ h2⟩
theorem best_skip (hki : NodupK s.items) (hx : (k, x) ∈ s.items) (hc : candF s.rules n lot day x = false) (h : BestOk s n lot day (L1 ++ (k, v) :: L2) o) : BestOk s n lot day (L1 ++ L2) o := by
  cases o with
  | none =>
    intro q hq
    rcases h q hq with h1 | h1
    · rcases left_or hki hx hq h1 with h2 | h2
      · exact .inl h2
      · exact .inr (by rw [h2]; exact hc)
    · exact .inr h1
  | some b =>
    refine ⟨h.1, h.2.1, fun q hq hqc => ?_⟩
    rcases h.2.2 q hq hqc with h1 | h1
    · rcases left_or hki hx hq h1 with h2 | h2
      · exact .inl h2
      · rw [h2, hc] at hqc; cases hqc
    · exact .inr h1
theorem best_keep {b : Sheet} (hki : NodupK s.items) (hx : (k, x) ∈ s.items) (hl : lessS x b = false) (h : BestOk s n lot day (L1 ++ (k, v) :: L2) (some b)) : BestOk s n lot day (L1 ++ L2) (some b) := by
  refine ⟨h.1, h.2.1, fun q hq hqc => ?_⟩
  rcases h.2.2 q hq hqc with h1 | h1
  · rcases left_or hki hx hq h1 with h2 | h2
    · exact .inl h2
    · exact .inr (by rw [h2]; exact hl)
  · exact .inr h1
theorem less_irr (a : Sheet) : lessS a a = false := by unfold lessS; simp
theorem less_asymm {a b : Sheet} (h : lessS a b = true) : lessS b a = false := by
  unfold lessS at h ⊢
  simp only [Bool.or_eq_true, Bool.and_eq_true, decide_eq_true_eq, Bool.or_eq_false_iff, Bool.and_eq_false_iff, decide_eq_false_iff_not] at h ⊢
  omega
theorem best_new (hki : NodupK s.items) (hx : (k, x) ∈ s.items) (hid : x.id = k) (hc : candF s.rules n lot day x = true) (ho : ∀ b, o = some b → lessS x b = true) (h : BestOk s n lot day (L1 ++ (k, v) :: L2) o) : BestOk s n lot day (L1 ++ L2) (some x) := by
  refine ⟨by rw [hid]; exact hx, hc, fun q hq hqc => ?_⟩
  cases o with
  | none =>
    rcases h q hq with h1 | h1
    · rcases left_or hki hx hq h1 with h2 | h2
      · exact .inl h2
      · exact .inr (by rw [h2]; exact less_irr x)
    · rw [h1] at hqc; cases hqc
  | some b =>
    rcases h.2.2 q hq hqc with h1 | h1
    · rcases left_or hki hx hq h1 with h2 | h2
      · exact .inl h2
      · exact .inr (by rw [h2]; exact less_irr x)
    · exact .inr (less_trans (less_asymm (ho b rfl)) h1)
theorem zip_mem {R : Sheet → Value → Prop} (hz : Zip R s.items MI) (h : (k, v) ∈ MI) : ∃ x, (k, x) ∈ s.items ∧ R x v := by
  obtain ⟨i, hi⟩ := List.getElem?_of_mem h
  have hl : i < s.items.length := by rw [← hz.1]; exact (List.getElem?_eq_some_iff.1 hi).1
  have := hz.2 i s.items[i] (k, v) (List.getElem?_eq_getElem hl) hi
  refine ⟨s.items[i].2, ?_, this.2⟩
  have e : (k, s.items[i].2) = s.items[i] := Prod.ext this.1.symm rfl
  rw [e]; exact List.getElem_mem hl
theorem ItV.zero (w : World) : ItV w zS (zS.valAt none 0) := ⟨none, 0, rfl, fun i y hy => by simp [zS] at hy, fun h => absurd rfl h⟩
theorem spans_bd {len last : Int} : ∀ {fs : List Pt}, spansOk len last fs = true → 0 ≤ last → ∀ q ∈ fs, 0 ≤ q.a ∧ q.a ≤ len ∧ 0 ≤ q.b ∧ q.b ≤ len
  | [], _, _, q, hq => by cases hq
  | f :: r, h, h0, q, hq => by
    unfold spansOk at h
    simp only [Bool.and_eq_true, Bool.not_eq_true', Bool.or_eq_false_iff, decide_eq_false_iff_not] at h
    obtain ⟨⟨⟨a1, a2⟩, a3⟩, a4⟩ := h
    rcases List.mem_cons.1 hq with rfl | hq
    · omega
    · exact spans_bd a4 (by omega) q hq
end
end Go.Proofs.Ytpeokpnjnmgloaa

/- The bounds of what stands between the steps of a cut: plain. -/
namespace Go.Proofs.Ytpeokpnjnmgloaa
theorem add_bd {s : SS} {x : Sheet} {up m : Int} (hx : 0 ≤ x.width * x.length ∧ x.width * x.length ≤ 900000) : (s.waste ≤ (addF s x up m).waste ∧ (addF s x up m).waste ≤ s.waste + 900000) ∧ (s.last ≤ (addF s x up m).last ∧ (addF s x up m).last ≤ s.last + 1) ∧ (addF s x up m).rules = s.rules := by
  unfold addF
  split
  · exact ⟨⟨by show s.waste ≤ s.waste + x.width * x.length; omega, by show s.waste + x.width * x.length ≤ _; omega⟩, ⟨Int.le_refl _, by show s.last ≤ _; omega⟩, rfl⟩
  · exact ⟨⟨Int.le_refl _, by show s.waste ≤ _; omega⟩, ⟨by show s.last ≤ s.last + 1; omega, Int.le_refl _⟩, rfl⟩
structure CutBd (s : SS) (n : Need) (b : Sheet) (q : Int) : Prop where
  aA : 0 ≤ b.width * q ∧ b.width * q ≤ 900000
  aB : 0 ≤ (b.width - n.width) * n.length ∧ (b.width - n.width) * n.length ≤ 900000
  aC : 0 ≤ b.width * (b.length - (q + n.length)) ∧ b.width * (b.length - (q + n.length)) ≤ 900000
  wA : 0 ≤ (cutA s b q).waste ∧ (cutA s b q).waste ≤ 1100000000000000
  wB : 0 ≤ (cutB s n b q).waste ∧ (cutB s n b q).waste ≤ 1200000000000000
  w0 : 0 ≤ s.waste ∧ s.waste ≤ 1000000000000000
  l0 : 0 ≤ s.last ∧ s.last ≤ 1000000000000
  lA : 0 ≤ (cutA s b q).last ∧ (cutA s b q).last ≤ 1000000000001
  lB : 0 ≤ (cutB s n b q).last ∧ (cutB s n b q).last ≤ 1000000000002
  lC : 0 ≤ (cutC s n b q).last ∧ (cutC s n b q).last ≤ 1000000000002
  rA : (cutA s b q).rules = s.rules
  rB : (cutB s n b q).rules = s.rules
theorem rest_last (s : SS) (x : Sheet) : (restF s x).last = s.last := by unfold restF; split <;> rfl
theorem cut_bd {s : SS} (h : Inv s) (f : Few s) {n : Need} (hn : NeedOk n) {b : Sheet} (ho : ItemOk s b) (hw : n.width ≤ b.width) {q : Int} (hq : 0 ≤ q ∧ q ≤ b.length - n.length) : CutBd s n b q := by
  have g1 := ho.w
  have g2 := ho.l
  have g3 := hn.w
  have g4 := hn.l
  have a1 := mul_le_mul0 (a := b.width) (b := 150) (c := q) (e := 6000) (by omega) (by omega) (by omega) (by omega)
  have a2 := mul_le_mul0 (a := b.width - n.width) (b := 150) (c := n.length) (e := 6000) (by omega) (by omega) (by omega) (by omega)
  have a3 := mul_le_mul0 (a := b.width) (b := 150) (c := b.length - (q + n.length)) (e := 6000) (by omega) (by omega) (by omega) (by omega)
  have h0 := waste_bd h f
  have h1 := h.la
  have h2 := f.la
  obtain ⟨b1, b2, b3⟩ := add_bd (s := { s with items := del s.items b.id }) (x := { b with length := q, faults := partF b.faults 0 q }) (up := b.id) (m := 1) a1
  have b1 : s.waste ≤ (cutA s b q).waste ∧ (cutA s b q).waste ≤ s.waste + 900000 := b1
  have b2 : s.last ≤ (cutA s b q).last ∧ (cutA s b q).last ≤ s.last + 1 := b2
  obtain ⟨c1, c2, c3⟩ := add_bd (s := cutA s b q) (x := { b with width := b.width - n.width, length := n.length, faults := [] }) (up := b.id) (m := s.rules.minWidth) a2
  have c1 : (cutA s b q).waste ≤ (cutB s n b q).waste ∧ (cutB s n b q).waste ≤ (cutA s b q).waste + 900000 := c1
  have c2 : (cutA s b q).last ≤ (cutB s n b q).last ∧ (cutB s n b q).last ≤ (cutA s b q).last + 1 := c2
  have d : (cutC s n b q).last = (cutB s n b q).last := rest_last _ _
  exact ⟨a1, a2, a3, by omega, by omega, h0, by omega, by omega, by omega, by omega, b3, c3.trans b3⟩
end Go.Proofs.Ytpeokpnjnmgloaa

/- tooOld, usable, add: the walks. -/
namespace Go.Proofs.Ytpeokpnjnmgloaa
open Go Go.RowKit
set_option maxRecDepth 100000 in
set_option maxHeartbeats 2000000 in
theorem old_any (p : Fp) (s : SS) (x : Sheet) (A : Option Addr) (c : Nat) (day : Int) (w : World) (hX : StA w p s) (hg : 1 ≤ x.grade ∧ x.grade ≤ 3) (hm : 0 ≤ x.made ∧ x.made ≤ 100000) (hd : 0 ≤ day ∧ day ≤ 100000) :
    Calls Try.prog 33 #[.pointer (some ⟨p.g, 0, none⟩), .agg #[.int .i64 x.id, .int .i64 x.root, .int .i64 x.grade, .int .i64 x.colour, .int .i64 x.lot, .int .i64 x.made, .int .i64 x.width, .int .i64 x.length, .slice A x.faults.length c], .int .i64 day] w fun e w' => e = .returned (.bool (oldF s.rules x day)) ∧ Below w.heap.size w w' := by
  obtain ⟨id, root, gr, co, lo, ma, wi, le, fs⟩ := x
  dsimp only at hg hm ⊢
  have hx := Blk.new w 65 #[.int .i64 id, .int .i64 root, .int .i64 gr, .int .i64 co, .int .i64 lo, .int .i64 ma, .int .i64 wi, .int .i64 le, .slice A fs.length c]
  have hB := (Below.refl w.heap.size w).alloc (Nat.le_refl _) (.cells #[.int .i64 id, .int .i64 root, .int .i64 gr, .int .i64 co, .int .i64 lo, .int .i64 ma, .int .i64 wi, .int .i64 le, .slice A fs.length c] 65)
  replace hX := hX.below hB
  go_enter Try.func33, Try.ntmps33
  go_upto_region 1 with fail
  generalize w.alloc (.cells #[.int .i64 id, .int .i64 root, .int .i64 gr, .int .i64 co, .int .i64 lo, .int .i64 ma, .int .i64 wi, .int .i64 le, .slice A fs.length c] 65) = W at *
  have c2 := hX.blk.cell_ 2 (v := .int .i64 s.rules.l0) rfl
  have c3 := hX.blk.cell_ 3 (v := .int .i64 s.rules.l1) rfl
  have c4 := hX.blk.cell_ 4 (v := .int .i64 s.rules.l2) rfl
  have e1 : IntKind.i64.wrap (day - ma) = day - ma := IntWalk.i64_in _ (by omega)
  rcases (show gr = 1 ∨ gr = 2 ∨ gr = 3 by omega) with rfl | rfl | rfl
  · have HV : Hid (oldF s.rules ⟨id, root, 1, co, lo, ma, wi, le, fs⟩ day = decide (s.rules.l0 < day - ma)) := by show _ = _; unfold oldF lifeF; simp
    go_wp2_with fail
    have x0 := hx.cell_ 0 rfl
    have x1 := hx.cell_ 1 rfl
    have x2 := hx.cell_ 2 rfl
    have x3 := hx.cell_ 3 rfl
    have x4 := hx.cell_ 4 rfl
    have x5 := hx.cell_ 5 rfl
    have x6 := hx.cell_ 6 rfl
    have x7 := hx.cell_ 7 rfl
    have x8 := hx.cell_ 8 rfl
    refine wp_region_quiet (C := fun w' => ∃ u : Since W, w' = u.w) (by kernel_rfl) (by kernel_rfl) (Since.start W) ?_
    dsimp only
    have y_x0 := Since.cell x0
    have y_x1 := Since.cell x1
    have y_x2 := Since.cell x2
    have y_x3 := Since.cell x3
    have y_x4 := Since.cell x4
    have y_x5 := Since.cell x5
    have y_x6 := Since.cell x6
    have y_x7 := Since.cell x7
    have y_x8 := Since.cell x8
    have y_c2 := Since.cell c2
    have y_c3 := Since.cell c3
    have y_c4 := Since.cell c4
    clear x0 x1 x2 x3 x4 x5 x6 x7 x8
    repeat (go_big_quiet_step ((fail)))
    refine wpQuiet_nil ?_
    rintro W ⟨⟨_, hb⟩, rfl⟩
    try dsimp only at hb ⊢
    replace c2 : W.cell? _ = _ := y_c2 ⟨W, hb⟩
    replace c3 : W.cell? _ = _ := y_c3 ⟨W, hb⟩
    replace c4 : W.cell? _ = _ := y_c4 ⟨W, hb⟩
    clear y_x0 y_x1 y_x2 y_x3 y_x4 y_x5 y_x6 y_x7 y_x8 y_c2 y_c3 y_c4
    replace hx := hx.below hb hx.lt
    replace hX := StA.below hX hb
    replace hB := Below.trans hB (Below.mono hb (Below.size hB))
    clear hb
    have x0 := hx.cell_ 0 rfl
    have x1 := hx.cell_ 1 rfl
    have x2 := hx.cell_ 2 rfl
    have x3 := hx.cell_ 3 rfl
    have x4 := hx.cell_ 4 rfl
    have x5 := hx.cell_ 5 rfl
    have x6 := hx.cell_ 6 rfl
    have x7 := hx.cell_ 7 rfl
    have x8 := hx.cell_ 8 rfl
    clear x0 x1 x2 x3 x4 x5 x6 x7 x8
    go_wp2_with fail
    go_ret
    exact ⟨by rw [HV.out]; rfl, hB⟩
  · have HV : Hid (oldF s.rules ⟨id, root, 2, co, lo, ma, wi, le, fs⟩ day = decide (s.rules.l1 < day - ma)) := by show _ = _; unfold oldF lifeF; simp
    go_wp2_with fail
    have x0 := hx.cell_ 0 rfl
    have x1 := hx.cell_ 1 rfl
    have x2 := hx.cell_ 2 rfl
    have x3 := hx.cell_ 3 rfl
    have x4 := hx.cell_ 4 rfl
    have x5 := hx.cell_ 5 rfl
    have x6 := hx.cell_ 6 rfl
    have x7 := hx.cell_ 7 rfl
    have x8 := hx.cell_ 8 rfl
    refine wp_region_quiet (C := fun w' => ∃ u : Since W, w' = u.w) (by kernel_rfl) (by kernel_rfl) (Since.start W) ?_
    dsimp only
    have y_x0 := Since.cell x0
    have y_x1 := Since.cell x1
    have y_x2 := Since.cell x2
    have y_x3 := Since.cell x3
    have y_x4 := Since.cell x4
    have y_x5 := Since.cell x5
    have y_x6 := Since.cell x6
    have y_x7 := Since.cell x7
    have y_x8 := Since.cell x8
    have y_c2 := Since.cell c2
    have y_c3 := Since.cell c3
    have y_c4 := Since.cell c4
    clear x0 x1 x2 x3 x4 x5 x6 x7 x8
    repeat (go_big_quiet_step ((fail)))
    refine wpQuiet_nil ?_
    rintro W ⟨⟨_, hb⟩, rfl⟩
    try dsimp only at hb ⊢
    replace c2 : W.cell? _ = _ := y_c2 ⟨W, hb⟩
    replace c3 : W.cell? _ = _ := y_c3 ⟨W, hb⟩
    replace c4 : W.cell? _ = _ := y_c4 ⟨W, hb⟩
    clear y_x0 y_x1 y_x2 y_x3 y_x4 y_x5 y_x6 y_x7 y_x8 y_c2 y_c3 y_c4
    replace hx := hx.below hb hx.lt
    replace hX := StA.below hX hb
    replace hB := Below.trans hB (Below.mono hb (Below.size hB))
    clear hb
    have x0 := hx.cell_ 0 rfl
    have x1 := hx.cell_ 1 rfl
    have x2 := hx.cell_ 2 rfl
    have x3 := hx.cell_ 3 rfl
    have x4 := hx.cell_ 4 rfl
    have x5 := hx.cell_ 5 rfl
    have x6 := hx.cell_ 6 rfl
    have x7 := hx.cell_ 7 rfl
    have x8 := hx.cell_ 8 rfl
    clear x0 x1 x2 x3 x4 x5 x6 x7 x8
    go_wp2_with fail
    go_ret
    exact ⟨by rw [HV.out]; rfl, hB⟩
  · have HV : Hid (oldF s.rules ⟨id, root, 3, co, lo, ma, wi, le, fs⟩ day = decide (s.rules.l2 < day - ma)) := by show _ = _; unfold oldF lifeF; simp
    go_wp2_with fail
    have x0 := hx.cell_ 0 rfl
    have x1 := hx.cell_ 1 rfl
    have x2 := hx.cell_ 2 rfl
    have x3 := hx.cell_ 3 rfl
    have x4 := hx.cell_ 4 rfl
    have x5 := hx.cell_ 5 rfl
    have x6 := hx.cell_ 6 rfl
    have x7 := hx.cell_ 7 rfl
    have x8 := hx.cell_ 8 rfl
    refine wp_region_quiet (C := fun w' => ∃ u : Since W, w' = u.w) (by kernel_rfl) (by kernel_rfl) (Since.start W) ?_
    dsimp only
    have y_x0 := Since.cell x0
    have y_x1 := Since.cell x1
    have y_x2 := Since.cell x2
    have y_x3 := Since.cell x3
    have y_x4 := Since.cell x4
    have y_x5 := Since.cell x5
    have y_x6 := Since.cell x6
    have y_x7 := Since.cell x7
    have y_x8 := Since.cell x8
    have y_c2 := Since.cell c2
    have y_c3 := Since.cell c3
    have y_c4 := Since.cell c4
    clear x0 x1 x2 x3 x4 x5 x6 x7 x8
    repeat (go_big_quiet_step ((fail)))
    refine wpQuiet_nil ?_
    rintro W ⟨⟨_, hb⟩, rfl⟩
    try dsimp only at hb ⊢
    replace c2 : W.cell? _ = _ := y_c2 ⟨W, hb⟩
    replace c3 : W.cell? _ = _ := y_c3 ⟨W, hb⟩
    replace c4 : W.cell? _ = _ := y_c4 ⟨W, hb⟩
    clear y_x0 y_x1 y_x2 y_x3 y_x4 y_x5 y_x6 y_x7 y_x8 y_c2 y_c3 y_c4
    replace hx := hx.below hb hx.lt
    replace hX := StA.below hX hb
    replace hB := Below.trans hB (Below.mono hb (Below.size hB))
    clear hb
    have x0 := hx.cell_ 0 rfl
    have x1 := hx.cell_ 1 rfl
    have x2 := hx.cell_ 2 rfl
    have x3 := hx.cell_ 3 rfl
    have x4 := hx.cell_ 4 rfl
    have x5 := hx.cell_ 5 rfl
    have x6 := hx.cell_ 6 rfl
    have x7 := hx.cell_ 7 rfl
    have x8 := hx.cell_ 8 rfl
    clear x0 x1 x2 x3 x4 x5 x6 x7 x8
    go_wp2_with fail
    go_ret
    exact ⟨by rw [HV.out]; rfl, hB⟩
theorem old_is (p : Fp) (s : SS) (x : Sheet) (A : Option Addr) (c : Nat) (day : Int) (w : World) (hX : StA w p s) (hg : 1 ≤ x.grade ∧ x.grade ≤ 3) (hm : 0 ≤ x.made ∧ x.made ≤ 100000) (hd : 0 ≤ day ∧ day ≤ 100000) {v : Bool} (h : oldF s.rules x day = v) :
    Calls Try.prog 33 #[.pointer (some ⟨p.g, 0, none⟩), .agg #[.int .i64 x.id, .int .i64 x.root, .int .i64 x.grade, .int .i64 x.colour, .int .i64 x.lot, .int .i64 x.made, .int .i64 x.width, .int .i64 x.length, .slice A x.faults.length c], .int .i64 day] w fun e w' => e = .returned (.bool v) ∧ Below w.heap.size w w' := by
  subst h; exact old_any p s x A c day w hX hg hm hd
set_option maxRecDepth 100000 in
set_option maxHeartbeats 2000000 in
theorem usable_any (p : Fp) (s : SS) (x : Sheet) (A : Option Addr) (c : Nat) (day : Int) (w : World) (hX : StA w p s) (hg : 1 ≤ x.grade ∧ x.grade ≤ 3) (hm : 0 ≤ x.made ∧ x.made ≤ 100000) (hd : 0 ≤ day ∧ day ≤ 100000) {v : Bool} (h : useF s.rules x day = v) :
    Calls Try.prog 56 #[.pointer (some ⟨p.g, 0, none⟩), .agg #[.int .i64 x.id, .int .i64 x.root, .int .i64 x.grade, .int .i64 x.colour, .int .i64 x.lot, .int .i64 x.made, .int .i64 x.width, .int .i64 x.length, .slice A x.faults.length c], .int .i64 day] w fun e w' => e = .returned (.bool v) ∧ Below w.heap.size w w' := by
  have HV := hide h
  clear h
  have hx := Blk.new w 65 #[.int .i64 x.id, .int .i64 x.root, .int .i64 x.grade, .int .i64 x.colour, .int .i64 x.lot, .int .i64 x.made, .int .i64 x.width, .int .i64 x.length, .slice A x.faults.length c]
  have hB := (Below.refl w.heap.size w).alloc (Nat.le_refl _) (.cells #[.int .i64 x.id, .int .i64 x.root, .int .i64 x.grade, .int .i64 x.colour, .int .i64 x.lot, .int .i64 x.made, .int .i64 x.width, .int .i64 x.length, .slice A x.faults.length c] 65)
  replace hX := hX.below hB
  go_enter Try.func56, Try.ntmps56
  go_upto_region 1 with fail
  generalize w.alloc (.cells #[.int .i64 x.id, .int .i64 x.root, .int .i64 x.grade, .int .i64 x.colour, .int .i64 x.lot, .int .i64 x.made, .int .i64 x.width, .int .i64 x.length, .slice A x.faults.length c] 65) = W at *
  have x0 := hx.cell_ 0 rfl
  have x1 := hx.cell_ 1 rfl
  have x2 := hx.cell_ 2 rfl
  have x3 := hx.cell_ 3 rfl
  have x4 := hx.cell_ 4 rfl
  have x5 := hx.cell_ 5 rfl
  have x6 := hx.cell_ 6 rfl
  have x7 := hx.cell_ 7 rfl
  have x8 := hx.cell_ 8 rfl
  by_cases h1 : x.made ≤ day
  · cases hq : oldF s.rules x day with
    | true =>
      have HV2 : Hid (v = false) := by show _ = _; rw [← HV.out]; unfold useF; rw [hq, decide_eq_true h1]; rfl
      go_wp2_with fail
      refine (old_is p s x A c day _ hX hg hm hd hq).mono ?_
      rintro e W ⟨rfl, hb⟩
      clear x0 x1 x2 x3 x4 x5 x6 x7 x8
      replace hx := hx.below hb hx.lt
      replace hX := StA.below hX hb
      replace hB := hB.trans (hb.mono hB.size)
      clear hb
      have x0 := hx.cell_ 0 rfl
      have x1 := hx.cell_ 1 rfl
      have x2 := hx.cell_ 2 rfl
      have x3 := hx.cell_ 3 rfl
      have x4 := hx.cell_ 4 rfl
      have x5 := hx.cell_ 5 rfl
      have x6 := hx.cell_ 6 rfl
      have x7 := hx.cell_ 7 rfl
      have x8 := hx.cell_ 8 rfl
      clear x0 x1 x2 x3 x4 x5 x6 x7 x8
      clear hq
      go_wp2_with fail
      go_ret
      exact ⟨by rw [HV2.out]; rfl, hB⟩
    | false =>
      have HV2 : Hid (v = true) := by show _ = _; rw [← HV.out]; unfold useF; rw [hq, decide_eq_true h1]; rfl
      go_wp2_with fail
      refine (old_is p s x A c day _ hX hg hm hd hq).mono ?_
      rintro e W ⟨rfl, hb⟩
      clear x0 x1 x2 x3 x4 x5 x6 x7 x8
      replace hx := hx.below hb hx.lt
      replace hX := StA.below hX hb
      replace hB := hB.trans (hb.mono hB.size)
      clear hb
      have x0 := hx.cell_ 0 rfl
      have x1 := hx.cell_ 1 rfl
      have x2 := hx.cell_ 2 rfl
      have x3 := hx.cell_ 3 rfl
      have x4 := hx.cell_ 4 rfl
      have x5 := hx.cell_ 5 rfl
      have x6 := hx.cell_ 6 rfl
      have x7 := hx.cell_ 7 rfl
      have x8 := hx.cell_ 8 rfl
      clear x0 x1 x2 x3 x4 x5 x6 x7 x8
      clear hq
      go_wp2_with fail
      go_ret
      exact ⟨by rw [HV2.out]; rfl, hB⟩
  · have HV2 : Hid (v = false) := by show _ = _; rw [← HV.out]; unfold useF; rw [decide_eq_false h1]; rfl
    have h1' : day < x.made := by omega
    go_wp2_with fail
    go_ret
    exact ⟨by rw [HV2.out]; first | rfl | simp, hB⟩
end Go.Proofs.Ytpeokpnjnmgloaa

/- part: the faults of a part of an item. -/
namespace Go.Proofs.Ytpeokpnjnmgloaa
open Go Go.RowKit
theorem imax_eq (a b : Int) : imax a b = max a b := by unfold imax; split <;> omega
theorem imin_eq (a b : Int) : imin a b = min a b := by unfold imin; split <;> omega
theorem partF_len (fs : List Pt) (a b : Int) : (partF fs a b).length ≤ fs.length := by
  unfold partF
  exact Nat.le_trans (List.length_filter_le _ _) (by simp)
theorem partF_snoc (fs : List Pt) (f : Pt) (a b : Int) : partF (fs ++ [f]) a b = partF fs a b ++ if (partOf a b f).a < (partOf a b f).b then [partOf a b f] else [] := by
  unfold partF
  rw [List.map_append, List.filter_append]
  congr 1
  by_cases h : (partOf a b f).a < (partOf a b f).b
  · rw [if_pos h]; simp [h]
  · rw [if_neg h]; simp [h]
set_option maxRecDepth 100000 in
set_option maxHeartbeats 2000000 in
theorem part_any (A : Option Addr) (c : Nat) (fs : List Pt) (a b : Int) (w : World) (hS : Slc Pt.enc 2 w w.heap.size A fs) (hfl : fs.length ≤ 100000) (hfb : ∀ q ∈ fs, -1000000 ≤ q.a ∧ q.a ≤ 1000000 ∧ -1000000 ≤ q.b ∧ q.b ≤ 1000000) (ha : 0 ≤ a ∧ a ≤ 1000000) (hb : 0 ≤ b ∧ b ≤ 1000000) :
    Calls Try.prog 58 #[.slice A fs.length c, .int .i64 a, .int .i64 b] w (ClonePost 50 Pt.enc 2 (partF fs a b) w) := by
  have HFB := hide hfb
  have HAB := hide (And.intro ha hb)
  clear hfb ha hb
  go_enter Try.func58, Try.ntmps58
  go_upto_block 3 with fail
  go_loopw [7, 13] (fun v z wr => ∃ (i : Nat) (ls : List Pt), z = .int .i64 i ∧ i ≤ fs.length ∧ ls.length ≤ i ∧ Hid (ls = partF (fs.take i) a b) ∧ Own wr w.heap.size 50 2 Pt.enc v ls ∧ Below w.heap.size w wr) (fun _ z _ => fs.length - (intOf z).toNat)
  case atStart => exact ⟨0, [], rfl, Nat.zero_le _, Nat.zero_le _, rfl, Own.nil_, Below.refl _ _⟩
  case round =>
    obtain ⟨W, rfl⟩ : ∃ W : World, W = wr := ⟨_, rfl⟩
    obtain ⟨i, ls, rfl, hi, hll, HL, hO, hB⟩ := hrel
    have hBs := hB.size
    by_cases hlt : i < fs.length
    · obtain ⟨xa, xb, bF, oF, hx, hA, hbF, d0, d1⟩ := pts_at (hS.below hB) hlt
      have hii : (i : Int) < (fs.length : Int) := by omega
      have ei : IntKind.i64.wrap ((i : Int) + 1) = ((i + 1 : Nat) : Int) := by rw [IntWalk.i64_in _ (by omega)]; push_cast; rfl
      have hfx := HFB.out _ (List.mem_of_getElem? hx)
      dsimp only at hfx
      obtain ⟨pa, hpa⟩ : ∃ pa, pa = (partOf a b ⟨xa, xb⟩).a := ⟨_, rfl⟩
      obtain ⟨pb, hpb⟩ : ∃ pb, pb = (partOf a b ⟨xa, xb⟩).b := ⟨_, rfl⟩
      have e1 : IntKind.i64.wrap (max xa a - a) = pa := by
        rw [hpa]; show _ = imax xa a - a
        rw [imax_eq, IntWalk.i64_in _ (by have := HAB.out; omega)]
      have e2 : IntKind.i64.wrap (min xb b - a) = pb := by
        rw [hpb]; show _ = imin xb b - a
        rw [imin_eq, IntWalk.i64_in _ (by have := HAB.out; omega)]
      have HPP : Hid (partOf a b ⟨xa, xb⟩ = ⟨pa, pb⟩) := by show partOf a b ⟨xa, xb⟩ = ⟨pa, pb⟩; rw [hpa, hpb]
      have HT : Hid (partF (fs.take (i + 1)) a b = ls ++ if pa < pb then [⟨pa, pb⟩] else []) := by
        show partF (fs.take (i + 1)) a b = _
        rw [List.take_add_one, hx, Option.toList_some, partF_snoc, HPP.out, HL.out]
      subst hA
      clear hx hfx hpa hpb HPP
      by_cases hc : pa < pb
      · have HT2 : Hid (ls ++ [⟨pa, pb⟩] = partF (fs.take (i + 1)) a b) := by show _ = _; rw [HT.out, if_pos hc]
        go_upto_region 7 with fail
        have hal := ((Below.refl W.heap.size W).alloc (Nat.le_refl _) (.cells #[.int .i64 xa, .int .i64 xb] 50)).alloc (by simp) (.cells #[.int .i64 pa, .int .i64 pb] 50)
        have hg5 := Blk.new (W.alloc (.cells #[.int .i64 xa, .int .i64 xb] 50)) 50 #[.int .i64 pa, .int .i64 pb]
        rw [show (W.alloc (.cells #[.int .i64 xa, .int .i64 xb] 50)).heap.size = W.heap.size + 1 by simp] at hg5
        replace hO := hO.below hal
        replace hB := hB.trans (hal.mono hB.size)
        clear d0 d1 e1 e2 hal
        generalize (W.alloc (.cells #[.int .i64 xa, .int .i64 xb] 50)).alloc (.cells #[.int .i64 pa, .int .i64 pb] 50) = W5 at *
        have g0 := hg5.cell_ 0 (v := .int .i64 pa) rfl
        have g1 := hg5.cell_ 1 (v := .int .i64 pb) rfl
        go_wp2_with (at_builtin; refine wpList_app_own (base := w.heap.size) (f := Pt.enc) (ys := [⟨pa, pb⟩]) _ _ rfl rfl et_span (hO.alloc _) rfl rfl ((Blk.new W5 50 #[.int .i64 pa, .int .i64 pb]).slc1 (y := (⟨pa, pb⟩ : Pt)) (f := Pt.enc) rfl) rfl pt_len pt_one (by simp <;> omega) (by have := hB.size; simp <;> omega) ?_; intro v6 W6 hO6 hb6 hg6)
        have hal := (Below.refl W5.heap.size W5).alloc (Nat.le_refl _) (.cells #[.int .i64 pa, .int .i64 pb] 50)
        replace hB := (hB.trans (hal.mono hB.size)).trans hb6
        clear g0 g1 hg5 hO hal hb6 hg6
        go_roundw
        case rel => exact ⟨i + 1, ls ++ [⟨pa, pb⟩], by go_num, by omega, by simp; omega, HT2, hO6, hB⟩
        case measure => simp [intOf]; omega
      · have HT2 : Hid (ls = partF (fs.take (i + 1)) a b) := by show _ = _; rw [HT.out, if_neg hc, List.append_nil]
        go_wp2_with fail
        have hal := ((Below.refl W.heap.size W).alloc (Nat.le_refl _) (.cells #[.int .i64 xa, .int .i64 xb] 50)).alloc (by simp) (.cells #[.int .i64 pa, .int .i64 pb] 50)
        replace hB := hB.trans (hal.mono hB.size)
        replace hO := hO.below hal
        clear d0 d1 e1 e2 hal
        go_roundw
        case rel => exact ⟨i + 1, ls, by go_num, by omega, by omega, HT2, hO, hB⟩
        case measure => simp [intOf]; omega
    · obtain rfl : i = fs.length := by omega
      have h9 : Hid (ls = partF fs a b) := by show _ = _; rw [HL.out, List.take_length]
      obtain ⟨A, c, rfl, hsl⟩ := hO.form pt_len
      go_wp2_with fail
      go_ret
      rw [← h9.out]
      exact ⟨A, c, rfl, hB, hsl, fun _ => hO⟩
end Go.Proofs.Ytpeokpnjnmgloaa
