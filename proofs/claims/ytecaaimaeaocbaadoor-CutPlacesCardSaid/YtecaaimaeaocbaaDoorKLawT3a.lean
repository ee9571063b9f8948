/- Places of the document, and what compares two lists of places. CutPlaces: the walk. -/
import Derived.Test.YtecaaimaeaocbaaDoorKRLayA
namespace Go.Proofs.YtecaaimaeaocbaaDoor
open Go Go.RowKit
theorem fields_place : (Tryd.prog.fieldsOf 38).toList.map (fun f => (f.name == "_", f.type, f.offset)) = [(false, 5, 0), (false, 3, 1), (false, 3, 2), (false, 3, 3), (false, 3, 4)] := by kernel_rfl
theorem neq_place (a b c d e : Int) (w : World) : (binOp .neq 38 (.agg #[.int .u8 a, .int .i64 b, .int .i64 c, .int .i64 d, .int .i64 e]) (.agg #[.int .u8 a, .int .i64 b, .int .i64 c, .int .i64 d, .int .i64 e])).run Tryd.prog w = .ok (.bool false) w := by
  have hf := fields_place
  have he : (Op.equalIn 10000 38 (.agg #[.int .u8 a, .int .i64 b, .int .i64 c, .int .i64 d, .int .i64 e]) (.agg #[.int .u8 a, .int .i64 b, .int .i64 c, .int .i64 d, .int .i64 e])).run Tryd.prog w = .ok true w := by
    rw [run_equalIn_struct w 9999 _ _ _ (by kernel_rfl) (by kernel_rfl)]
    obtain ⟨f0, f1, f2, f3, f4, hl, h0, h1, h2, h3, h4⟩ : ∃ f0 f1 f2 f3 f4, (Tryd.prog.fieldsOf 38).toList = [f0, f1, f2, f3, f4] ∧ ((f0.name == "_") = false ∧ f0.type = 5 ∧ f0.offset = 0) ∧ ((f1.name == "_") = false ∧ f1.type = 3 ∧ f1.offset = 1) ∧ ((f2.name == "_") = false ∧ f2.type = 3 ∧ f2.offset = 2) ∧ ((f3.name == "_") = false ∧ f3.type = 3 ∧ f3.offset = 3) ∧ ((f4.name == "_") = false ∧ f4.type = 3 ∧ f4.offset = 4) := by
      generalize (Tryd.prog.fieldsOf 38).toList = l at hf
      have hlen : l.length = 5 := by have := congrArg List.length hf; simpa using this
      match l, hlen, hf with
      | [f0, f1, f2, f3, f4], _, hf => simp only [List.map_cons, List.map_nil, List.cons.injEq, Prod.mk.injEq] at hf; exact ⟨f0, f1, f2, f3, f4, rfl, hf.1, hf.2.1, hf.2.2.1, hf.2.2.2.1, hf.2.2.2.2.1⟩
    rw [hl]
    have n0 : f0.name ≠ "_" := by simpa using h0.1
    have n1 : f1.name ≠ "_" := by simpa using h1.1
    have n2 : f2.name ≠ "_" := by simpa using h2.1
    have n3 : f3.name ≠ "_" := by simpa using h3.1
    have n4 : f4.name ≠ "_" := by simpa using h4.1
    simp [Op.eqFields, n0, n1, n2, n3, n4, h0.2.1, h0.2.2, h1.2.1, h1.2.2, h2.2.1, h2.2.2, h3.2.1, h3.2.2, h4.2.1, h4.2.2, part, isAgg, run_underlying Tryd.underlying3, run_underlying Tryd.underlying5, run_equalIn_int]
  simp [binOp, Op.equal, Op.maxDepth, he]
set_option maxRecDepth 100000 in
set_option maxHeartbeats 2000000 in
theorem samePl_gen (A1 : Option Addr) (c1 : Nat) (l : List Pl) (A2 : Option Addr) (c2 : Nat) (w W : World) (h1 : Slc Pl.enc 5 W W.heap.size A1 l) (h2 : Slc Pl.enc 5 W W.heap.size A2 l) (hl : l.length ≤ 1000000000) (hB : Below w.heap.size w W) :
    Calls Tryd.prog 37 #[.slice A1 l.length c1, .slice A2 l.length c2] W fun e w' => e = .returned (.bool true) ∧ Below w.heap.size w w' := by
  go_enter Tryd.func37, Tryd.ntmps37
  have hnl : ((l.length : Int) != (l.length : Int)) = false := by simp
  go_wp2_with fail
  go_loopw [5] (fun z W => ∃ (i : Nat), z = .int .i64 i ∧ i ≤ l.length ∧ Slc Pl.enc 5 W W.heap.size A1 l ∧ Slc Pl.enc 5 W W.heap.size A2 l ∧ Below w.heap.size w W) (fun z _ => l.length - (intOf z).toNat)
  case atStart => exact ⟨0, rfl, Nat.zero_le _, h1, h2, hB⟩
  case round =>
    clear h1 h2 hB
    obtain ⟨W, rfl⟩ : ∃ W : World, W = wr := ⟨_, rfl⟩
    obtain ⟨i, rfl, hi, h1, h2, hB⟩ := hrel
    by_cases hlt : i < l.length
    · obtain ⟨p, b1, o1, hp, hA1, _, d0, d1, d2, d3, d4⟩ := pl_at h1 hlt
      obtain ⟨p', b2, o2, hp', hA2, _, k0, k1, k2, k3, k4⟩ := pl_at h2 hlt
      obtain rfl : p = p' := Option.some.inj (hp.symm.trans hp')
      have hii : (i : Int) < (l.length : Int) := by omega
      have e2 : IntKind.i64.wrap ((i : Int) + 1) = ((i + 1 : Nat) : Int) := by rw [IntWalk.i64_in _ (by omega)]; push_cast; rfl
      subst hA1 hA2
      have hne := neq_place p.pc p.x p.y p.w p.h
      clear hp hp'
      go_wp2_with fail
      go_wp2_with fail
      refine wp_region_quiet (C := fun w' => ∃ u : Since W, w' = u.w) (by kernel_rfl) (by kernel_rfl) (Since.start W) ?_
      dsimp only
      have y_d0 := Since.cell d0
      have y_d1 := Since.cell d1
      have y_d2 := Since.cell d2
      have y_d3 := Since.cell d3
      have y_d4 := Since.cell d4
      have y_k0 := Since.cell k0
      have y_k1 := Since.cell k1
      have y_k2 := Since.cell k2
      have y_k3 := Since.cell k3
      have y_k4 := Since.cell k4
      repeat (go_big_quiet_step ((fail)))
      refine wpQuiet_nil ?_
      rintro W ⟨⟨_, hb⟩, rfl⟩
      try dsimp only at hb ⊢
      replace d0 : W.cell? _ = _ := y_d0 ⟨W, hb⟩
      replace d1 : W.cell? _ = _ := y_d1 ⟨W, hb⟩
      replace d2 : W.cell? _ = _ := y_d2 ⟨W, hb⟩
      replace d3 : W.cell? _ = _ := y_d3 ⟨W, hb⟩
      replace d4 : W.cell? _ = _ := y_d4 ⟨W, hb⟩
      replace k0 : W.cell? _ = _ := y_k0 ⟨W, hb⟩
      replace k1 : W.cell? _ = _ := y_k1 ⟨W, hb⟩
      replace k2 : W.cell? _ = _ := y_k2 ⟨W, hb⟩
      replace k3 : W.cell? _ = _ := y_k3 ⟨W, hb⟩
      replace k4 : W.cell? _ = _ := y_k4 ⟨W, hb⟩
      clear y_d0 y_d1 y_d2 y_d3 y_d4 y_k0 y_k1 y_k2 y_k3 y_k4
      replace h1 := Slc.on h1 hb
      replace h2 := Slc.on h2 hb
      replace hB := hB.trans (hb.mono hB.size)
      clear hb
      go_wp2_with fail
      go_roundw
      case rel => exact ⟨i + 1, by go_num, by omega, h1, h2, hB⟩
      case measure => simp [intOf]; omega
    · obtain rfl : i = l.length := by omega
      go_wp2_with fail
      go_ret
      exact ⟨rfl, hB⟩
theorem samePl_any (A1 : Option Addr) (c1 : Nat) (l : List Pl) (A2 : Option Addr) (c2 : Nat) (w : World) (h1 : Slc Pl.enc 5 w w.heap.size A1 l) (h2 : Slc Pl.enc 5 w w.heap.size A2 l) (hl : l.length ≤ 1000000000) :
    Calls Tryd.prog 37 #[.slice A1 l.length c1, .slice A2 l.length c2] w fun e w' => e = .returned (.bool true) ∧ Below w.heap.size w w' := samePl_gen A1 c1 l A2 c2 w w h1 h2 hl (Below.refl _ _)
def RPlacesPost (s : ByteArray) (PW PH PK : Int) (kl : List Pt) (w : World) (e : Ending) (w' : World) : Prop :=
  ∃ (A : Option Addr) (c : Nat), e = .returned (.tuple #[.slice A (plL s PW PH PK kl).length c, .int .i64 (plE s PW PH PK kl)]) ∧ Slc Pl.enc 5 w' w'.heap.size A (plL s PW PH PK kl) ∧ Below w.heap.size w w'
theorem pl_rl {s : ByteArray} {PW PH PK : Int} {kl : List Pt} {t : Tree} (hv : (plateOk PW PH PK && kindsB kl) = true) (hp : parseE s = 0) (ht : parseT s = t) : plE s PW PH PK kl = rlE PK kl t PW PH ∧ plL s PW PH PK kl = rlL PK kl t 0 0 PW PH := by
  have h1 : plE s PW PH PK kl = rlE PK kl t PW PH := by unfold plE rlE layE; rw [hv, hp, ht]; rfl
  exact ⟨h1, by unfold plL rlL; rw [h1, ht]⟩
set_option maxRecDepth 100000 in
set_option maxHeartbeats 4000000 in
theorem rplaces_any (s : ByteArray) (PW PH PK : Int) (A : Option Addr) (c : Nat) (kl : List Pt) (w W : World) (hl : kl.length ≤ 1000) (hS : Slc Pt.enc 2 W W.heap.size A kl) (hB : Below w.heap.size w W) :
    Calls Tryd.prog 36 #[.string s, .int .i64 PW, .int .i64 PH, .int .i64 PK, .slice A kl.length c] W fun e w' => RPlacesPost s PW PH PK kl w e w' := by
  go_enter Tryd.func36, Tryd.ntmps36
  cases hpo : plateOk PW PH PK
  case false =>
    have HE := hide (pl_bad (s := s) (kl := kl) (PW := PW) (PH := PH) (PK := PK) (by rw [hpo]; rfl))
    go_wp2_with fail
    refine (plate_is PW PH PK _ hpo).mono ?_
    rintro e W' ⟨rfl, rfl⟩
    clear hpo
    go_wp2_with fail
    go_ret2
    exact ⟨none, 0, by rw [HE.out.1, HE.out.2]; rfl, by rw [HE.out.2]; exact Slc.nil_, hB⟩
  have HPO := hide hpo
  go_wp2_with fail
  refine (plate_is PW PH PK _ hpo).mono ?_
  rintro e W' ⟨rfl, rfl⟩
  clear hpo
  obtain ⟨kb, hkb⟩ : ∃ b, kindsB kl = b := ⟨_, rfl⟩
  have HK := hide hkb
  go_wp2_with fail
  refine (rkinds_is A c kl W (by omega) hS hkb).mono ?_
  rintro e W2 ⟨rfl, hb⟩
  replace hS := hS.on hb
  replace hB := hB.trans (hb.mono hB.size)
  clear hb hkb
  cases kb with
  | false =>
    have HE := hide (pl_bad (s := s) (kl := kl) (PW := PW) (PH := PH) (PK := PK) (by rw [HK.out, Bool.and_false]))
    go_wp2_with fail
    go_ret2
    exact ⟨none, 0, by rw [HE.out.1, HE.out.2]; rfl, by rw [HE.out.2]; exact Slc.nil_, hB⟩
  | true =>
    have HV : Hid ((plateOk PW PH PK && kindsB kl) = true) := by show _ = _; rw [HPO.out, HK.out]; rfl
    go_wp2_with fail
    refine (rparse_any s W2).mono ?_
    rintro e W3 ⟨⟨op, n, pc, A1, k1, c1⟩, rfl, hT, hb⟩
    dsimp only
    replace hS := hS.on hb
    replace hB := hB.trans (hb.mono hB.size)
    clear hb
    obtain ⟨E, hE⟩ : ∃ E, parseE s = E := ⟨_, rfl⟩
    rw [hE]
    have HEE := hide hE
    clear hE
    have hb2 := (Below.refl W3.heap.size W3).alloc (Nat.le_refl _) (.cells #[.int .i64 op, .int .i64 n, .int .u8 pc, .slice A1 k1 c1] 60)
    have hm := Blk.new W3 60 #[.int .i64 op, .int .i64 n, .int .u8 pc, .slice A1 k1 c1]
    replace hS := hS.on hb2
    replace hB := hB.trans (hb2.mono hB.size)
    replace hT := hT.on hb2
    clear hb2
    go_upto_region 4 with fail
    generalize W3.alloc (.cells #[.int .i64 op, .int .i64 n, .int .u8 pc, .slice A1 k1 c1] 60) = W4 at *
    by_cases hE0 : E = 0
    · subst hE0
      obtain ⟨z1, z2, z3, z4⟩ := parse_zero HEE.out
      have HR := hide z1
      clear z1 z2 z3 z4
      obtain ⟨t, ht⟩ : ∃ t, parseT s = t := ⟨_, rfl⟩
      have HTT := hide ht
      rw [ht] at hT HR
      clear ht
      have m0 := hm.cell_ 0 (v := .int .i64 op) rfl
      have m1 := hm.cell_ 1 (v := .int .i64 n) rfl
      have m2 := hm.cell_ 2 (v := .int .u8 pc) rfl
      have m3 := hm.cell_ 3 (v := .slice A1 k1 c1) rfl
      have HPK : Hid (POk PW PH PK) := plateOk_iff.1 HPO.out
      go_wp2_with fail
      refine (rlay_all 20 (Nat.le_refl _) t op n pc A1 k1 c1 PK A kl c 0 0 PW PH W4 HR.out HK.out hT hS HPK.out.k (by have := HPK.out.w; have := HPK.out.h; unfold Rb; omega)).mono ?_
      rintro e W6 ⟨A9, c9, rfl, hS9, hb2⟩
      have HE := hide (pl_rl HV.out HEE.out HTT.out)
      replace hB := hB.trans (hb2.mono hB.size)
      clear m0 m1 m2 m3 hm hT hS hb2
      go_wp2_with fail
      go_ret2
      exact ⟨A9, c9, by rw [HE.out.1, HE.out.2]; rfl, by rw [HE.out.2]; exact hS9, hB⟩
    · have g1 : (E == 0) = false := by rw [beq_eq_false_iff_ne]; exact hE0
      have HE := hide (pl_none (s := s) (kl := kl) (PW := PW) (PH := PH) (PK := PK) (E := E) (by unfold plE; rw [HV.out, HEE.out, if_pos rfl, if_neg hE0]) hE0)
      clear hE0
      go_wp2_with fail
      go_ret2
      exact ⟨none, 0, by rw [HE.out.1, HE.out.2]; rfl, by rw [HE.out.2]; exact Slc.nil_, hB⟩
end Go.Proofs.YtecaaimaeaocbaaDoor
namespace Go.Proofs.YtecaaimaeaocbaaDoor
open Go Go.RowKit
theorem pl_len (s : ByteArray) (PW PH PK : Int) (kl : List Pt) : (plL s PW PH PK kl).length ≤ 2000 := by
  unfold plL
  split
  · rename_i h
    have hp : parseE s = 0 := by
      unfold plE at h
      split at h
      · split at h
        · assumption
        · assumption
      · exact absurd h (by decide)
    obtain ⟨z1, z2, z3, z4⟩ := parse_zero hp
    have h1 := places_few (K := PK) (ks := kdL kl) z1 (x := 0) (y := 0) (w := PW) (h := PH)
    have h2 := pcs_text z1
    rw [← z2, byt_len] at h2
    omega
  · simp
set_option maxRecDepth 100000 in
set_option maxHeartbeats 2000000 in
theorem cutPlaces_walk (s : ByteArray) (PW PH PK : Int) (A : Option Addr) (c : Nat) (kl : List Pt) (w : World) (hs : s.size ≤ maxLen) (hl : kl.length ≤ maxLen) (hS : Slc Pt.enc 2 w w.heap.size A kl) :
    Calls Tryd.prog 9 #[.agg #[.string s, .int .i64 PW, .int .i64 PH, .int .i64 PK, .slice A kl.length c]] w fun e w' => e = .returned (.bool true) ∧ Below w.heap.size w w' := by
  unfold maxLen at hs hl
  have hm := Blk.new w 53 #[.string s, .int .i64 PW, .int .i64 PH, .int .i64 PK, .slice A kl.length c]
  have hB := (Below.refl w.heap.size w).alloc (Nat.le_refl _) (.cells #[.string s, .int .i64 PW, .int .i64 PH, .int .i64 PK, .slice A kl.length c] 53)
  replace hS := hS.on hB
  go_enter Tryd.func9, Tryd.ntmps9
  go_upto_region 1 with fail
  generalize w.alloc (.cells #[.string s, .int .i64 PW, .int .i64 PH, .int .i64 PK, .slice A kl.length c] 53) = W at *
  have q0 := hm.cell_ 0 rfl
  have q1 := hm.cell_ 1 rfl
  have q2 := hm.cell_ 2 rfl
  have q3 := hm.cell_ 3 rfl
  have q4 := hm.cell_ 4 rfl
  by_cases h1 : 3000 < s.size
  · have f1 : (3000 : Int) < (s.size : Int) := by omega
    go_wp2_with fail
    refine (kawake_any _).mono ?_
    rintro e W ⟨rfl, hb⟩
    clear q0 q1 q2 q3 q4
    replace hm := hm.below hb hm.lt
    replace hS := Slc.on hS hb
    replace hB := hB.trans (hb.mono hB.size)
    clear hb
    have q0 := hm.cell_ 0 rfl
    have q1 := hm.cell_ 1 rfl
    have q2 := hm.cell_ 2 rfl
    have q3 := hm.cell_ 3 rfl
    have q4 := hm.cell_ 4 rfl
    go_wp2_with fail
    go_ret
    exact ⟨rfl, hB⟩
  · have f1 : ¬ (3000 : Int) < (s.size : Int) := by omega
    by_cases h2 : 40 < kl.length
    · have f2 : (40 : Int) < (kl.length : Int) := by omega
      go_wp2_with fail
      refine (kawake_any _).mono ?_
      rintro e W ⟨rfl, hb⟩
      clear q0 q1 q2 q3 q4
      replace hm := hm.below hb hm.lt
      replace hS := Slc.on hS hb
      replace hB := hB.trans (hb.mono hB.size)
      clear hb
      have q0 := hm.cell_ 0 rfl
      have q1 := hm.cell_ 1 rfl
      have q2 := hm.cell_ 2 rfl
      have q3 := hm.cell_ 3 rfl
      have q4 := hm.cell_ 4 rfl
      go_wp2_with fail
      go_ret
      exact ⟨rfl, hB⟩
    · have f2 : ¬ (40 : Int) < (kl.length : Int) := by omega
      obtain ⟨E, hE⟩ : ∃ E, plE s PW PH PK kl = E := ⟨_, rfl⟩
      obtain ⟨l, hl2⟩ : ∃ l, plL s PW PH PK kl = l := ⟨_, rfl⟩
      have hll : l.length ≤ 2000 := by rw [← hl2]; exact pl_len s PW PH PK kl
      have HE := hide hE
      have HL := hide hl2
      clear hE hl2
      go_wp2_with fail
      refine (places_any s PW PH PK A c kl _ _ (by omega) hS (Below.refl _ _)).mono ?_
      rintro e W2 ⟨A1, c1, rfl, hS1, _, hb⟩
      rw [HE.out, HL.out]
      rw [HL.out] at hS1
      clear q0 q1 q2 q3 q4
      replace hm := hm.below hb hm.lt
      replace hS := hS.on hb
      replace hB := hB.trans (hb.mono hB.size)
      clear hb
      have q0 := hm.cell_ 0 (v := .string s) rfl
      have q1 := hm.cell_ 1 (v := .int .i64 PW) rfl
      have q2 := hm.cell_ 2 (v := .int .i64 PH) rfl
      have q3 := hm.cell_ 3 (v := .int .i64 PK) rfl
      have q4 := hm.cell_ 4 (v := .slice A kl.length c) rfl
      go_wp2_with fail
      refine (rplaces_any s PW PH PK A c kl _ _ (by omega) hS (Below.refl _ _)).mono ?_
      rintro e W3 ⟨A2, c2, rfl, hS2, hb⟩
      rw [HE.out, HL.out]
      rw [HL.out] at hS2
      replace hS1 := hS1.on hb
      replace hB := hB.trans (hb.mono hB.size)
      clear hb hS hm q0 q1 q2 q3 q4
      go_wp2_with fail
      refine (samePl_any A1 c1 l A2 c2 _ hS1 hS2 (by omega)).mono ?_
      rintro e W4 ⟨rfl, hb⟩
      replace hB := hB.trans (hb.mono hB.size)
      clear hb hS1 hS2
      go_wp2_with fail
      refine (kawake_any _).mono ?_
      rintro e W ⟨rfl, hb⟩
      replace hB := hB.trans (hb.mono hB.size)
      clear hb
      go_wp2_with fail
      go_ret
      exact ⟨rfl, hB⟩
end Go.Proofs.YtecaaimaeaocbaaDoor
