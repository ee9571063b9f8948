/- CutApart: the walk. -/
import Derived.Test.YtecaaimaeaocbaaDoorKPlaces
import Derived.Test.YtecaaimaeaocbaaDoorKClashA
import Derived.Test.YtecaaimaeaocbaaDoorKUsed
namespace Go.Proofs.YtecaaimaeaocbaaDoor
open Go Go.RowKit
theorem text_pcs {t : Tree} (hr : Right t) : 8 * (pcsT t).length ≤ (textT t).length + 7 := by
  induction hr with
  | waste => simp [pcsT]
  | piece => simp [pcsT, textT]
  | cut op n a b hop _ _ _ _ iha ihb =>
    have h2 : (if op = 3 then [118, 32] else [104, 32] : List UInt8).length = 2 := by split <;> rfl
    simp only [pcsT, textT, List.length_append, List.length_cons, List.length_nil]
    omega
theorem plE_zero {s : ByteArray} {PW PH PK : Int} {kl : List Pt} (h : plE s PW PH PK kl = 0) : plateOk PW PH PK = true ∧ kindsB kl = true ∧ parseE s = 0 ∧ goneT PK (kdL kl) (parseT s) PW PH = false ∧ smallT PK (kdL kl) (parseT s) PW PH = false ∧ plL s PW PH PK kl = placesT PK (kdL kl) (parseT s) 0 0 PW PH := by
  have hL : plL s PW PH PK kl = placesT PK (kdL kl) (parseT s) 0 0 PW PH := by unfold plL; rw [if_pos h]
  unfold plE at h
  cases h1 : (plateOk PW PH PK && kindsB kl) with
  | false => rw [h1] at h; simp at h
  | true =>
    rw [h1, if_pos rfl] at h
    rw [Bool.and_eq_true] at h1
    by_cases h2 : parseE s = 0
    · rw [if_pos h2] at h
      cases h3 : goneT PK (kdL kl) (parseT s) PW PH with
      | true => rw [h3, if_pos rfl] at h; exact absurd h (by decide)
      | false =>
        rw [h3, if_neg (by decide)] at h
        cases h4 : smallT PK (kdL kl) (parseT s) PW PH with
        | true => rw [h4, if_pos rfl] at h; exact absurd h (by decide)
        | false => exact ⟨h1.1, h1.2, h2, rfl, rfl, hL⟩
    · rw [if_neg h2] at h; exact absurd h h2
structure PlFact (PW PH : Int) (kl : List Pt) (p : Pl) : Prop where
  m : ∃ m : Nat, ∃ q : Pt, p.pc = 97 + (m : Int) ∧ m ≤ 25 ∧ kl[m]? = some q ∧ p.w = q.a ∧ p.h = q.b
  x : 0 ≤ p.x ∧ p.x + p.w ≤ PW
  y : 0 ≤ p.y ∧ p.y + p.h ≤ PH
  w : 1 ≤ p.w ∧ 1 ≤ p.h
structure ApFact (s : ByteArray) (PW PH PK : Int) (kl : List Pt) (l : List Pl) : Prop where
  ok : POk PW PH PK
  cE : cE PW PH PK l = 0
  cB : cB PW PH PK l = false
  uE : usedE s kl = 0
  uL : usedL s kl = addP (List.replicate kl.length 0) (l.map Pl.pc)
  len : l.length ≤ 1000
  k26 : kl.length ≤ 26
  at_ : ∀ p ∈ l, PlFact PW PH kl p
  ap : l.Pairwise fun p q => apB PK p q = true
theorem ap_fact {s : ByteArray} {PW PH PK : Int} {kl : List Pt} (h : plE s PW PH PK kl = 0) : ApFact s PW PH PK kl (plL s PW PH PK kl) := by
  obtain ⟨h1, h2, h3, h4, h5, h6⟩ := plE_zero h
  obtain ⟨z1, z2, z3, z4⟩ := parse_zero h3
  have hok := plateOk_iff.1 h1
  have hpc := places_pcs (K := PK) z1 (x := 0) (y := 0) h4
  have hin := places_in hok.k.1 z1 (x := 0) (y := 0) h4 h5
  have hap := places_apart hok.k.1 z1 (x := 0) (y := 0) h4 h5
  have k26 := kinds_few h2
  rw [h6]
  generalize hl : placesT PK (kdL kl) (parseT s) 0 0 PW PH = l at *
  have hlen : l.length ≤ 1000 := by
    have e1 : l.length = (pcsT (parseT s)).length := by rw [← hpc.1, List.length_map]
    have e2 := text_pcs z1
    rw [← z2, byt_len] at e2
    omega
  have hat : ∀ p ∈ l, PlFact PW PH kl p := fun p hp => by
    obtain ⟨i1, i2, k, i3, i4⟩ := hin p hp
    rw [kdL_get] at i4
    obtain ⟨q, hq, hq2⟩ := Option.map_eq_some_iff.1 i4
    have hqk : kdOk q = true := by
      have h9 := h2
      unfold kindsB at h9
      rw [Bool.and_eq_true] at h9
      exact List.all_eq_true.1 h9.1 q (List.mem_of_getElem? hq)
    unfold kdOk at hqk
    rw [Bool.and_eq_true, inB_iff, inB_iff] at hqk
    injection hq2 with w1 w2
    have hk : k < kl.length := (List.getElem?_eq_some_iff.1 hq).1
    exact ⟨⟨k, q, i3, by omega, hq, w1.symm, w2.symm⟩, ⟨i1.1, by omega⟩, ⟨i2.1, by omega⟩, ⟨by rw [← w1]; exact hqk.1.1, by rw [← w2]; exact hqk.2.1⟩⟩
  have hv : validC PW PH PK l = true := by
    unfold validC
    rw [h1, decide_eq_true hlen, Bool.true_and, Bool.true_and, List.all_eq_true]
    intro p hp
    obtain ⟨_, f2, f3, f4⟩ := hat p hp
    have := hok.w; have := hok.h
    exact plIn_iff.2 ⟨⟨f4.1, by omega⟩, ⟨f4.2, by omega⟩, ⟨f2.1, by omega⟩, ⟨f3.1, by omega⟩⟩
  have hokN : okN kl.length (pcsT (parseT s)) = true := by
    unfold okN
    rw [List.all_eq_true]
    intro p hp
    have := (hpc.2 p hp).2
    rw [kdL_len] at this
    exact decide_eq_true this
  refine ⟨hok, by unfold cE; rw [hv]; rfl, ?_, ?_, ?_, hlen, k26, hat, hap⟩
  · unfold cB
    rw [hv, if_pos rfl]
    unfold clB
    rw [decide_eq_true hap, Bool.and_true]
    rw [show (l.all fun p => !outB PW PH p) = true from List.all_eq_true.2 fun p hp => by
      obtain ⟨_, f2, f3, _⟩ := hat p hp
      unfold outB
      rw [decide_eq_false (by omega), decide_eq_false (by omega)]; rfl]
    rfl
  · unfold usedE; rw [h2, if_pos rfl, if_pos h3, hokN]; rfl
  · unfold usedL; rw [h2, decide_eq_true h3, hokN, hpc.1]; rfl
theorem addP_step {n : Nat} {p : Int} {ps : List Int} (h : ∀ x ∈ p :: ps, 97 ≤ x ∧ x - 97 < (n : Int)) {m : Nat} (hm : p = 97 + (m : Int)) :
    ∃ v, (addP (List.replicate n 0) (p :: ps))[m]? = some v ∧ 0 ≤ v ∧ v ≤ (ps.length : Int) + 1 ∧ (addP (List.replicate n 0) (p :: ps)).set m (v - 1) = addP (List.replicate n 0) ps := by
  have hmn : m < n := by have := (h p (by simp)).2; omega
  have e1 : (addP (List.replicate n (0 : Int)) (p :: ps)).length = n := by rw [addP_len, List.length_replicate]
  have e2 : (addP (List.replicate n (0 : Int)) ps).length = n := by rw [addP_len, List.length_replicate]
  have g1 := addP_get (p :: ps) (List.replicate n 0) (fun x hx => by rw [List.length_replicate]; exact h x hx)
  have g2 := addP_get ps (List.replicate n 0) (fun x hx => by rw [List.length_replicate]; exact h x (by simp [hx]))
  have z : ∀ k, k < n → (List.replicate n (0 : Int)).getD k 0 = 0 := fun k hk => by rw [List.getD_eq_getElem?_getD, List.getElem?_replicate, if_pos hk]; rfl
  simp only [List.length_replicate] at g1 g2
  have hv := List.getElem?_eq_getElem (l := addP (List.replicate n (0 : Int)) (p :: ps)) (i := m) (by omega)
  generalize (addP (List.replicate n (0 : Int)) (p :: ps))[m]'(by omega) = v at hv
  have hvc : v = ((p :: ps).count ((97 : Int) + m) : Nat) := by
    have := g1 m hmn
    rw [List.getD_eq_getElem?_getD, hv, z m hmn] at this
    simpa using this
  have hc : (p :: ps).count ((97 : Int) + m) = ps.count ((97 : Int) + m) + 1 := by rw [hm, List.count_cons_self]
  refine ⟨v, hv, by omega, ?_, ?_⟩
  · have := List.count_le_length (a := (97 : Int) + m) (l := p :: ps)
    simp only [List.length_cons] at this
    omega
  · apply List.ext_getElem?
    intro k
    rw [List.getElem?_set]
    by_cases hk : k < n
    · have a1 := g1 k hk
      have a2 := g2 k hk
      rw [z k hk, List.getD_eq_getElem?_getD] at a1 a2
      have b2 := List.getElem?_eq_getElem (l := addP (List.replicate n (0 : Int)) ps) (i := k) (by omega)
      have b1 := List.getElem?_eq_getElem (l := addP (List.replicate n (0 : Int)) (p :: ps)) (i := k) (by omega)
      generalize (addP (List.replicate n (0 : Int)) ps)[k]'(by omega) = x2 at b2
      generalize (addP (List.replicate n (0 : Int)) (p :: ps))[k]'(by omega) = x1 at b1
      rw [b2] at a2
      rw [b1] at a1
      rw [b2, b1]
      simp only [Option.getD_some] at a1 a2
      by_cases e : m = k
      · subst e
        rw [if_pos rfl, if_pos (by omega)]
        rw [show v - 1 = x2 by rw [hc] at hvc; omega]
      · rw [if_neg e]
        rw [List.count_cons_of_ne (by omega)] at a1
        rw [show x1 = x2 by omega]
    · rw [if_neg (by omega), List.getElem?_eq_none (by omega), List.getElem?_eq_none (by omega)]
/-- what the law's loops keep -/
structure AC (w0 : World) (B g : Nat) (pv : Array Value) (A1 : Option Addr) (l : List Pl) (A : Option Addr) (kl : List Pt) (u : List Int) (W : World) : Prop where
  m : Blk W w0.heap.size 53 pv
  l : Slc Pl.enc 5 W B A1 l
  k : Slc Pt.enc 2 W B A kl
  u : Blk W g 3 (intJ u [])
  b : Below w0.heap.size w0 W
  lt : w0.heap.size < B ∧ B ≤ g
section
variable {w0 W W' : World} {B g : Nat} {pv : Array Value} {A1 : Option Addr} {l : List Pl} {A : Option Addr} {kl : List Pt} {u u' : List Int}
theorem AC.below (h : AC w0 B g pv A1 l A kl u W) (hb : Below W.heap.size W W') : AC w0 B g pv A1 l A kl u W' := by
  have h1 := h.u.lt
  have h2 := h.lt
  exact ⟨h.m.below hb h.m.lt, h.l.below (hb.mono (by omega)), h.k.below (hb.mono (by omega)), h.u.below hb h1, h.b.trans (hb.mono h.b.size), h2⟩
theorem AC.set (h : AC w0 B g pv A1 l A kl u W) (hc : Chg (fun k => k = g) W W') (hu : Blk W' g 3 (intJ u' [])) : AC w0 B g pv A1 l A kl u' W' := by
  have h1 := h.u.lt
  have h2 := h.lt
  have hb : Below B W W' := hc.below1 (by omega) (by omega)
  exact ⟨h.m.chg1 hc (by omega), h.l.below hb, h.k.below hb, hu, h.b.trans (hb.mono (by omega)), h2⟩
end
set_option maxRecDepth 100000 in
set_option maxHeartbeats 4000000 in
theorem cutApart_walk (s : ByteArray) (PW PH PK : Int) (A : Option Addr) (c : Nat) (kl : List Pt) (w : World) (hs : s.size ≤ maxLen) (hl : kl.length ≤ maxLen) (hS : Slc Pt.enc 2 w w.heap.size A kl) :
    Calls Tryd.prog 12 #[.agg #[.string s, .int .i64 PW, .int .i64 PH, .int .i64 PK, .slice A kl.length c]] w fun e w' => e = .returned (.bool true) ∧ Below w.heap.size w w' := by
  unfold maxLen at hs hl
  have hm := Blk.new w 53 #[.string s, .int .i64 PW, .int .i64 PH, .int .i64 PK, .slice A kl.length c]
  have hB := (Below.refl w.heap.size w).alloc (Nat.le_refl _) (.cells #[.string s, .int .i64 PW, .int .i64 PH, .int .i64 PK, .slice A kl.length c] 53)
  replace hS := hS.on hB
  go_enter Tryd.func12, Tryd.ntmps12
  go_upto_region 1 with fail
  generalize w.alloc (.cells #[.string s, .int .i64 PW, .int .i64 PH, .int .i64 PK, .slice A kl.length c] 53) = W at *
  have q0 := hm.cell_ 0 rfl
  have q1 := hm.cell_ 1 rfl
  have q2 := hm.cell_ 2 rfl
  have q3 := hm.cell_ 3 rfl
  have q4 := hm.cell_ 4 rfl
  by_cases h1 : 3000 < s.size
  · have f1 : (3000 : Int) < (s.size : Int) := by omega
    go_wp2_with fail
    refine (kawake_any _).mono ?_
    rintro e W ⟨rfl, hb⟩
    clear q0 q1 q2 q3 q4
    replace hm := hm.below hb hm.lt
    replace hS := Slc.on hS hb
    replace hB := hB.trans (hb.mono hB.size)
    clear hb
    have q0 := hm.cell_ 0 rfl
    have q1 := hm.cell_ 1 rfl
    have q2 := hm.cell_ 2 rfl
    have q3 := hm.cell_ 3 rfl
    have q4 := hm.cell_ 4 rfl
    go_wp2_with fail
    go_ret
    exact ⟨rfl, hB⟩
  have f1 : ¬ (3000 : Int) < (s.size : Int) := by omega
  by_cases h2 : 40 < kl.length
  · have f2 : (40 : Int) < (kl.length : Int) := by omega
    go_wp2_with fail
    refine (kawake_any _).mono ?_
    rintro e W ⟨rfl, hb⟩
    clear q0 q1 q2 q3 q4
    replace hm := hm.below hb hm.lt
    replace hS := Slc.on hS hb
    replace hB := hB.trans (hb.mono hB.size)
    clear hb
    have q0 := hm.cell_ 0 rfl
    have q1 := hm.cell_ 1 rfl
    have q2 := hm.cell_ 2 rfl
    have q3 := hm.cell_ 3 rfl
    have q4 := hm.cell_ 4 rfl
    go_wp2_with fail
    go_ret
    exact ⟨rfl, hB⟩
  have f2 : ¬ (40 : Int) < (kl.length : Int) := by omega
  obtain ⟨E, hE⟩ : ∃ E, plE s PW PH PK kl = E := ⟨_, rfl⟩
  obtain ⟨l, hl2⟩ : ∃ l, plL s PW PH PK kl = l := ⟨_, rfl⟩
  have HE := hide hE
  have HL := hide hl2
  clear hE hl2
  go_wp2_with fail
  refine (places_any s PW PH PK A c kl _ _ (by omega) hS (Below.refl _ _)).mono ?_
  rintro e W2 ⟨A1, c1, rfl, hS1, hc1, hb⟩
  rw [HE.out, HL.out]
  rw [HL.out] at hS1 hc1
  clear q0 q1 q2 q3 q4
  replace hm := hm.below hb hm.lt
  replace hS := hS.on hb
  replace hB := hB.trans (hb.mono hB.size)
  clear hb
  by_cases hE0 : E = 0
  case neg =>
    have g1 : (E == 0) = false := by rw [beq_eq_false_iff_ne]; exact hE0
    have hln : l = [] := by rw [← HL.out]; unfold plL; rw [HE.out, if_neg hE0]
    subst hln
    clear hE0 hm hS hS1 hc1
    go_wp2_with fail
    refine (kawake_any _).mono ?_
    rintro e W ⟨rfl, hb⟩
    replace hB := hB.trans (hb.mono hB.size)
    clear hb
    go_wp2_with fail
    go_ret
    exact ⟨rfl, hB⟩
  subst hE0
  have HF : Hid (ApFact s PW PH PK kl l) := by show ApFact _ _ _ _ _ _; rw [← HL.out]; exact ap_fact HE.out
  have q1 := hm.cell_ 1 (v := .int .i64 PW) rfl
  have q2 := hm.cell_ 2 (v := .int .i64 PH) rfl
  have q3 := hm.cell_ 3 (v := .int .i64 PK) rfl
  go_wp2_with fail
  refine (clash_any PW PH PK A1 c1 l _ hS1 hc1).mono ?_
  rintro e W3 ⟨rfl, hb⟩
  rw [HF.out.cE, HF.out.cB]
  clear q1 q2 q3
  replace hm := hm.below hb hm.lt
  replace hS := hS.on hb
  replace hS1 := hS1.on hb
  replace hB := hB.trans (hb.mono hB.size)
  clear hb
  have q0 := hm.cell_ 0 (v := .string s) rfl
  have q4 := hm.cell_ 4 (v := .slice A kl.length c) rfl
  go_wp2_with fail
  refine (used_gen s A c kl _ _ (by omega) hS (Below.refl _ _)).mono ?_
  rintro e W4 ⟨A2, c2, rfl, hS2, hb, hg⟩
  obtain ⟨g, rfl, hg, hU⟩ := hg HF.out.uE
  rw [HF.out.uE, HF.out.uL, addP_len, List.length_replicate]
  rw [HF.out.uL] at hU
  clear q0 q4 hS2
  have hX : AC w W3.heap.size g #[.string s, .int .i64 PW, .int .i64 PH, .int .i64 PK, .slice A kl.length c] A1 l A kl (addP (List.replicate kl.length 0) ((l.drop 0).map Pl.pc)) W4 :=
    ⟨hm.below hb hm.lt, hS1.below hb, hS.below hb, hU, hB.trans (hb.mono hB.size), hm.lt, hg⟩
  clear hm hS hS1 hB hb hg hU hc1
  have q4 := hX.m.cell_ 4 (v := .slice A kl.length c) rfl
  have hne : ((kl.length : Int) != (kl.length : Int)) = false := by simp
  have hl1 := HF.out.len
  have hPW := HF.out.ok.w
  have hPH := HF.out.ok.h
  have hPK := HF.out.ok.k
  have hk26 := HF.out.k26
  go_upto_block 11 with fail
  obtain ⟨W, rfl⟩ : ∃ X : World, X = W4 := ⟨_, rfl⟩
  clear q4
  go_loopw [9] (fun z wr => ∃ i : Nat, z = .int .i64 i ∧ i ≤ l.length ∧ AC w W3.heap.size g #[.string s, .int .i64 PW, .int .i64 PH, .int .i64 PK, .slice A kl.length c] A1 l A kl (addP (List.replicate kl.length 0) ((l.drop i).map Pl.pc)) wr) (fun z _ => l.length - (intOf z).toNat)
  case atStart => exact ⟨0, rfl, Nat.zero_le _, hX⟩
  case round =>
    clear hX
    obtain ⟨W, rfl⟩ : ∃ X : World, X = wr := ⟨_, rfl⟩
    obtain ⟨i, rfl, hi, hX⟩ := hrel
    by_cases hlt : i < l.length
    · obtain ⟨⟨pc, x, y, pw, ph⟩, b1, o1, hp, hA1, _, d0, d1, d2, d3, d4⟩ := pl_at hX.l hlt
      dsimp only at d0 d1 d2 d3 d4
      obtain ⟨⟨m, ⟨qa, qb⟩, m1, m2, m3, m4, m5⟩, fx, fy, fw⟩ := HF.out.at_ _ (List.mem_of_getElem? hp)
      dsimp only at m1 m4 m5 fx fy fw
      subst m4 m5
      have hii : (i : Int) < (l.length : Int) := by omega
      subst hA1
      have hmk : m < kl.length := (List.getElem?_eq_some_iff.1 m3).1
      have HDR : Hid (∃ v, (addP (List.replicate kl.length 0) ((l.drop i).map Pl.pc))[m]? = some v ∧ 0 ≤ v ∧ v ≤ 1000 ∧ (addP (List.replicate kl.length 0) ((l.drop i).map Pl.pc)).set m (v - 1) = addP (List.replicate kl.length 0) ((l.drop (i + 1)).map Pl.pc)) := by
        obtain ⟨hk, he⟩ := List.getElem?_eq_some_iff.1 hp
        have e1 : l.drop i = ⟨pc, x, y, pw, ph⟩ :: l.drop (i + 1) := by rw [List.drop_eq_getElem_cons hk, he]
        rw [e1, List.map_cons]
        obtain ⟨v, h1, h2, h3, h4⟩ := addP_step (n := kl.length) (p := pc) (ps := (l.drop (i + 1)).map Pl.pc) (fun z hz => by
          have hz' : z ∈ (l.drop i).map Pl.pc := by rw [e1]; exact hz
          obtain ⟨p, hp1, rfl⟩ := List.mem_map.1 hz'
          obtain ⟨⟨m', q', m1', m2', m3', _⟩, _⟩ := HF.out.at_ p (List.mem_of_mem_drop hp1)
          have := (List.getElem?_eq_some_iff.1 m3').1
          omega) m1
        refine ⟨v, h1, h2, ?_, h4⟩
        rw [List.length_map, List.length_drop] at h3
        omega
      obtain ⟨v, v1, v2, v3, v4⟩ := HDR.out
      have HM1 := hide m1
      have HP := hide hp
      clear m1 hp HDR
      have hbx := Blk.new W 38 #[.int .u8 pc, .int .i64 x, .int .i64 y, .int .i64 pw, .int .i64 ph]
      have hX2 := hX.below ((Below.refl W.heap.size W).alloc (Nat.le_refl _) (.cells #[.int .u8 pc, .int .i64 x, .int .i64 y, .int .i64 pw, .int .i64 ph] 38))
      have hgx : g < W.heap.size := hX.u.lt
      go_upto_region 14 with fail
      clear d0 d1 d2 d3 d4
      generalize hbxn : W.heap.size = bx at *
      generalize W.alloc (.cells #[.int .u8 pc, .int .i64 x, .int .i64 y, .int .i64 pw, .int .i64 ph] 38) = W5 at *
      clear hX hbxn
      have e1 : IntKind.i64.wrap pc = pc := IntWalk.i64_in _ (by have := HM1.out; omega)
      have e2 : IntKind.i64.wrap (pc - 97) = (m : Int) := by
        have : pc - 97 = (m : Int) := by have := HM1.out; omega
        rw [this]; exact IntWalk.i64_in _ (by omega)
      have x0 := hbx.cell_ 0 (v := .int .u8 pc) rfl
      go_upto_region 15 with fail
      clear e1 e2 x0
      obtain ⟨⟨qa', qb'⟩, bk, offk, hk3, hAk, _, k0, k1⟩ := pt_at hX2.k (k := m) hmk
      rw [m3] at hk3
      injection hk3 with hk3
      injection hk3 with hk4 hk5
      subst hk4 hk5
      have HAk := hide hAk
      have x1 := hbx.cell_ 1 (v := .int .i64 x) rfl
      have x2 := hbx.cell_ 2 (v := .int .i64 y) rfl
      have x3 := hbx.cell_ 3 (v := .int .i64 pw) rfl
      have x4 := hbx.cell_ 4 (v := .int .i64 ph) rfl
      have q1 := hX2.m.cell_ 1 (v := .int .i64 PW) rfl
      have q2 := hX2.m.cell_ 2 (v := .int .i64 PH) rfl
      have q4 : W5.cell? ⟨w.heap.size, 4, none⟩ = some (.slice (some ⟨bk, offk, none⟩) kl.length c) := by rw [← hAk]; exact hX2.m.cell_ 4 rfl
      clear hAk
      dsimp only at k0 k1
      have z1 : decide ((m : Int) < 0) = false := decide_eq_false (by omega)
      have z2 : decide ((kl.length : Int) ≤ (m : Int)) = false := decide_eq_false (by omega)
      have z2n : decide (kl.length ≤ m) = false := decide_eq_false (by omega)
      have z3 : (pw != pw) = false := by simp
      have z4 : (ph != ph) = false := by simp
      have z5 : decide (x < 0) = false := decide_eq_false (by omega)
      have z6 : decide (y < 0) = false := decide_eq_false (by omega)
      have z7 : IntKind.i64.wrap (x + pw) = x + pw := IntWalk.i64_in _ (by omega)
      have z8 : IntKind.i64.wrap (y + ph) = y + ph := IntWalk.i64_in _ (by omega)
      have z9 : decide (PW < x + pw) = false := decide_eq_false (by omega)
      have z10 : decide (PH < y + ph) = false := decide_eq_false (by omega)
      have hmi : (m : Int) < (kl.length : Int) := by omega
      obtain ⟨W, rfl⟩ : ∃ X : World, X = W5 := ⟨_, rfl⟩
      clear x1 x2 x3 x4
      go_wp2_with fail
      have x0 := hbx.cell_ 0 rfl
      have x1 := hbx.cell_ 1 rfl
      have x2 := hbx.cell_ 2 rfl
      have x3 := hbx.cell_ 3 rfl
      have x4 := hbx.cell_ 4 rfl
      refine wp_region_quiet (C := fun w' => ∃ u : Since W, w' = u.w) (by kernel_rfl) (by kernel_rfl) (Since.start W) ?_
      dsimp only
      have y_x0 := Since.cell x0
      have y_x1 := Since.cell x1
      have y_x2 := Since.cell x2
      have y_x3 := Since.cell x3
      have y_x4 := Since.cell x4
      have y_k0 := Since.cell k0
      have y_k1 := Since.cell k1
      have y_q1 := Since.cell q1
      have y_q2 := Since.cell q2
      have y_q4 := Since.cell q4
      clear x0 x1 x2 x3 x4
      repeat (go_big_quiet_step ((fail)))
      refine wpQuiet_nil ?_
      rintro W ⟨⟨_, hb⟩, rfl⟩
      try dsimp only at hb ⊢
      replace k0 : W.cell? _ = _ := y_k0 ⟨W, hb⟩
      replace k1 : W.cell? _ = _ := y_k1 ⟨W, hb⟩
      replace q1 : W.cell? _ = _ := y_q1 ⟨W, hb⟩
      replace q2 : W.cell? _ = _ := y_q2 ⟨W, hb⟩
      replace q4 : W.cell? _ = _ := y_q4 ⟨W, hb⟩
      clear y_x0 y_x1 y_x2 y_x3 y_x4 y_k0 y_k1 y_q1 y_q2 y_q4
      replace hX2 := AC.below hX2 hb
      replace hbx := hbx.below hb hbx.lt
      clear hb
      have x0 := hbx.cell_ 0 rfl
      have x1 := hbx.cell_ 1 rfl
      have x2 := hbx.cell_ 2 rfl
      have x3 := hbx.cell_ 3 rfl
      have x4 := hbx.cell_ 4 rfl
      clear x0 x1 x2 x3 x4
      clear k0 k1 q1 q2 q4 z1 z2 z2n z3 z4 z5 z6 z7 z8 z9 z10
      have u0 := hX2.u.cell_ m (intJ_get v1)
      have e3 : IntKind.i64.wrap (v - 1) = v - 1 := IntWalk.i64_in _ (by omega)
      have hul : m < (addP (List.replicate kl.length 0) ((l.drop i).map Pl.pc)).length := (List.getElem?_eq_some_iff.1 v1).1
      have HIL : Hid (m < (intJ (addP (List.replicate kl.length 0) ((l.drop i).map Pl.pc)) []).size) := intJ_lt hul
      go_upto_region 18 with (refine wpList_store_at rfl 3 _ _ rfl (.int .i64 (v - 1)) hX2.u rfl rfl (by kernel_rfl) rfl HIL.out rfl ?_; intro W6 hU6 hc6)
      rw [intJ_set hul, v4] at hU6
      replace hX2 := hX2.set hc6 hU6
      replace hbx := hbx.chg1 hc6 (by omega)
      clear hc6 hU6 u0 e3 hul HIL v1 v2 v3 v4
      obtain ⟨W, rfl⟩ : ∃ X : World, X = W6 := ⟨_, rfl⟩
      try dsimp only [Act.put]
      go_upto_block 19 with fail
      go_loopw [12] (fun z wr => ∃ n : Nat, z = .int .i64 n ∧ n ≤ i ∧ AC w W3.heap.size g #[.string s, .int .i64 PW, .int .i64 PH, .int .i64 PK, .slice A kl.length c] (some ⟨b1, o1, none⟩) l A kl (addP (List.replicate kl.length 0) ((l.drop (i + 1)).map Pl.pc)) wr ∧ Blk wr bx 38 #[.int .u8 pc, .int .i64 x, .int .i64 y, .int .i64 pw, .int .i64 ph]) (fun z _ => i - (intOf z).toNat)
      case atStart => exact ⟨0, rfl, Nat.zero_le _, hX2, hbx⟩
      case round =>
        clear hX2 hbx
        obtain ⟨W, rfl⟩ : ∃ X : World, X = wr := ⟨_, rfl⟩
        obtain ⟨n, rfl, hn, hX, hbx⟩ := hrel
        by_cases hni : n < i
        · obtain ⟨⟨pc2, x2, y2, pw2, ph2⟩, b2, o2, hp2, hA2, _, d0, d1, d2, d3, d4⟩ := pl_at hX.l (k := n) (by omega)
          injection hA2 with hA2
          injection hA2 with hA21 hA22
          subst hA21 hA22
          dsimp only at d0 d1 d2 d3 d4
          obtain ⟨_, gx, gy, gw⟩ := HF.out.at_ _ (List.mem_of_getElem? hp2)
          dsimp only at gx gy gw
          have hap : apB PK ⟨pc2, x2, y2, pw2, ph2⟩ ⟨pc, x, y, pw, ph⟩ = true := by
            have h9 := List.pairwise_iff_getElem.1 HF.out.ap n i (by omega) hlt hni
            rw [(List.getElem?_eq_some_iff.1 hp2).2, (List.getElem?_eq_some_iff.1 HP.out).2] at h9
            exact h9
          have hni2 : (n : Int) < (i : Int) := by omega
          have hnl : (n : Int) < (l.length : Int) := by omega
          have hbx2 := Blk.new W 38 #[.int .u8 pc2, .int .i64 x2, .int .i64 y2, .int .i64 pw2, .int .i64 ph2]
          have hal := (Below.refl W.heap.size W).alloc (Nat.le_refl _) (.cells #[.int .u8 pc2, .int .i64 x2, .int .i64 y2, .int .i64 pw2, .int .i64 ph2] 38)
          replace hX := hX.below hal
          have hbxl := hbx.lt
          replace hbx := hbx.below hal hbxl
          clear hal
          go_upto_region 22 with fail
          clear d0 d1 d2 d3 d4
          generalize W.heap.size = by2 at *
          generalize W.alloc (.cells #[.int .u8 pc2, .int .i64 x2, .int .i64 y2, .int .i64 pw2, .int .i64 ph2] 38) = W7 at *
          have x1' := hbx.cell_ 1 (v := .int .i64 x) rfl
          have x2' := hbx.cell_ 2 (v := .int .i64 y) rfl
          have x3' := hbx.cell_ 3 (v := .int .i64 pw) rfl
          have x4' := hbx.cell_ 4 (v := .int .i64 ph) rfl
          have y1 := hbx2.cell_ 1 (v := .int .i64 x2) rfl
          have y2' := hbx2.cell_ 2 (v := .int .i64 y2) rfl
          have y3 := hbx2.cell_ 3 (v := .int .i64 pw2) rfl
          have y4 := hbx2.cell_ 4 (v := .int .i64 ph2) rfl
          have z1 : IntKind.i64.wrap (x2 + pw2) = x2 + pw2 := IntWalk.i64_in _ (by omega)
          have z2 : IntKind.i64.wrap (x + pw) = x + pw := IntWalk.i64_in _ (by omega)
          have z3 : IntKind.i64.wrap (y2 + ph2) = y2 + ph2 := IntWalk.i64_in _ (by omega)
          have z4 : IntKind.i64.wrap (y + ph) = y + ph := IntWalk.i64_in _ (by omega)
          have en : IntKind.i64.wrap ((n : Int) + 1) = ((n + 1 : Nat) : Int) := by rw [IntWalk.i64_in _ (by omega)]; push_cast; rfl
          unfold apB at hap
          simp only [Bool.or_eq_true, decide_eq_true_eq] at hap
          have HAP := hide hap
          clear hap hp2 hnl hbxl hbx2
          by_cases a1 : x < x2 + pw2
          case neg =>
            clear HAP
            go_wp2_with fail
            go_roundw
            case rel => exact ⟨n + 1, by go_num, by omega, hX, hbx⟩
            case measure => simp [intOf]; omega
          by_cases a2 : x2 < x + pw
          case neg =>
            clear HAP
            go_wp2_with fail
            go_roundw
            case rel => exact ⟨n + 1, by go_num, by omega, hX, hbx⟩
            case measure => simp [intOf]; omega
          by_cases a3 : y < y2 + ph2
          case neg =>
            clear HAP
            go_wp2_with fail
            go_roundw
            case rel => exact ⟨n + 1, by go_num, by omega, hX, hbx⟩
            case measure => simp [intOf]; omega
          have a4 : ¬ y2 < y + ph := by have := HAP.out; omega
          clear HAP
          go_wp2_with fail
          go_roundw
          case rel => exact ⟨n + 1, by go_num, by omega, hX, hbx⟩
          case measure => simp [intOf]; omega
        · obtain rfl : n = i := by omega
          have en : IntKind.i64.wrap ((n : Int) + 1) = ((n + 1 : Nat) : Int) := by rw [IntWalk.i64_in _ (by omega)]; push_cast; rfl
          go_wp2_with fail
          go_roundw
          case rel => exact ⟨n + 1, by go_num, by omega, hX⟩
          case measure => simp [intOf]; omega
    · obtain rfl : i = l.length := by omega
      rw [List.drop_length, List.map_nil] at hX
      have hX2 : AC w W3.heap.size g #[.string s, .int .i64 PW, .int .i64 PH, .int .i64 PK, .slice A kl.length c] A1 l A kl (List.replicate kl.length 0) W := hX
      clear hX
      go_upto_block 25 with fail
      obtain ⟨W9, rfl⟩ : ∃ X : World, X = W := ⟨_, rfl⟩
      go_loopw [14] (fun z wr => ∃ k : Nat, z = .int .i64 k ∧ k ≤ kl.length ∧ AC w W3.heap.size g #[.string s, .int .i64 PW, .int .i64 PH, .int .i64 PK, .slice A kl.length c] A1 l A kl (List.replicate kl.length 0) wr) (fun z _ => kl.length - (intOf z).toNat)
      case atStart => exact ⟨0, rfl, Nat.zero_le _, hX2⟩
      case round =>
        clear hX2
        obtain ⟨W, rfl⟩ : ∃ X : World, X = wr := ⟨_, rfl⟩
        obtain ⟨k, rfl, hk, hX⟩ := hrel
        by_cases hkl : k < kl.length
        · have hki : (k : Int) < (kl.length : Int) := by omega
          have u0 := hX.u.cell_ k (intJ_get (v := 0) (by rw [List.getElem?_replicate, if_pos hkl]))
          have en : IntKind.i64.wrap ((k : Int) + 1) = ((k + 1 : Nat) : Int) := by rw [IntWalk.i64_in _ (by omega)]; push_cast; rfl
          go_wp2_with fail
          go_roundw
          case rel => exact ⟨k + 1, by go_num, by omega, hX⟩
          case measure => simp [intOf]; omega
        · obtain rfl : k = kl.length := by omega
          have hB := hX.b
          clear hX
          go_wp2_with fail
          refine (kawake_any _).mono ?_
          rintro e W ⟨rfl, hb⟩
          replace hB := hB.trans (hb.mono hB.size)
          clear hb
          go_wp2_with fail
          go_ret
          exact ⟨rfl, hB⟩
end Go.Proofs.YtecaaimaeaocbaaDoor
