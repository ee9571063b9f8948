/- The end of a plan: the plain words. -/
import Derived.Test.YtcpnfcnobnjhdaaRight
namespace Go.Proofs.Ytcpnfcnobnjhdaa
open Go Go.Sort Go.RowKit StabAt
theorem sortA_perm (l : List At) : (sortA l).Perm l := by
  obtain ⟨s, _, h2, h3⟩ := fold_sorted l 0 [] List.Pairwise.nil (fun b hb => by cases hb)
  have : sortA l = s.map (·.1) := by rw [h3]; rfl
  rw [this]
  have h4 := h2.map (·.1)
  refine h4.trans ?_
  simp
theorem sortA_mem {l : List At} {a : At} : a ∈ sortA l ↔ a ∈ l := (sortA_perm l).mem_iff
/-- the greatest end, 0 at least -/
def endL (l : List At) (m : Int) : Int := l.foldl (fun m a => max m a.end_) m
theorem endL_cons (a : At) (l : List At) (m : Int) : endL (a :: l) m = endL l (max m a.end_) := rfl
theorem endL_drop {l : List At} {k : Nat} {a : At} {m : Int} (h : l[k]? = some a) : endL (l.drop k) m = endL (l.drop (k + 1)) (max m a.end_) := by
  obtain ⟨hl, hf⟩ := List.getElem?_eq_some_iff.1 h
  rw [List.drop_eq_getElem_cons hl, hf]; rfl
theorem endL_is : ∀ (l : List At) (m : Int), m ≤ endL l m ∧ (∀ a ∈ l, a.end_ ≤ endL l m) ∧ (endL l m = m ∨ ∃ a ∈ l, endL l m = a.end_)
  | [], m => ⟨Int.le_refl _, (fun a h => by cases h), .inl rfl⟩
  | b :: l, m => by
    rw [endL_cons]
    obtain ⟨h1, h2, h3⟩ := endL_is l (max m b.end_)
    refine ⟨by omega, fun a ha => ?_, ?_⟩
    · rcases List.mem_cons.1 ha with rfl | ha
      · omega
      · exact h2 a ha
    · rcases h3 with h3 | ⟨a, ha, h3⟩
      · rw [h3]
        by_cases hc : m ≤ b.end_
        · exact .inr ⟨b, by simp, by omega⟩
        · exact .inl (by omega)
      · exact .inr ⟨a, by simp [ha], h3⟩
theorem endL_perm {l l' : List At} (h : l.Perm l') (m : Int) : endL l m = endL l' m := by
  obtain ⟨a1, a2, a3⟩ := endL_is l m
  obtain ⟨b1, b2, b3⟩ := endL_is l' m
  have c1 : endL l m ≤ endL l' m := by
    rcases a3 with a3 | ⟨a, ha, a3⟩
    · omega
    · have := b2 a (h.mem_iff.1 ha); omega
  have c2 : endL l' m ≤ endL l m := by
    rcases b3 with b3 | ⟨a, ha, b3⟩
    · omega
    · have := a2 a (h.mem_iff.2 ha); omega
  omega
/-- what right hands back, as one form -/
noncomputable def rightL (p : Shop) (pl : List (List Int)) : List At := if (judgeF p pl).2.2 = 0 then sortA (ats p pl) else []
theorem RightPost.form {p : Shop} {pl : List (List Int)} {w w' : World} {e : Ending} (h : RightPost p pl w e w') :
    ∃ A c, e = .returned (.tuple #[.slice A (rightL p pl).length c, .int .i64 (judgeF p pl).2.2]) ∧ Below w.heap.size w w' ∧ Slc At.enc 7 w' w'.heap.size A (rightL p pl) := by
  obtain ⟨hb, ⟨h1, h2⟩ | ⟨h1, A, c, h2, h3⟩⟩ := h
  · exact ⟨none, 0, by unfold rightL; rw [if_neg h1, h2]; rfl, hb, by unfold rightL; rw [if_neg h1]; exact Slc.nil_⟩
  · exact ⟨A, c, by unfold rightL; rw [if_pos h1, h2, h1], hb, by unfold rightL; rw [if_pos h1]; exact h3⟩
theorem rightL_ok {p : Shop} (hv : VShop p) {pl : List (List Int)} {a : At} (h : a ∈ rightL p pl) : AtOk p pl a := by
  unfold rightL at h
  split at h
  · rename_i hz
    exact ats_ok hv (shaped_facts (judge_shaped hz)) (sortA_mem.1 h)
  · cases h
theorem rightL_len {p : Shop} (hv : VShop p) (pl : List (List Int)) : (rightL p pl).length ≤ 96 := by
  have h1 := ents_len hv
  have h2 := ats_len p pl
  unfold rightL
  split
  · rw [sortA_len]; omega
  · exact Nat.zero_le _
/-- End: the greatest end of a right plan -/
noncomputable def endV (p : Shop) (pl : List (List Int)) : Int := endL (rightL p pl) 0
set_option maxRecDepth 100000 in
set_option maxHeartbeats 2000000 in
theorem apiEnd_any (s : Sh) (A : Option Addr) (c : Nat) (pl : List (List Int)) (w : World) (hS : ShAt w w.heap.size s) (hvB : validShop s.p = true) (hP : Plan w w.heap.size A pl) (hf : PFits pl) :
    Calls Try.prog 39 #[.agg #[.int .i64 s.p.op, .int .i64 s.p.cl, .slice s.aH s.p.hol.length s.cH, .int .i64 s.p.mach, .slice s.aS s.p.setup.length s.cS, .slice s.aJ s.p.jobs.length s.cJ], .slice A pl.length c] w fun e w' => e = .returned (.tuple #[.int .i64 (endV s.p pl), .int .i64 (judgeF s.p pl).2.2]) ∧ Below w.heap.size w w' := by
  have hv := valid_facts hvB
  have HE : Hid (endV s.p pl = endL ((rightL s.p pl).drop 0) 0) := rfl
  have hln := rightL_len hv pl
  have HOK := hide (fun (a : At) (h : a ∈ rightL s.p pl) => rightL_ok hv h)
  have hk := Blk.new w 25 #[.int .i64 s.p.op, .int .i64 s.p.cl, .slice s.aH s.p.hol.length s.cH, .int .i64 s.p.mach, .slice s.aS s.p.setup.length s.cS, .slice s.aJ s.p.jobs.length s.cJ]
  have hB := (Below.refl w.heap.size w).alloc (Nat.le_refl _) (.cells #[.int .i64 s.p.op, .int .i64 s.p.cl, .slice s.aH s.p.hol.length s.cH, .int .i64 s.p.mach, .slice s.aS s.p.setup.length s.cS, .slice s.aJ s.p.jobs.length s.cJ] 25)
  go_enter Try.func39, Try.ntmps39
  go_wp2_with fail
  generalize w.alloc (.cells #[.int .i64 s.p.op, .int .i64 s.p.cl, .slice s.aH s.p.hol.length s.cH, .int .i64 s.p.mach, .slice s.aS s.p.setup.length s.cS, .slice s.aJ s.p.jobs.length s.cJ] 25) = W at *
  have c0 := hk.cell_ 0 rfl
  have c1 := hk.cell_ 1 rfl
  have c2 := hk.cell_ 2 rfl
  have c3 := hk.cell_ 3 rfl
  have c4 := hk.cell_ 4 rfl
  have c5 := hk.cell_ 5 rfl
  go_wp2_with fail
  refine (right_any s A c pl _ (hS.on hB) hvB (hP.on hB) hf).mono ?_
  rintro e W2 hR
  obtain ⟨AL, cL, rfl, hb, hL⟩ := hR.form
  replace hB := hB.trans (hb.mono hB.size)
  clear hb hR hk c0 c1 c2 c3 c4 c5
  generalize rightL s.p pl = L at *
  obtain ⟨z, hz⟩ : ∃ z, (judgeF s.p pl).2.2 = z := ⟨_, rfl⟩
  rw [hz]
  have HZ := hide hz
  clear hz
  obtain ⟨W, rfl⟩ : ∃ W : World, W = W2 := ⟨_, rfl⟩
  go_wp2_with fail
  go_loopw [8, 19] (fun x y W => ∃ (i : Nat) (m : Int), x = .int .i64 m ∧ y = .int .i64 i ∧ i ≤ L.length ∧ 0 ≤ m ∧ m ≤ 2000000000 ∧ Hid (endV s.p pl = endL (L.drop i) m) ∧ Slc At.enc 7 W W.heap.size AL L ∧ Below w.heap.size w W) (fun x y _ => L.length - (intOf y).toNat)
  case atStart => exact ⟨0, 0, rfl, rfl, Nat.zero_le _, Int.le_refl _, by omega, HE, hL, hB⟩
  case round =>
    clear hL hB
    obtain ⟨W, rfl⟩ : ∃ W : World, W = wr := ⟨_, rfl⟩
    obtain ⟨i, m, rfl, rfl, hi, hm0, hm1, HS, hL, hB⟩ := hrel
    by_cases hlt : i < L.length
    · obtain ⟨a, ha⟩ : ∃ a, L[i]? = some a := ⟨_, List.getElem?_eq_getElem hlt⟩
      obtain ⟨b, off, hA, hb0, d0, d1, d2, d3, d4, d5, d6⟩ := at7 hL ha
      have hok := HOK.out a (List.mem_of_getElem? ha)
      have o1 := hok.t0
      have o2 := hok.t1
      have o3 := (hok.fit hv).mi0
      have o4 := (hok.fit hv).mi1
      have HST := hide (endL_drop (m := m) ha)
      clear ha hok
      subst hA
      have hij : (i : Int) < (L.length : Int) := by omega
      go_wp2_with fail
      have hx := Blk.new W 91 #[.int .i64 a.j, .int .i64 a.k, .int .i64 a.t, .int .i64 a.x.m, .int .i64 a.x.mi, .int .i64 a.x.c, .int .i64 a.x.d]
      replace hL := (hL.below ((Below.refl _ W).alloc (Nat.le_refl _) (.cells #[.int .i64 a.j, .int .i64 a.k, .int .i64 a.t, .int .i64 a.x.m, .int .i64 a.x.mi, .int .i64 a.x.c, .int .i64 a.x.d] 91))).more ((Below.refl _ W).alloc (Nat.le_refl _) (.cells #[.int .i64 a.j, .int .i64 a.k, .int .i64 a.t, .int .i64 a.x.m, .int .i64 a.x.mi, .int .i64 a.x.c, .int .i64 a.x.d] 91)).size
      replace hB := hB.alloc hB.size (.cells #[.int .i64 a.j, .int .i64 a.k, .int .i64 a.t, .int .i64 a.x.m, .int .i64 a.x.mi, .int .i64 a.x.c, .int .i64 a.x.d] 91)
      generalize W.alloc (.cells #[.int .i64 a.j, .int .i64 a.k, .int .i64 a.t, .int .i64 a.x.m, .int .i64 a.x.mi, .int .i64 a.x.c, .int .i64 a.x.d] 91) = W at *
      have a0 := hx.cell_ 0 rfl
      have a1 := hx.cell_ 1 rfl
      have a2 := hx.cell_ 2 rfl
      have a3 := hx.cell_ 3 rfl
      have a4 := hx.cell_ 4 rfl
      have a5 := hx.cell_ 5 rfl
      have a6 := hx.cell_ 6 rfl
      clear d0 d1 d2 d3 d4 d5 d6
      go_wp2_with fail
      refine (end_any a _ ⟨by omega, by omega⟩ ⟨o3, by omega⟩).mono ?_
      rintro e W ⟨rfl, hb⟩
      clear a0 a1 a2 a3 a4 a5 a6
      replace hL := (hL.below hb).more hb.size
      replace hx := hx.below hb hx.lt
      replace hB := hB.trans (hb.mono hB.size)
      clear hb
      have a0 := hx.cell_ 0 rfl
      have a1 := hx.cell_ 1 rfl
      have a2 := hx.cell_ 2 rfl
      have a3 := hx.cell_ 3 rfl
      have a4 := hx.cell_ 4 rfl
      have a5 := hx.cell_ 5 rfl
      have a6 := hx.cell_ 6 rfl
      have HS2 : Hid (endV s.p pl = endL (L.drop (i + 1)) (max m (a.t + a.x.mi))) := by show _ = _; rw [HS.out, HST.out]; rfl
      go_wp2_with fail
      go_roundw
      case rel => exact ⟨i + 1, max m (a.t + a.x.mi), rfl, by go_num, by omega, by omega, by omega, HS2, hL, hB⟩
      case measure => simp [intOf]; omega
    · obtain rfl : i = L.length := by omega
      have HV : Hid (endV s.p pl = m) := by show _ = _; rw [HS.out, nomore]; rfl
      go_wp2_with fail
      go_ret2
      exact ⟨ret_eq (by rw [HV.out, HZ.out]; rfl), hB⟩
end Go.Proofs.Ytcpnfcnobnjhdaa
