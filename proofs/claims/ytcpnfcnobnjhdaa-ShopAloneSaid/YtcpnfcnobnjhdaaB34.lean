/- Parts of the proofs of this seat: RefPull. Each part says what it proves; no condition beyond those stated there. -/
import Derived.Deep.DeepCutAuto
import Derived.Test.YtcpnfcnobnjhdaaB33

/- The reference's Pull: the walk. -/
namespace Go.Proofs.Ytcpnfcnobnjhdaa
open Go Go.Sort Go.RowKit StabAt
theorem OutOk.rowbd {p : Shop} {R : List At} {O : List (List Int)} (hq : SeqOk p R) (hp : Placed p R) (h : OutOk p R O) {j : Nat} {st : List Step} {l : List Int} (hj : p.jobs[j]? = some st) (hl : O[j]? = some l) (i : Nat) (t : Int) (ht : l[i]? = some t) : 0 ≤ t ∧ t ≤ 100000000 := by
  have hil : i < st.length := by rw [← h.row j st l hj hl]; exact (List.getElem?_eq_some_iff.1 ht).1
  obtain ⟨b, hb, rfl, rfl⟩ := hq.all j i st _ hj (List.getElem?_eq_getElem hil)
  have h1 := h.bd b hb
  rw [planAt_eq hl ht] at h1
  obtain ⟨q, hq'⟩ := List.getElem?_of_mem hb
  have := (hp q b hq').2
  omega
theorem prevO_room {p : Shop} {O : List (List Int)} {M : List At} {q : Nat} {a c : At} (h : M[q]? = some c) : prevO p O M (q + 1) a = max (rdyO p O a) (roomF p (atO O c) a.x.c) := by
  unfold prevO
  simp only
  rw [h]
/-- the plan of zeros -/
def zeroO (pl : List (List Int)) : List (List Int) := pl.map fun l => List.replicate l.length 0
theorem zeroO_at (pl : List (List Int)) (j k : Nat) : planAt (zeroO pl) j k = 0 := by
  unfold planAt zeroO
  simp only [List.getD_eq_getElem?_getD, List.getElem?_map]
  cases pl[j]? with
  | none => simp
  | some l =>
    simp only [Option.map_some, Option.getD_some, List.getElem?_replicate]
    split <;> rfl
theorem OutOk.start {p : Shop} {R : List At} {pl : List (List Int)} (hs : VPlan p pl) (hp : Placed p R) : OutOk p R (zeroO pl) := by
  refine ⟨by simp [zeroO, hs.len], fun j s l hj hl => ?_, fun b hb => ?_⟩
  · unfold zeroO at hl
    rw [List.getElem?_map] at hl
    cases h : pl[j]? with
    | none => rw [h] at hl; cases hl
    | some l0 =>
      rw [h] at hl
      simp only [Option.map_some, Option.some.injEq] at hl
      rw [← hl, List.length_replicate]
      exact (hs.at_ j l0 s h hj).1
  · rw [zeroO_at]
    obtain ⟨i, hi⟩ := List.getElem?_of_mem hb
    exact ⟨Int.le_refl _, (hp i b hi).2.1⟩
def RefPullPost (p : Shop) (pl : List (List Int)) (w : World) (e : Ending) (w' : World) : Prop := ∃ A c, e = .returned (.slice A (pullF p pl).length c) ∧ Below w.heap.size w w' ∧ Plan w' w'.heap.size A (pullF p pl)
/-- what is known where the step e = M[i] is looked at, and its start in O -/
structure LookAt (p : Shop) (R M : List At) (O : List (List Int)) (m i : Nat) (e b : At) (st : List Step) (l : List Int) (te : Int) : Prop where
  b_at : (R.filter (onB m))[i]? = some b
  bj : b.j = e.j
  bk : b.k = e.k
  bx : b.x = e.x
  job : p.jobs[e.j]? = some st
  step : st[e.k]? = some e.x
  row : O[e.j]? = some l
  len : l.length = st.length
  start : l[e.k]? = some te
  val : planAt O e.j e.k = te
  t0 : 0 ≤ te
  t1 : te ≤ 100000000
  mach : e.x.m = m
theorem look_at {p : Shop} (hv : VShop p) {R M : List At} {O : List (List Int)} {m i : Nat} {e : At} (hq : SeqOk p R) (hp : Placed p R) (h : OutOk p R O) (hk : M.map key = (R.filter (onB m)).map key) (he : M[i]? = some e) : ∃ b st l te, LookAt p R M O m i e b st l te := by
  obtain ⟨b, hb, e1, e2, e3⟩ := keys_get hk he
  have hbm := List.mem_filter.1 (List.mem_of_getElem? hb)
  obtain ⟨st, h1, h2⟩ := hq.ok b hbm.1
  rw [e1] at h1
  rw [e2, e3] at h2
  have hjl : e.j < O.length := by rw [h.len]; exact (List.getElem?_eq_some_iff.1 h1).1
  have hl : O[e.j]? = some O[e.j] := List.getElem?_eq_getElem hjl
  have hlen := h.row _ _ _ h1 hl
  have hkl : e.k < O[e.j].length := by rw [hlen]; exact (List.getElem?_eq_some_iff.1 h2).1
  have ht : O[e.j][e.k]? = some O[e.j][e.k] := List.getElem?_eq_getElem hkl
  have hbd := h.rowbd hq hp h1 hl _ _ ht
  refine ⟨b, st, _, _, hb, e1, e2, e3, h1, h2, hl, hlen, ht, planAt_eq hl ht, hbd.1, hbd.2, ?_⟩
  rw [← e3]; simpa [onB] using hbm.2
/- from the earliest start $1 on: $2 proves that it is prevO -/
theorem next_is_ (s : Sh) (t m v : Int) (w : World) (hS : ShAt w w.heap.size s) (hv : VShop s.p) (ht : 0 ≤ t) (ht' : t ≤ 100000000000) (hm : 1 ≤ m) (hm' : m ≤ s.p.cl - s.p.op) (h : nextF s.p t m = v) :
    Calls Try.prog 22 #[.agg #[.int .i64 s.p.op, .int .i64 s.p.cl, .slice s.aH s.p.hol.length s.cH, .int .i64 s.p.mach, .slice s.aS s.p.setup.length s.cS, .slice s.aJ s.p.jobs.length s.cJ], .int .i64 t, .int .i64 m] w fun e w' => e = .returned (.int .i64 v) ∧ Below w.heap.size w w' := by
  rw [← h]; exact refNext_any s t m w hS hv ht ht' hm hm'
set_option maxRecDepth 200000 in
set_option maxHeartbeats 8000000 in
theorem refPull_any (s : Sh) (A : Option Addr) (c : Nat) (pl : List (List Int)) (w : World) (hS : ShAt w w.heap.size s) (hv : VShop s.p) (hP : Plan w w.heap.size A pl) (hz : (judgeF s.p pl).2.2 = 0) :
    Calls Try.prog 45 #[.agg #[.int .i64 s.p.op, .int .i64 s.p.cl, .slice s.aH s.p.hol.length s.cH, .int .i64 s.p.mach, .slice s.aS s.p.setup.length s.cS, .slice s.aJ s.p.jobs.length s.cJ], .slice A pl.length c] w (RefPullPost s.p pl w) := by
  have hp := shaped_facts (judge_shaped hz)
  have hjn := hv.jobn
  have hm1 := hv.mach1
  have hm6 := hv.mach6
  have hpl := hp.len
  have HLN := hide (line_of hv (right_of hz))
  have HRQ := hide ((pull_alike s.p _).seq HLN.out.seq)
  have HRP := hide (pull_placed hv HLN.out)
  have HRK := hide ((pull_alike s.p (sortA (ats s.p pl))).keys)
  have hPF : Hid (pullF s.p pl = planR s.p (pullL s.p [] (sortA (ats s.p pl)))) := rfl
  have HPLN := hide hpl
  have hpl12 : pl.length ≤ 12 := by omega
  clear HLN hz hpl
  generalize pullL s.p [] (sortA (ats s.p pl)) = R at *
  have hok0 := OutOk.start hp HRP.out
  obtain ⟨p, aH, cH, aS, cS, aJ, cJ⟩ := s
  dsimp only at *
  obtain ⟨bs, offs, hAS⟩ : ∃ bs offs, aS = some ⟨bs, offs, none⟩ := by
    have hl := hv.setn
    have h0 : p.setup[0]? = some (p.setup[0]'(by omega)) := List.getElem?_eq_getElem _
    obtain ⟨bs, offs, hA, _⟩ := int_at hS.setup h0
    exact ⟨bs, offs, hA⟩
  subst hAS
  have HMK := hide (fun (n : Nat) (hn : n ≤ 1000000) => run_make1 (P := Try.prog) (bytes := 8) (z := .int .i64 0) Try.underlying22 (by kernel_rfl) rfl (by omega) n hn)
  have hk := Blk.new w 25 #[.int .i64 p.op, .int .i64 p.cl, .slice aH p.hol.length cH, .int .i64 p.mach, .slice (some ⟨bs, offs, none⟩) p.setup.length cS, .slice aJ p.jobs.length cJ]
  have hB := (Below.refl w.heap.size w).alloc (Nat.le_refl _) (.cells #[.int .i64 p.op, .int .i64 p.cl, .slice aH p.hol.length cH, .int .i64 p.mach, .slice (some ⟨bs, offs, none⟩) p.setup.length cS, .slice aJ p.jobs.length cJ] 25)
  go_enter Try.func45, Try.ntmps45
  go_wp2_with fail
  generalize w.alloc (.cells #[.int .i64 p.op, .int .i64 p.cl, .slice aH p.hol.length cH, .int .i64 p.mach, .slice (some ⟨bs, offs, none⟩) p.setup.length cS, .slice aJ p.jobs.length cJ] 25) = W at *
  obtain ⟨base, hbase⟩ : ∃ n, n = W.heap.size := ⟨_, rfl⟩
  have hlk := hk.lt
  have hwb : w.heap.size < base := by omega
  have hz : base ≤ W.heap.size := Nat.le_of_eq hbase
  have hO := OutL.start base W
  clear hbase hlk
  go_loopw [5, 6] (fun v x W => ∃ (j : Nat) (brs : List Nat), x = .int .i64 j ∧ j ≤ pl.length ∧ Blk W w.heap.size 25 #[.int .i64 p.op, .int .i64 p.cl, .slice aH p.hol.length cH, .int .i64 p.mach, .slice (some ⟨bs, offs, none⟩) p.setup.length cS, .slice aJ p.jobs.length cJ] ∧ OutL base W v brs (zeroO (pl.take j)) ∧ base ≤ W.heap.size ∧ Below w.heap.size w W) (fun v x _ => pl.length - (intOf x).toNat)
  case atStart => exact ⟨0, [], rfl, Nat.zero_le _, hk, hO, hz, hB⟩
  case round =>
    clear hk hB hO hz
    obtain ⟨W, rfl⟩ : ∃ W : World, W = wr := ⟨_, rfl⟩
    obtain ⟨j, brs, rfl, hj, hk, hO, hz, hB⟩ := hrel
    have c0 := hk.cell_ 0 rfl
    have c1 := hk.cell_ 1 rfl
    have c2 := hk.cell_ 2 rfl
    have c3 := hk.cell_ 3 rfl
    have c4 := hk.cell_ 4 rfl
    have c5 := hk.cell_ 5 rfl
    by_cases hlt : j < pl.length
    · obtain ⟨l, hl⟩ : ∃ l, pl[j]? = some l := ⟨_, List.getElem?_eq_getElem hlt⟩
      obtain ⟨bp, offp, Ap, cp, hAp, hbp, hcp, _⟩ := plan_at (hP.on hB) hl
      have hst : p.jobs[j]? = some (p.jobs[j]'(by have := HPLN.out; omega)) := List.getElem?_eq_getElem (by have := HPLN.out; omega)
      have hll := (hp.at_ j l _ hl hst).1
      have hl8 := (hv.steps j _ hst).1
      have hl8' : l.length ≤ 8 := by omega
      have hzj : Hid (zeroO (pl.take j) ++ [List.replicate l.length 0] = zeroO (pl.take (j + 1))) := by
        show _ = _
        rw [List.take_add_one, hl]
        simp [zeroO]
      clear hl hst hll hl8
      subst hAp
      have hmk : ∀ w, (Instr.makeSlice 22 (.int .i64 l.length) (.int .i64 l.length)).run Try.prog w = .ok (.slice (some ⟨w.heap.size, 0, none⟩) l.length l.length) (w.alloc (.cells (Array.replicate l.length (Value.int .i64 0)) 3)) := fun w => by
        have := HMK.out l.length (by omega) w
        simpa using this
      have hji : (j : Int) < (pl.length : Int) := by omega
      have HBC : Hid (Below W.heap.size W ((W.alloc (.cells (Array.replicate l.length (Value.int .i64 0)) 3)).alloc (.cells #[.slice (some ⟨W.heap.size, 0, none⟩) l.length l.length] 22))) := ((Below.refl W.heap.size W).alloc (Nat.le_refl _) _).alloc (by simp) _
      have HRW : Hid (Blk ((W.alloc (.cells (Array.replicate l.length (Value.int .i64 0)) 3)).alloc (.cells #[.slice (some ⟨W.heap.size, 0, none⟩) l.length l.length] 22)) W.heap.size 3 (ints (List.replicate l.length 0))) := by
        have h := (Blk.new W 3 (Array.replicate l.length (Value.int .i64 0))).alloc (.cells #[.slice (some ⟨W.heap.size, 0, none⟩) l.length l.length] 22)
        rw [ints_zero'] at h ⊢
        exact h
      have HBL : Hid (Blk ((W.alloc (.cells (Array.replicate l.length (Value.int .i64 0)) 3)).alloc (.cells #[.slice (some ⟨W.heap.size, 0, none⟩) l.length l.length] 22)) (W.heap.size + 1) 22 #[.slice (some ⟨W.heap.size, 0, none⟩) l.length l.length]) := by
        have h := Blk.new (W.alloc (.cells (Array.replicate l.length (Value.int .i64 0)) 3)) 22 #[.slice (some ⟨W.heap.size, 0, none⟩) l.length l.length]
        rw [show (W.alloc (.cells (Array.replicate l.length (Value.int .i64 0)) 3)).heap.size = W.heap.size + 1 by simp] at h
        exact h
      have hyE : rowE (W.heap.size, List.replicate l.length 0) = [.slice (some ⟨W.heap.size, 0, none⟩) l.length l.length] := by simp [rowE, rowV]
      have HY := hide hyE
      clear hyE
      have hol := hO.len
      have hzl : (brs.zip (zeroO (pl.take j))).length ≤ 1000000000 := by rw [List.length_zip, hol]; simp [zeroO]; have := HPLN.out; omega
      have HGE := hide (fun k (hk' : u5.ownBlock = some k) => (World.ownsRow.lt hO.own k hk').1)
      have HSL := hide (show zeroO (pl.take j) ++ [List.replicate l.length 0] = zeroO (pl.take (j + 1)) from hzj.out)
      clear hol
      go_wp2_with (at_builtin; refine wpList_app_lies _ _ rfl rfl et_rows (hO.below HBC.out).own rfl rfl (y := (W.heap.size, List.replicate l.length 0)) HBL.out HY.out.symm rfl (by rw [HY.out]; rfl) hzl (Nat.le_trans hz HBC.out.size) ?_; intro g cap W' hO' hg hvg hgl; have hO2 := hO.app hz HBC.out HRW.out hO' hg hvg; have hk2 := (hk.below HBC.out hk.lt).grownv hg (fun k hk' => by have := HGE.out k hk'; omega); have hB2 := (hB.trans (HBC.out.mono hB.size)).trans (grownv_below hg (Nat.le_trans hB.size HBC.out.size) (fun k hk' => by have := HGE.out k hk'; omega)); have hz2 := Nat.le_trans hz (Nat.le_trans HBC.out.size hg.size); clear c0 c1 c2 c3 c4 c5 hcp hO hk hB hz hO' hg hvg hgl)
      rw [HSL.out, List.length_zip] at hO2
      go_roundw
      case rel => exact ⟨j + 1, _, by go_num, by omega, hk2, hO2, hz2, hB2⟩
      case measure => simp [intOf]; omega
    · obtain rfl : j = pl.length := by omega
      rw [List.take_length] at hO
      obtain ⟨AO, cO, rfl, hOut⟩ := hO.done
      rw [show (zeroO pl).length = p.jobs.length by unfold zeroO; rw [List.length_map]; exact HPLN.out]
      clear hO
      clear hz
      go_wp2_with fail
      clear c0 c1 c2 c3 c4 c5
      go_loopg [7] (meas R (zeroO pl) + 1) (fun gk x W => ∃ (O : List (List Int)) (ag : Bool), x = .bool ag ∧ OutOk p R O ∧ Hid ((ag = true ∧ meas R O + 1 ≤ gk) ∨ (ag = false ∧ O = pullF p pl)) ∧ Blk W w.heap.size 25 #[.int .i64 p.op, .int .i64 p.cl, .slice aH p.hol.length cH, .int .i64 p.mach, .slice (some ⟨bs, offs, none⟩) p.setup.length cS, .slice aJ p.jobs.length cJ] ∧ OutAt base W AO brs O ∧ Below w.heap.size w W)
      case atStart => exact ⟨zeroO pl, true, rfl, hok0, hide (.inl ⟨rfl, Nat.le_refl _⟩), hk, hOut, hB⟩
      case round =>
        clear hk hB hOut
        obtain ⟨W, rfl⟩ : ∃ W : World, W = wr := ⟨_, rfl⟩
        obtain ⟨O, ag, rfl, hok, HAG, hk, hOut, hB⟩ := hrel
        cases ag with
        | false =>
          have HO : Hid (O = pullF p pl) := (HAG.out.resolve_left (fun h => by cases h.1)).2
          have HLE := hide hok.len
          have c0 := hk.cell_ 0 rfl
          have c1 := hk.cell_ 1 rfl
          have c2 := hk.cell_ 2 rfl
          have c3 := hk.cell_ 3 rfl
          have c4 := hk.cell_ 4 rfl
          have c5 := hk.cell_ 5 rfl
          go_wp2_with fail
          go_ret
          exact ⟨AO, cO, by rw [← HO.out, HLE.out]; rfl, hB, by rw [← HO.out]; exact hOut.plan_⟩
        | true =>
          have HMS : Hid (meas R O + 1 ≤ gk) := (HAG.out.resolve_right (fun h => by cases h.1)).2
          clear HAG
          have HR0 := hide (Rnd.start (p := p) HMS.out)
          obtain ⟨gk0, hgk0⟩ : ∃ g, g = gk := ⟨_, rfl⟩
          have HGK := hide hgk0
          rw [← hgk0] at HR0
          clear hgk0 HMS
          have c0 := hk.cell_ 0 rfl
          have c1 := hk.cell_ 1 rfl
          have c2 := hk.cell_ 2 rfl
          have c3 := hk.cell_ 3 rfl
          have c4 := hk.cell_ 4 rfl
          have c5 := hk.cell_ 5 rfl
          go_wp2_with fail
          clear c0 c1 c2 c3 c4 c5
          go_loopw [7, 8] (fun x y W => ∃ (m : Nat) (O : List (List Int)) (ag : Bool), x = .bool ag ∧ y = .int .i64 m ∧ (m : Int) ≤ p.mach ∧ OutOk p R O ∧ Hid (Rnd p R O gk0 m 0 ag) ∧ Blk W w.heap.size 25 #[.int .i64 p.op, .int .i64 p.cl, .slice aH p.hol.length cH, .int .i64 p.mach, .slice (some ⟨bs, offs, none⟩) p.setup.length cS, .slice aJ p.jobs.length cJ] ∧ OutAt base W AO brs O ∧ Below w.heap.size w W) (fun x y _ => p.mach.toNat - (intOf y).toNat)
          case atStart => exact ⟨0, O, false, rfl, rfl, (by omega), hok, HR0, hk, hOut, hB⟩
          case round =>
            clear hk hB hOut hok HR0
            obtain ⟨W, rfl⟩ : ∃ W : World, W = wr := ⟨_, rfl⟩
            obtain ⟨m, O, ag, rfl, rfl, hm, hok, hRN, hk, hOut, hB⟩ := hrel
            have c0 := hk.cell_ 0 rfl
            have c1 := hk.cell_ 1 rfl
            have c2 := hk.cell_ 2 rfl
            have c3 := hk.cell_ 3 rfl
            have c4 := hk.cell_ 4 rfl
            have c5 := hk.cell_ 5 rfl
            by_cases hlt : (m : Int) < p.mach
            · have HLT := hide (fun b (hb : b ∈ brs) => hOut.lt hb)
              have HKY : Hid ((sortA (onM (ats p pl) (m : Int))).map key = (R.filter (onB m)).map key) := by
                have h := filter_keys (m := (m : Int)) HRK.out
                rw [show (sortA (ats p pl)).filter (onB (m : Int)) = sortA (onM (ats p pl) (m : Int)) from sortA_filter _ _] at h
                exact h
              have hML : (sortA (onM (ats p pl) (m : Int))).length ≤ 96 := by
                have h1 := (sortA_perm (onM (ats p pl) (m : Int))).length_eq
                have h2 : (onM (ats p pl) (m : Int)).length ≤ (ats p pl).length := List.length_filter_le _ _
                have h3 := ats_len p pl
                have h4 := ents_len hv
                omega
              go_wp2_with fail
              refine (refOrder_new ⟨p, aH, cH, some ⟨bs, offs, none⟩, cS, aJ, cJ⟩ A c pl m _ (hS.on hB) hv (hP.on hB) hp).mono ?_
              rintro e W ⟨AL, cL, rfl, hb, hL, HGEX⟩
              clear c0 c1 c2 c3 c4 c5
              replace hk := hk.below hb hk.lt
              replace hOut := hOut.below hb
              replace hB := hB.trans (hb.mono hB.size)
              clear hb
              have c0 := hk.cell_ 0 rfl
              have c1 := hk.cell_ 1 rfl
              have c2 := hk.cell_ 2 rfl
              have c3 := hk.cell_ 3 rfl
              have c4 := hk.cell_ 4 rfl
              have c5 := hk.cell_ 5 rfl
              have HNE := hide (fun b off (h : AL = some ⟨b, off, none⟩) (hm : b ∈ brs) => show False by have h1 := HGEX b off h; have h2 := HLT.out b hm; omega)
              clear HGEX HLT
              dsimp only at hL ⊢
              generalize sortA (onM (ats p pl) (m : Int)) = M at *
              go_wp2_with fail
              clear c0 c1 c2 c3 c4 c5
              go_loopw [7, 10] (fun x y W => ∃ (i : Nat) (O : List (List Int)) (ag : Bool), x = .bool ag ∧ y = .int .i64 i ∧ i ≤ M.length ∧ OutOk p R O ∧ Hid (Rnd p R O gk0 m i ag) ∧ Blk W w.heap.size 25 #[.int .i64 p.op, .int .i64 p.cl, .slice aH p.hol.length cH, .int .i64 p.mach, .slice (some ⟨bs, offs, none⟩) p.setup.length cS, .slice aJ p.jobs.length cJ] ∧ OutAt base W AO brs O ∧ Slc AP 2 W W.heap.size AL M ∧ Below w.heap.size w W) (fun x y _ => M.length - (intOf y).toNat)
              case atStart => exact ⟨0, O, ag, rfl, rfl, Nat.zero_le _, hok, hRN, hk, hOut, hL, hB⟩
              case round =>
                clear hk hB hOut hok hRN hL
                obtain ⟨W, rfl⟩ : ∃ W : World, W = wr := ⟨_, rfl⟩
                obtain ⟨i, O, ag, rfl, rfl, hi, hok, hRN, hk, hOut, hL, hB⟩ := hrel
                have c0 := hk.cell_ 0 rfl
                have c1 := hk.cell_ 1 rfl
                have c2 := hk.cell_ 2 rfl
                have c3 := hk.cell_ 3 rfl
                have c4 := hk.cell_ 4 rfl
                have c5 := hk.cell_ 5 rfl
                by_cases hlt2 : i < M.length
                · obtain ⟨e, he⟩ : ∃ e, M[i]? = some e := ⟨_, List.getElem?_eq_getElem hlt2⟩
                  obtain ⟨b1, st, l, te, hlk⟩ := look_at hv HRQ.out HRP.out hok HKY.out he
                  have te0 := hlk.t0
                  have te1 := hlk.t1
                  obtain ⟨sm0, sm1, xm1, xm2, sc0, sc1, sd0, sd1⟩ := (hv.steps e.j st hlk.job).2 e.k e.x hlk.step
                  have i1 : (i : Int) < (M.length : Int) := by omega
                  have i2 : (e.j : Int) < (p.jobs.length : Int) := by have := (List.getElem?_eq_some_iff.1 hlk.job).1; omega
                  have i3 : (e.k : Int) < (l.length : Int) := by have := (List.getElem?_eq_some_iff.1 hlk.start).1; omega
                  have HPB : Hid (0 ≤ prevO p O M i e ∧ prevO p O M i e ≤ 100000000) := by
                    have h := refT_le hv HRQ.out HRP.out hok hlk.b_at
                    rw [← prevO_key HKY.out hlk.bj hlk.bk hlk.bx] at h
                    exact ⟨h.1, h.2.1⟩
                  obtain ⟨r, hr⟩ : ∃ r, rdyO p O e = r := ⟨_, rfl⟩
                  have HR := hide hr
                  have HE := hide he
                  have HLK := hide hlk
                  have HRB := hide (fun (i : Nat) (t : Int) (h : l[i]? = some t) => show 0 ≤ t ∧ t ≤ 1000000000 by have := hok.rowbd HRQ.out HRP.out hlk.job hlk.row i t h; omega)
                  clear he hlk hr
                  obtain ⟨b, off, hAL, hb0, d0, d1⟩ := hL.at2 HE.out (v0 := .int .i64 e.j) (v1 := .int .i64 e.k) rfl
                  obtain ⟨br, bo, offo, hbr, hAO, hcp, hrow, hbrB, hboL⟩ := hOut.row HLK.out.row
                  subst hAL hAO
                  have HBR := hide hbr
                  clear hbr
                  have HSW := hS.on hB
                  have HPO := hOut.plan_
                  have HOL := hide hok.len
                  go_wp2_with fail
                  refine wp_region_quiet (C := fun w' => ∃ u : Since W, w' = u.w) (by kernel_rfl) (by kernel_rfl) (Since.start W) ?_
                  dsimp only
                  have y_c0 := Since.cell c0
                  have y_c1 := Since.cell c1
                  have y_c2 := Since.cell c2
                  have y_c3 := Since.cell c3
                  have y_c4 := Since.cell c4
                  have y_c5 := Since.cell c5
                  have y_d0 := Since.cell d0
                  have y_d1 := Since.cell d1
                  have y_hcp := Since.cell hcp
                  clear c0 c1 c2 c3 c4 c5
                  repeat (go_big_quiet_step ((go_at_call 63; exact Since.calls (readyO_is ⟨p, aH, cH, some ⟨bs, offs, none⟩, cS, aJ, cJ⟩ (some ⟨bo, offo, none⟩) p.jobs.length cO O e st l r _ (HSW.on (Since.h _)) hv (HPO.on (Since.h _)) HOL.out HLK.out.job HLK.out.step HLK.out.row HLK.out.len HRB.out HR.out))))
                  refine wpQuiet_nil ?_
                  rintro W ⟨⟨_, hb⟩, rfl⟩
                  try dsimp only at hb ⊢
                  replace d0 : W.cell? _ = _ := y_d0 ⟨W, hb⟩
                  replace d1 : W.cell? _ = _ := y_d1 ⟨W, hb⟩
                  replace hcp : W.cell? _ = _ := y_hcp ⟨W, hb⟩
                  clear y_c0 y_c1 y_c2 y_c3 y_c4 y_c5 y_d0 y_d1 y_hcp
                  replace hk := hk.below hb hk.lt
                  replace hOut := hOut.below hb
                  replace hL := (hL.below hb).more hb.size
                  replace hrow := hrow.below hb hrow.lt
                  replace hB := hB.trans (hb.mono hB.size)
                  clear hb
                  have c0 := hk.cell_ 0 rfl
                  have c1 := hk.cell_ 1 rfl
                  have c2 := hk.cell_ 2 rfl
                  have c3 := hk.cell_ 3 rfl
                  have c4 := hk.cell_ 4 rfl
                  have c5 := hk.cell_ 5 rfl
                  rcases Nat.eq_zero_or_pos i with hi0 | hi0
                  · have hi9 : ¬ (0 : Int) < (i : Int) := by omega
                    have HI0 := hide hi0
                    clear hi0
                    have HPV : Hid (prevO p O M i e = r) := (by show _ = _; rw [HI0.out]; exact HR.out)
                    have hfr0 : 0 ≤ r := by rw [← HPV.out]; exact HPB.out.1
                    have hfr1 : r ≤ 100000000 := by rw [← HPV.out]; exact HPB.out.2
                    have HFR : Hid (refT p O M i e = nextF p (r) e.x.mi) := by show nextF p (prevO p O M i e) e.x.mi = _; rw [HPV.out]
                    obtain ⟨T, hT⟩ : ∃ T, nextF p (r) e.x.mi = T := ⟨_, rfl⟩
                    have HTT := hide hT
                    have HTB0 := hide (refT_le hv HRQ.out HRP.out hok HLK.out.b_at)
                    have hT0 : 0 ≤ T := by have h1 := HTB0.out.2.2.1; rw [← refT_key HKY.out HLK.out.bj HLK.out.bk HLK.out.bx, HFR.out, hT] at h1; exact h1
                    have HT1 : Hid (T ≤ b1.t) := by have h1 := HTB0.out.2.2.2.1; rw [← refT_key HKY.out HLK.out.bj HLK.out.bk HLK.out.bx, HFR.out, hT] at h1; exact h1
                    clear hT
                    have HSW3 := hS.on hB
                    have fs1 := fstep1
                    go_wp2_with fail
                    refine wp_region_quiet (C := fun w' => ∃ u : Since W, w' = u.w) (by kernel_rfl) (by kernel_rfl) (Since.start W) ?_
                    dsimp only
                    have y_c0 := Since.cell c0
                    have y_c1 := Since.cell c1
                    have y_c2 := Since.cell c2
                    have y_c3 := Since.cell c3
                    have y_c4 := Since.cell c4
                    have y_c5 := Since.cell c5
                    have y_d0 := Since.cell d0
                    have y_d1 := Since.cell d1
                    have y_hcp := Since.cell hcp
                    clear c0 c1 c2 c3 c4 c5
                    repeat (go_big_quiet_step ((first | (go_at_call 59; exact Since.calls (at_any ⟨p, aH, cH, some ⟨bs, offs, none⟩, cS, aJ, cJ⟩ e.j e.k st e.x _ (HSW3.on (Since.h _)) HLK.out.job HLK.out.step)) | (go_at_call 22; exact Since.calls (next_is_ ⟨p, aH, cH, some ⟨bs, offs, none⟩, cS, aJ, cJ⟩ (r) e.x.mi T _ (HSW3.on (Since.h _)) hv hfr0 (by omega) xm1 xm2 HTT.out)))))
                    refine wpQuiet_nil ?_
                    rintro W ⟨⟨_, hb⟩, rfl⟩
                    try dsimp only at hb ⊢
                    replace d0 : W.cell? _ = _ := y_d0 ⟨W, hb⟩
                    replace d1 : W.cell? _ = _ := y_d1 ⟨W, hb⟩
                    replace hcp : W.cell? _ = _ := y_hcp ⟨W, hb⟩
                    clear y_c0 y_c1 y_c2 y_c3 y_c4 y_c5 y_d0 y_d1 y_hcp
                    replace hk := hk.below hb hk.lt
                    replace hOut := hOut.below hb
                    replace hL := (hL.below hb).more hb.size
                    replace hrow := hrow.below hb hrow.lt
                    replace hB := hB.trans (hb.mono hB.size)
                    clear hb
                    have c0 := hk.cell_ 0 rfl
                    have c1 := hk.cell_ 1 rfl
                    have c2 := hk.cell_ 2 rfl
                    have c3 := hk.cell_ 3 rfl
                    have c4 := hk.cell_ 4 rfl
                    have c5 := hk.cell_ 5 rfl
                    have hct := hrow.cell_ e.k (ints_get HLK.out.start)
                    by_cases hgt : te < T
                    · go_wp2_with fail
                      refine wp_region_quiet (C := fun w' => ∃ u : Since W, w' = u.w) (by kernel_rfl) (by kernel_rfl) (Since.start W) ?_
                      dsimp only
                      have y_c0 := Since.cell c0
                      have y_c1 := Since.cell c1
                      have y_c2 := Since.cell c2
                      have y_c3 := Since.cell c3
                      have y_c4 := Since.cell c4
                      have y_c5 := Since.cell c5
                      have y_d0 := Since.cell d0
                      have y_d1 := Since.cell d1
                      have y_hcp := Since.cell hcp
                      have y_hct := Since.cell hct
                      clear c0 c1 c2 c3 c4 c5
                      repeat (go_big_quiet_step ((fail)))
                      refine wpQuiet_nil ?_
                      rintro W ⟨⟨_, hb⟩, rfl⟩
                      try dsimp only at hb ⊢
                      replace d0 : W.cell? _ = _ := y_d0 ⟨W, hb⟩
                      replace d1 : W.cell? _ = _ := y_d1 ⟨W, hb⟩
                      replace hcp : W.cell? _ = _ := y_hcp ⟨W, hb⟩
                      replace hct : W.cell? _ = _ := y_hct ⟨W, hb⟩
                      clear y_c0 y_c1 y_c2 y_c3 y_c4 y_c5 y_d0 y_d1 y_hcp y_hct
                      replace hk := hk.below hb hk.lt
                      replace hOut := hOut.below hb
                      replace hL := (hL.below hb).more hb.size
                      replace hrow := hrow.below hb hrow.lt
                      replace hB := hB.trans (hb.mono hB.size)
                      clear hb
                      have c0 := hk.cell_ 0 rfl
                      have c1 := hk.cell_ 1 rfl
                      have c2 := hk.cell_ 2 rfl
                      have c3 := hk.cell_ 3 rfl
                      have c4 := hk.cell_ 4 rfl
                      have c5 := hk.cell_ 5 rfl
                      have HSZ := hide (show e.k < (ints l).size by rw [ints_size, HLK.out.len]; exact (List.getElem?_eq_some_iff.1 HLK.out.step).1)
                      go_wp2_with fail
                      refine wp_region_quiet_tail (C := fun w' => ∃ u : Since W, w' = u.w) 15 (by kernel_rfl) (by kernel_rfl) (Since.start W) ?_
                      simp only [List.take_succ_cons, List.take_zero, List.drop_succ_cons, List.drop_zero]
                      have y_c0 := Since.cell c0
                      have y_c1 := Since.cell c1
                      have y_c2 := Since.cell c2
                      have y_c3 := Since.cell c3
                      have y_c4 := Since.cell c4
                      have y_c5 := Since.cell c5
                      have y_d0 := Since.cell d0
                      have y_d1 := Since.cell d1
                      have y_hcp := Since.cell hcp
                      clear c0 c1 c2 c3 c4 c5
                      repeat (go_big_quiet_step ((fail)))
                      refine wpQuiet_nil ?_
                      rintro W ⟨⟨_, hb⟩, rfl⟩
                      try dsimp only at hb ⊢
                      replace d0 : W.cell? _ = _ := y_d0 ⟨W, hb⟩
                      replace d1 : W.cell? _ = _ := y_d1 ⟨W, hb⟩
                      replace hcp : W.cell? _ = _ := y_hcp ⟨W, hb⟩
                      clear y_c0 y_c1 y_c2 y_c3 y_c4 y_c5 y_d0 y_d1 y_hcp
                      replace hk := hk.below hb hk.lt
                      replace hOut := hOut.below hb
                      replace hL := (hL.below hb).more hb.size
                      replace hrow := hrow.below hb hrow.lt
                      replace hB := hB.trans (hb.mono hB.size)
                      clear hb
                      have c0 := hk.cell_ 0 rfl
                      have c1 := hk.cell_ 1 rfl
                      have c2 := hk.cell_ 2 rfl
                      have c3 := hk.cell_ 3 rfl
                      have c4 := hk.cell_ 4 rfl
                      have c5 := hk.cell_ 5 rfl
                      go_wp2_with (refine wpList_store_at rfl 3 _ _ rfl (.int .i64 T) hrow rfl rfl (by kernel_rfl) rfl HSZ.out rfl ?_; intro W2 hrow2 hc2)
                      obtain ⟨hok2, hms⟩ := hok.raise (b := b1) (t := T) HRQ.out HTB0.out.2.2.2.2 (l := l) (by rw [HLK.out.bj]; exact HLK.out.row) (by rw [HLK.out.bj, HLK.out.bk, HLK.out.val]; exact hgt) HT1.out
                      rw [HLK.out.bj, HLK.out.bk] at hok2 hms
                      have hRN2 := hide (hRN.out.up (m' := m) (n' := i + 1) hms)
                      have hOut2 := hOut.set_ HBR.out HLK.out.row hrow2 hc2
                      have hL2 := hL.chgA hc2 (fun b' off' he' heq => HNE.out b' off' he' (by rw [heq]; exact List.mem_of_getElem? HBR.out))
                      have hsz2 := hc2.size
                      go_wp2_with fail
                      go_roundw
                      case rel => exact ⟨i + 1, _, true, rfl, by go_num, by omega, hok2, hRN2, hk.chg1 hc2 (by omega), hOut2, hL2.more hsz2, hB.trans (hc2.below1 hB.size (by omega))⟩
                      case measure => simp [intOf]; omega
                    · go_wp2_with fail
                      refine wp_region_quiet (C := fun w' => ∃ u : Since W, w' = u.w) (by kernel_rfl) (by kernel_rfl) (Since.start W) ?_
                      dsimp only
                      have y_c0 := Since.cell c0
                      have y_c1 := Since.cell c1
                      have y_c2 := Since.cell c2
                      have y_c3 := Since.cell c3
                      have y_c4 := Since.cell c4
                      have y_c5 := Since.cell c5
                      have y_d0 := Since.cell d0
                      have y_d1 := Since.cell d1
                      have y_hcp := Since.cell hcp
                      have y_hct := Since.cell hct
                      clear c0 c1 c2 c3 c4 c5
                      repeat (go_big_quiet_step ((fail)))
                      refine wpQuiet_nil ?_
                      rintro W ⟨⟨_, hb⟩, rfl⟩
                      try dsimp only at hb ⊢
                      replace d0 : W.cell? _ = _ := y_d0 ⟨W, hb⟩
                      replace d1 : W.cell? _ = _ := y_d1 ⟨W, hb⟩
                      replace hcp : W.cell? _ = _ := y_hcp ⟨W, hb⟩
                      replace hct : W.cell? _ = _ := y_hct ⟨W, hb⟩
                      clear y_c0 y_c1 y_c2 y_c3 y_c4 y_c5 y_d0 y_d1 y_hcp y_hct
                      replace hk := hk.below hb hk.lt
                      replace hOut := hOut.below hb
                      replace hL := (hL.below hb).more hb.size
                      replace hrow := hrow.below hb hrow.lt
                      replace hB := hB.trans (hb.mono hB.size)
                      clear hb
                      have c0 := hk.cell_ 0 rfl
                      have c1 := hk.cell_ 1 rfl
                      have c2 := hk.cell_ 2 rfl
                      have c3 := hk.cell_ 3 rfl
                      have c4 := hk.cell_ 4 rfl
                      have c5 := hk.cell_ 5 rfl
                      have hRN2 := hide (hRN.out.pass HLK.out.b_at (by rw [← refT_key HKY.out HLK.out.bj HLK.out.bk HLK.out.bx, HFR.out, HTT.out, HLK.out.bj, HLK.out.bk, HLK.out.val]; omega))
                      go_wp2_with fail
                      go_roundw
                      case rel => exact ⟨i + 1, O, ag, rfl, by go_num, by omega, hok, hRN2, hk, hOut, hL, hB⟩
                      case measure => simp [intOf]; omega
                  · have hi9 : (0 : Int) < (i : Int) := by omega
                    obtain ⟨q, hq⟩ : ∃ q, i = q + 1 := ⟨i - 1, by omega⟩
                    obtain ⟨f, hf⟩ : ∃ f, M[q]? = some f := ⟨_, List.getElem?_eq_getElem (by omega)⟩
                    obtain ⟨b2, st2, l2, tf, hlk2⟩ := look_at hv HRQ.out HRP.out hok HKY.out hf
                    have tf0 := hlk2.t0
                    have tf1 := hlk2.t1
                    obtain ⟨fm0, fm1, fi1, fi2, fc0, fc1, fd0, fd1⟩ := (hv.steps f.j st2 hlk2.job).2 f.k f.x hlk2.step
                    have j1 : (q : Int) < (M.length : Int) := by omega
                    have j2 : (f.j : Int) < (p.jobs.length : Int) := by have := (List.getElem?_eq_some_iff.1 hlk2.job).1; omega
                    have j3 : (f.k : Int) < (l2.length : Int) := by have := (List.getElem?_eq_some_iff.1 hlk2.start).1; omega
                    have HPQ : Hid (prevO p O M i e = max (rdyO p O e) (roomF p (atO O f) e.x.c)) := by show _ = _; rw [hq]; exact prevO_room hf
                    have hrf : roomF p (atO O f) e.x.c = if f.x.c = e.x.c then tf + f.x.mi else tf + f.x.mi + setupOf p m := by
                      unfold roomF atO At.end_
                      rw [hlk2.val, hlk2.mach]
                    have e1 : IntKind.i64.wrap ((i : Int) - 1) = (q : Int) := by rw [IntWalk.i64_in _ (by omega)]; omega
                    have v0 := hv.op0
                    have v1 := hv.cl
                    have e2 : IntKind.i64.wrap (tf + f.x.mi) = tf + f.x.mi := IntWalk.i64_in _ (by omega)
                    obtain ⟨bx, offx, hALx, hbx, d2, d3⟩ := hL.at2 hf (v0 := .int .i64 f.j) (v1 := .int .i64 f.k) rfl
                    obtain ⟨br2, bo2, offo2, hbr2, hAO2, hcp2, hrow2, hbrB2, hboL2⟩ := hOut.row hlk2.row
                    obtain ⟨rfl, rfl⟩ : b = bx ∧ off = offx := by simpa using hALx
                    obtain ⟨rfl, rfl⟩ : bo = bo2 ∧ offo = offo2 := by simpa using hAO2
                    obtain ⟨hsu, hs0, hs1⟩ := setup_get hv (m := (m : Int)) (by omega) hlt
                    rw [Int.toNat_natCast] at hsu
                    obtain ⟨bsx, offsx, hASx, hbsx, hcs⟩ := int_at (hS.on hB).setup hsu
                    obtain ⟨rfl, rfl⟩ : bs = bsx ∧ offs = offsx := by simpa using hASx
                    have hsl : (m : Int) < (p.setup.length : Int) := by have := hv.setn; omega
                    generalize setupOf p m = S at *
                    have HLK2 := hide hlk2
                    have HRF := hide hrf
                    clear hALx hAO2 hASx hbr2 hq hf hlk2 hrf hsu
                    have HSW4 := hS.on hB
                    go_wp2_with fail
                    have z_c0 := hide (fun w' (hb : Below W.heap.size W w') => Since.later hb c0)
                    have z_c1 := hide (fun w' (hb : Below W.heap.size W w') => Since.later hb c1)
                    have z_c2 := hide (fun w' (hb : Below W.heap.size W w') => Since.later hb c2)
                    have z_c3 := hide (fun w' (hb : Below W.heap.size W w') => Since.later hb c3)
                    have z_c4 := hide (fun w' (hb : Below W.heap.size W w') => Since.later hb c4)
                    have z_c5 := hide (fun w' (hb : Below W.heap.size W w') => Since.later hb c5)
                    have z_d0 := hide (fun w' (hb : Below W.heap.size W w') => Since.later hb d0)
                    have z_d1 := hide (fun w' (hb : Below W.heap.size W w') => Since.later hb d1)
                    have z_d2 := hide (fun w' (hb : Below W.heap.size W w') => Since.later hb d2)
                    have z_d3 := hide (fun w' (hb : Below W.heap.size W w') => Since.later hb d3)
                    have z_hcp := hide (fun w' (hb : Below W.heap.size W w') => Since.later hb hcp)
                    have z_hcp2 := hide (fun w' (hb : Below W.heap.size W w') => Since.later hb hcp2)
                    have z_hcs := hide (fun w' (hb : Below W.heap.size W w') => Since.later hb hcs)
                    have hok : FldOk W ([⟨7, .ptr, (.cells #[.int .i64 0, .int .i64 0, .int .i64 0, .int .i64 0] 69), 7, (.cells #[.int .i64 0, .int .i64 0, .int .i64 0, .int .i64 0] 69)⟩]) [] := FldOk.nil_
                    refine wp_region_both 8 [0, 1, 2, 3, 4, 5, 6] [7] [⟨7, .ptr, (.cells #[.int .i64 0, .int .i64 0, .int .i64 0, .int .i64 0] 69), 7, (.cells #[.int .i64 0, .int .i64 0, .int .i64 0, .int .i64 0] 69)⟩] [] (fun f hf => by cases hf) (by kernel_rfl) (by kernel_rfl) (by kernel_rfl) (by kernel_rfl) (by kernel_rfl) (by simp) ?_
                    apply Exists.intro
                    refine ⟨fun W1 hc0 => ?_, ?_⟩
                    · have hb := hc0.nil_
                      have y_c0 := Since.cell (z_c0.out W1 hb)
                      have y_c1 := Since.cell (z_c1.out W1 hb)
                      have y_c2 := Since.cell (z_c2.out W1 hb)
                      have y_c3 := Since.cell (z_c3.out W1 hb)
                      have y_c4 := Since.cell (z_c4.out W1 hb)
                      have y_c5 := Since.cell (z_c5.out W1 hb)
                      have y_d0 := Since.cell (z_d0.out W1 hb)
                      have y_d1 := Since.cell (z_d1.out W1 hb)
                      have y_d2 := Since.cell (z_d2.out W1 hb)
                      have y_d3 := Since.cell (z_d3.out W1 hb)
                      have y_hcp := Since.cell (z_hcp.out W1 hb)
                      have y_hcp2 := Since.cell (z_hcp2.out W1 hb)
                      have y_hcs := Since.cell (z_hcs.out W1 hb)
                      replace hk := hk.below hb hk.lt
                      replace hOut := hOut.below hb
                      replace hL := (hL.below hb).more hb.size
                      replace hrow := hrow.below hb hrow.lt
                      replace hrow2 := hrow2.below hb hrow2.lt
                      replace hB := hB.trans (hb.mono hB.size)
                      dsimp only [pick, List.filterMap, List.getElem?_cons_succ, List.getElem?_cons_zero]
                      repeat (go_big_quiet_step ((go_at_call 59; exact Since.calls (at_any ⟨p, aH, cH, some ⟨bs, offs, none⟩, cS, aJ, cJ⟩ f.j f.k st2 f.x _ ((HSW4.on hb).on (Since.h _)) HLK2.out.job HLK2.out.step))))
                      exact wpQuiet_nil rfl
                    · refine ownWalk_alloc ⟨7, .ptr, (.cells #[.int .i64 0, .int .i64 0, .int .i64 0, .int .i64 0] 69), 7, (.cells #[.int .i64 0, .int .i64 0, .int .i64 0, .int .i64 0] 69)⟩ hok (by kernel_rfl) rfl rfl rfl rfl (fun _ => rfl) (by simp) (by simp) (fun _ => rfl) ?_
                      intro gxb
                      simp only [Shape.val, List.setIfInBounds_toArray, List.set_cons_succ, List.set_cons_zero]
                      refine ownWalk_nil ?_
                      intro w' hc0 hD
                      have hb := hc0.nil_
                      obtain ⟨gxge, gx⟩ := hD.box.get (x := ⟨7, .ptr, (.cells #[.int .i64 0, .int .i64 0, .int .i64 0, .int .i64 0] 69), 7, (.cells #[.int .i64 0, .int .i64 0, .int .i64 0, .int .i64 0] 69)⟩) (o := (.cells #[.int .i64 0, .int .i64 0, .int .i64 0, .int .i64 0] 69)) (by simp) rfl rfl
                      replace gx : Blk _ _ _ _ := gx
                      clear hD
                      try simp only [List.drop_succ_cons, List.drop_zero]
                      refine wpList_store_blk rfl 69 _ _ rfl #[.int .i64 f.x.m, .int .i64 f.x.mi, .int .i64 f.x.c, .int .i64 f.x.d] gx rfl rfl (by kernel_rfl) rfl (by simp [Value.oneCell']) ?_
                      clear gx
                      intro w0_ gx hoth
                      replace hb := hb.trans (hoth.below1 hb.size gxge)
                      clear hoth
                      try dsimp only [Act.put]
                      replace d0 : w0_.cell? _ = _ := z_d0.out w0_ hb
                      replace d1 : w0_.cell? _ = _ := z_d1.out w0_ hb
                      replace d2 : w0_.cell? _ = _ := z_d2.out w0_ hb
                      replace d3 : w0_.cell? _ = _ := z_d3.out w0_ hb
                      replace hcp : w0_.cell? _ = _ := z_hcp.out w0_ hb
                      replace hcp2 : w0_.cell? _ = _ := z_hcp2.out w0_ hb
                      replace hcs : w0_.cell? _ = _ := z_hcs.out w0_ hb
                      clear z_c0 z_c1 z_c2 z_c3 z_c4 z_c5 z_d0 z_d1 z_d2 z_d3 z_hcp z_hcp2 z_hcs
                      have hWge := hB.size
                      clear c0 c1 c2 c3 c4 c5
                      replace hk := hk.below hb hk.lt
                      replace hOut := hOut.below hb
                      replace hL := (hL.below hb).more hb.size
                      replace hrow := hrow.below hb hrow.lt
                      replace hrow2 := hrow2.below hb hrow2.lt
                      replace hB := hB.trans (hb.mono hB.size)
                      clear hb hok hc0
                      obtain ⟨W, rfl⟩ : ∃ W : World, W = w0_ := ⟨_, rfl⟩
                      have c0 := hk.cell_ 0 rfl
                      have c1 := hk.cell_ 1 rfl
                      have c2 := hk.cell_ 2 rfl
                      have c3 := hk.cell_ 3 rfl
                      have c4 := hk.cell_ 4 rfl
                      have c5 := hk.cell_ 5 rfl
                      have x0 := gx.cell_ 0 rfl
                      have x1 := gx.cell_ 1 rfl
                      have x2 := gx.cell_ 2 rfl
                      have x3 := gx.cell_ 3 rfl
                      replace hrow2 := hrow2
                      have hct2 := hrow2.cell_ f.k (ints_get HLK2.out.start)
                      go_wp2_with fail
                      refine wp_region_quiet (C := fun w' => ∃ u : Since W, w' = u.w) (by kernel_rfl) (by kernel_rfl) (Since.start W) ?_
                      dsimp only
                      have y_c0 := Since.cell c0
                      have y_c1 := Since.cell c1
                      have y_c2 := Since.cell c2
                      have y_c3 := Since.cell c3
                      have y_c4 := Since.cell c4
                      have y_c5 := Since.cell c5
                      have y_x0 := Since.cell x0
                      have y_x1 := Since.cell x1
                      have y_x2 := Since.cell x2
                      have y_x3 := Since.cell x3
                      have y_d0 := Since.cell d0
                      have y_d1 := Since.cell d1
                      have y_d2 := Since.cell d2
                      have y_d3 := Since.cell d3
                      have y_hcp := Since.cell hcp
                      have y_hcp2 := Since.cell hcp2
                      have y_hct2 := Since.cell hct2
                      have y_hcs := Since.cell hcs
                      clear c0 c1 c2 c3 c4 c5 x0 x1 x2 x3
                      repeat (go_big_quiet_step ((fail)))
                      refine wpQuiet_nil ?_
                      rintro W ⟨⟨_, hb⟩, rfl⟩
                      try dsimp only at hb ⊢
                      replace d0 : W.cell? _ = _ := y_d0 ⟨W, hb⟩
                      replace d1 : W.cell? _ = _ := y_d1 ⟨W, hb⟩
                      replace d2 : W.cell? _ = _ := y_d2 ⟨W, hb⟩
                      replace d3 : W.cell? _ = _ := y_d3 ⟨W, hb⟩
                      replace hcp : W.cell? _ = _ := y_hcp ⟨W, hb⟩
                      replace hcp2 : W.cell? _ = _ := y_hcp2 ⟨W, hb⟩
                      replace hct2 : W.cell? _ = _ := y_hct2 ⟨W, hb⟩
                      replace hcs : W.cell? _ = _ := y_hcs ⟨W, hb⟩
                      clear y_c0 y_c1 y_c2 y_c3 y_c4 y_c5 y_x0 y_x1 y_x2 y_x3 y_d0 y_d1 y_d2 y_d3 y_hcp y_hcp2 y_hct2 y_hcs
                      replace hk := hk.below hb hk.lt
                      replace hOut := hOut.below hb
                      replace hL := (hL.below hb).more hb.size
                      replace hrow := hrow.below hb hrow.lt
                      replace hrow2 := hrow2.below hb hrow2.lt
                      replace gx := gx.below hb gx.lt
                      replace hB := hB.trans (hb.mono hB.size)
                      clear hb
                      have c0 := hk.cell_ 0 rfl
                      have c1 := hk.cell_ 1 rfl
                      have c2 := hk.cell_ 2 rfl
                      have c3 := hk.cell_ 3 rfl
                      have c4 := hk.cell_ 4 rfl
                      have c5 := hk.cell_ 5 rfl
                      have x0 := gx.cell_ 0 rfl
                      have x1 := gx.cell_ 1 rfl
                      have x2 := gx.cell_ 2 rfl
                      have x3 := gx.cell_ 3 rfl
                      clear d2 d3 hcp2 hct2
                      have fs2 := fstep2
                      have HSW5 := hS.on hB
                      by_cases hcol : f.x.c = e.x.c
                      · have hcb : (f.x.c != e.x.c) = false := by simpa using hcol
                        have HRM : Hid (roomF p (atO O f) e.x.c = tf + f.x.mi) := by show _ = _; rw [HRF.out, if_pos hcol]
                        clear hcol
                        go_wp2_with fail
                        refine wp_region_quiet (C := fun w' => ∃ u : Since W, w' = u.w) (by kernel_rfl) (by kernel_rfl) (Since.start W) ?_
                        dsimp only
                        have y_c0 := Since.cell c0
                        have y_c1 := Since.cell c1
                        have y_c2 := Since.cell c2
                        have y_c3 := Since.cell c3
                        have y_c4 := Since.cell c4
                        have y_c5 := Since.cell c5
                        have y_x0 := Since.cell x0
                        have y_x1 := Since.cell x1
                        have y_x2 := Since.cell x2
                        have y_x3 := Since.cell x3
                        have y_d0 := Since.cell d0
                        have y_d1 := Since.cell d1
                        have y_hcp := Since.cell hcp
                        clear c0 c1 c2 c3 c4 c5 x0 x1 x2 x3
                        repeat (go_big_quiet_step ((go_at_call 59; exact Since.calls (at_any ⟨p, aH, cH, some ⟨bs, offs, none⟩, cS, aJ, cJ⟩ e.j e.k st e.x _ (HSW5.on (Since.h _)) HLK.out.job HLK.out.step))))
                        refine wpQuiet_nil ?_
                        rintro W ⟨⟨_, hb⟩, rfl⟩
                        try dsimp only at hb ⊢
                        replace d0 : W.cell? _ = _ := y_d0 ⟨W, hb⟩
                        replace d1 : W.cell? _ = _ := y_d1 ⟨W, hb⟩
                        replace hcp : W.cell? _ = _ := y_hcp ⟨W, hb⟩
                        clear y_c0 y_c1 y_c2 y_c3 y_c4 y_c5 y_x0 y_x1 y_x2 y_x3 y_d0 y_d1 y_hcp
                        replace hk := hk.below hb hk.lt
                        replace hOut := hOut.below hb
                        replace hL := (hL.below hb).more hb.size
                        replace hrow := hrow.below hb hrow.lt
                        replace hrow2 := hrow2.below hb hrow2.lt
                        replace gx := gx.below hb gx.lt
                        replace hB := hB.trans (hb.mono hB.size)
                        clear hb
                        have c0 := hk.cell_ 0 rfl
                        have c1 := hk.cell_ 1 rfl
                        have c2 := hk.cell_ 2 rfl
                        have c3 := hk.cell_ 3 rfl
                        have c4 := hk.cell_ 4 rfl
                        have c5 := hk.cell_ 5 rfl
                        have x0 := gx.cell_ 0 rfl
                        have x1 := gx.cell_ 1 rfl
                        have x2 := gx.cell_ 2 rfl
                        have x3 := gx.cell_ 3 rfl
                        have HPV : Hid (prevO p O M i e = (max r (tf + f.x.mi))) := (by show _ = _; rw [HPQ.out, HRM.out, HR.out])
                        have hfr0 : 0 ≤ (max r (tf + f.x.mi)) := by rw [← HPV.out]; exact HPB.out.1
                        have hfr1 : (max r (tf + f.x.mi)) ≤ 100000000 := by rw [← HPV.out]; exact HPB.out.2
                        have HFR : Hid (refT p O M i e = nextF p ((max r (tf + f.x.mi))) e.x.mi) := by show nextF p (prevO p O M i e) e.x.mi = _; rw [HPV.out]
                        obtain ⟨T, hT⟩ : ∃ T, nextF p ((max r (tf + f.x.mi))) e.x.mi = T := ⟨_, rfl⟩
                        have HTT := hide hT
                        have HTB0 := hide (refT_le hv HRQ.out HRP.out hok HLK.out.b_at)
                        have hT0 : 0 ≤ T := by have h1 := HTB0.out.2.2.1; rw [← refT_key HKY.out HLK.out.bj HLK.out.bk HLK.out.bx, HFR.out, hT] at h1; exact h1
                        have HT1 : Hid (T ≤ b1.t) := by have h1 := HTB0.out.2.2.2.1; rw [← refT_key HKY.out HLK.out.bj HLK.out.bk HLK.out.bx, HFR.out, hT] at h1; exact h1
                        clear hT
                        have HSW3 := hS.on hB
                        have fs1 := fstep1
                        go_wp2_with fail
                        refine wp_region_quiet (C := fun w' => ∃ u : Since W, w' = u.w) (by kernel_rfl) (by kernel_rfl) (Since.start W) ?_
                        dsimp only
                        have y_c0 := Since.cell c0
                        have y_c1 := Since.cell c1
                        have y_c2 := Since.cell c2
                        have y_c3 := Since.cell c3
                        have y_c4 := Since.cell c4
                        have y_c5 := Since.cell c5
                        have y_x0 := Since.cell x0
                        have y_x1 := Since.cell x1
                        have y_x2 := Since.cell x2
                        have y_x3 := Since.cell x3
                        have y_d0 := Since.cell d0
                        have y_d1 := Since.cell d1
                        have y_hcp := Since.cell hcp
                        clear c0 c1 c2 c3 c4 c5 x0 x1 x2 x3
                        repeat (go_big_quiet_step ((first | (go_at_call 59; exact Since.calls (at_any ⟨p, aH, cH, some ⟨bs, offs, none⟩, cS, aJ, cJ⟩ e.j e.k st e.x _ (HSW3.on (Since.h _)) HLK.out.job HLK.out.step)) | (go_at_call 22; exact Since.calls (next_is_ ⟨p, aH, cH, some ⟨bs, offs, none⟩, cS, aJ, cJ⟩ ((max r (tf + f.x.mi))) e.x.mi T _ (HSW3.on (Since.h _)) hv hfr0 (by omega) xm1 xm2 HTT.out)))))
                        refine wpQuiet_nil ?_
                        rintro W ⟨⟨_, hb⟩, rfl⟩
                        try dsimp only at hb ⊢
                        replace d0 : W.cell? _ = _ := y_d0 ⟨W, hb⟩
                        replace d1 : W.cell? _ = _ := y_d1 ⟨W, hb⟩
                        replace hcp : W.cell? _ = _ := y_hcp ⟨W, hb⟩
                        clear y_c0 y_c1 y_c2 y_c3 y_c4 y_c5 y_x0 y_x1 y_x2 y_x3 y_d0 y_d1 y_hcp
                        replace hk := hk.below hb hk.lt
                        replace hOut := hOut.below hb
                        replace hL := (hL.below hb).more hb.size
                        replace hrow := hrow.below hb hrow.lt
                        replace hrow2 := hrow2.below hb hrow2.lt
                        replace gx := gx.below hb gx.lt
                        replace hB := hB.trans (hb.mono hB.size)
                        clear hb
                        have c0 := hk.cell_ 0 rfl
                        have c1 := hk.cell_ 1 rfl
                        have c2 := hk.cell_ 2 rfl
                        have c3 := hk.cell_ 3 rfl
                        have c4 := hk.cell_ 4 rfl
                        have c5 := hk.cell_ 5 rfl
                        have x0 := gx.cell_ 0 rfl
                        have x1 := gx.cell_ 1 rfl
                        have x2 := gx.cell_ 2 rfl
                        have x3 := gx.cell_ 3 rfl
                        have hct := hrow.cell_ e.k (ints_get HLK.out.start)
                        by_cases hgt : te < T
                        · go_wp2_with fail
                          refine wp_region_quiet (C := fun w' => ∃ u : Since W, w' = u.w) (by kernel_rfl) (by kernel_rfl) (Since.start W) ?_
                          dsimp only
                          have y_c0 := Since.cell c0
                          have y_c1 := Since.cell c1
                          have y_c2 := Since.cell c2
                          have y_c3 := Since.cell c3
                          have y_c4 := Since.cell c4
                          have y_c5 := Since.cell c5
                          have y_x0 := Since.cell x0
                          have y_x1 := Since.cell x1
                          have y_x2 := Since.cell x2
                          have y_x3 := Since.cell x3
                          have y_d0 := Since.cell d0
                          have y_d1 := Since.cell d1
                          have y_hcp := Since.cell hcp
                          have y_hct := Since.cell hct
                          clear c0 c1 c2 c3 c4 c5 x0 x1 x2 x3
                          repeat (go_big_quiet_step ((fail)))
                          refine wpQuiet_nil ?_
                          rintro W ⟨⟨_, hb⟩, rfl⟩
                          try dsimp only at hb ⊢
                          replace d0 : W.cell? _ = _ := y_d0 ⟨W, hb⟩
                          replace d1 : W.cell? _ = _ := y_d1 ⟨W, hb⟩
                          replace hcp : W.cell? _ = _ := y_hcp ⟨W, hb⟩
                          replace hct : W.cell? _ = _ := y_hct ⟨W, hb⟩
                          clear y_c0 y_c1 y_c2 y_c3 y_c4 y_c5 y_x0 y_x1 y_x2 y_x3 y_d0 y_d1 y_hcp y_hct
                          replace hk := hk.below hb hk.lt
                          replace hOut := hOut.below hb
                          replace hL := (hL.below hb).more hb.size
                          replace hrow := hrow.below hb hrow.lt
                          replace hrow2 := hrow2.below hb hrow2.lt
                          replace gx := gx.below hb gx.lt
                          replace hB := hB.trans (hb.mono hB.size)
                          clear hb
                          have c0 := hk.cell_ 0 rfl
                          have c1 := hk.cell_ 1 rfl
                          have c2 := hk.cell_ 2 rfl
                          have c3 := hk.cell_ 3 rfl
                          have c4 := hk.cell_ 4 rfl
                          have c5 := hk.cell_ 5 rfl
                          have x0 := gx.cell_ 0 rfl
                          have x1 := gx.cell_ 1 rfl
                          have x2 := gx.cell_ 2 rfl
                          have x3 := gx.cell_ 3 rfl
                          have HSZ := hide (show e.k < (ints l).size by rw [ints_size, HLK.out.len]; exact (List.getElem?_eq_some_iff.1 HLK.out.step).1)
                          go_wp2_with fail
                          refine wp_region_quiet_tail (C := fun w' => ∃ u : Since W, w' = u.w) 15 (by kernel_rfl) (by kernel_rfl) (Since.start W) ?_
                          simp only [List.take_succ_cons, List.take_zero, List.drop_succ_cons, List.drop_zero]
                          have y_c0 := Since.cell c0
                          have y_c1 := Since.cell c1
                          have y_c2 := Since.cell c2
                          have y_c3 := Since.cell c3
                          have y_c4 := Since.cell c4
                          have y_c5 := Since.cell c5
                          have y_x0 := Since.cell x0
                          have y_x1 := Since.cell x1
                          have y_x2 := Since.cell x2
                          have y_x3 := Since.cell x3
                          have y_d0 := Since.cell d0
                          have y_d1 := Since.cell d1
                          have y_hcp := Since.cell hcp
                          clear c0 c1 c2 c3 c4 c5 x0 x1 x2 x3
                          repeat (go_big_quiet_step ((fail)))
                          refine wpQuiet_nil ?_
                          rintro W ⟨⟨_, hb⟩, rfl⟩
                          try dsimp only at hb ⊢
                          replace d0 : W.cell? _ = _ := y_d0 ⟨W, hb⟩
                          replace d1 : W.cell? _ = _ := y_d1 ⟨W, hb⟩
                          replace hcp : W.cell? _ = _ := y_hcp ⟨W, hb⟩
                          clear y_c0 y_c1 y_c2 y_c3 y_c4 y_c5 y_x0 y_x1 y_x2 y_x3 y_d0 y_d1 y_hcp
                          replace hk := hk.below hb hk.lt
                          replace hOut := hOut.below hb
                          replace hL := (hL.below hb).more hb.size
                          replace hrow := hrow.below hb hrow.lt
                          replace hrow2 := hrow2.below hb hrow2.lt
                          replace gx := gx.below hb gx.lt
                          replace hB := hB.trans (hb.mono hB.size)
                          clear hb
                          have c0 := hk.cell_ 0 rfl
                          have c1 := hk.cell_ 1 rfl
                          have c2 := hk.cell_ 2 rfl
                          have c3 := hk.cell_ 3 rfl
                          have c4 := hk.cell_ 4 rfl
                          have c5 := hk.cell_ 5 rfl
                          have x0 := gx.cell_ 0 rfl
                          have x1 := gx.cell_ 1 rfl
                          have x2 := gx.cell_ 2 rfl
                          have x3 := gx.cell_ 3 rfl
                          go_wp2_with (refine wpList_store_at rfl 3 _ _ rfl (.int .i64 T) hrow rfl rfl (by kernel_rfl) rfl HSZ.out rfl ?_; intro W2 hrow2 hc2)
                          obtain ⟨hok2, hms⟩ := hok.raise (b := b1) (t := T) HRQ.out HTB0.out.2.2.2.2 (l := l) (by rw [HLK.out.bj]; exact HLK.out.row) (by rw [HLK.out.bj, HLK.out.bk, HLK.out.val]; exact hgt) HT1.out
                          rw [HLK.out.bj, HLK.out.bk] at hok2 hms
                          have hRN2 := hide (hRN.out.up (m' := m) (n' := i + 1) hms)
                          have hOut2 := hOut.set_ HBR.out HLK.out.row hrow2 hc2
                          have hL2 := hL.chgA hc2 (fun b' off' he' heq => HNE.out b' off' he' (by rw [heq]; exact List.mem_of_getElem? HBR.out))
                          have hsz2 := hc2.size
                          go_wp2_with fail
                          go_roundw
                          case rel => exact ⟨i + 1, _, true, rfl, by go_num, by omega, hok2, hRN2, hk.chg1 hc2 (by omega), hOut2, hL2.more hsz2, hB.trans (hc2.below1 hB.size (by omega))⟩
                          case measure => simp [intOf]; omega
                        · go_wp2_with fail
                          refine wp_region_quiet (C := fun w' => ∃ u : Since W, w' = u.w) (by kernel_rfl) (by kernel_rfl) (Since.start W) ?_
                          dsimp only
                          have y_c0 := Since.cell c0
                          have y_c1 := Since.cell c1
                          have y_c2 := Since.cell c2
                          have y_c3 := Since.cell c3
                          have y_c4 := Since.cell c4
                          have y_c5 := Since.cell c5
                          have y_x0 := Since.cell x0
                          have y_x1 := Since.cell x1
                          have y_x2 := Since.cell x2
                          have y_x3 := Since.cell x3
                          have y_d0 := Since.cell d0
                          have y_d1 := Since.cell d1
                          have y_hcp := Since.cell hcp
                          have y_hct := Since.cell hct
                          clear c0 c1 c2 c3 c4 c5 x0 x1 x2 x3
                          repeat (go_big_quiet_step ((fail)))
                          refine wpQuiet_nil ?_
                          rintro W ⟨⟨_, hb⟩, rfl⟩
                          try dsimp only at hb ⊢
                          replace d0 : W.cell? _ = _ := y_d0 ⟨W, hb⟩
                          replace d1 : W.cell? _ = _ := y_d1 ⟨W, hb⟩
                          replace hcp : W.cell? _ = _ := y_hcp ⟨W, hb⟩
                          replace hct : W.cell? _ = _ := y_hct ⟨W, hb⟩
                          clear y_c0 y_c1 y_c2 y_c3 y_c4 y_c5 y_x0 y_x1 y_x2 y_x3 y_d0 y_d1 y_hcp y_hct
                          replace hk := hk.below hb hk.lt
                          replace hOut := hOut.below hb
                          replace hL := (hL.below hb).more hb.size
                          replace hrow := hrow.below hb hrow.lt
                          replace hrow2 := hrow2.below hb hrow2.lt
                          replace gx := gx.below hb gx.lt
                          replace hB := hB.trans (hb.mono hB.size)
                          clear hb
                          have c0 := hk.cell_ 0 rfl
                          have c1 := hk.cell_ 1 rfl
                          have c2 := hk.cell_ 2 rfl
                          have c3 := hk.cell_ 3 rfl
                          have c4 := hk.cell_ 4 rfl
                          have c5 := hk.cell_ 5 rfl
                          have x0 := gx.cell_ 0 rfl
                          have x1 := gx.cell_ 1 rfl
                          have x2 := gx.cell_ 2 rfl
                          have x3 := gx.cell_ 3 rfl
                          have hRN2 := hide (hRN.out.pass HLK.out.b_at (by rw [← refT_key HKY.out HLK.out.bj HLK.out.bk HLK.out.bx, HFR.out, HTT.out, HLK.out.bj, HLK.out.bk, HLK.out.val]; omega))
                          go_wp2_with fail
                          go_roundw
                          case rel => exact ⟨i + 1, O, ag, rfl, by go_num, by omega, hok, hRN2, hk, hOut, hL, hB⟩
                          case measure => simp [intOf]; omega
                      · have hcb : (f.x.c != e.x.c) = true := by simpa using hcol
                        have HRM : Hid (roomF p (atO O f) e.x.c = tf + f.x.mi + S) := by show _ = _; rw [HRF.out, if_neg hcol]
                        clear hcol
                        go_wp2_with fail
                        refine wp_region_quiet (C := fun w' => ∃ u : Since W, w' = u.w) (by kernel_rfl) (by kernel_rfl) (Since.start W) ?_
                        dsimp only
                        have y_c0 := Since.cell c0
                        have y_c1 := Since.cell c1
                        have y_c2 := Since.cell c2
                        have y_c3 := Since.cell c3
                        have y_c4 := Since.cell c4
                        have y_c5 := Since.cell c5
                        have y_x0 := Since.cell x0
                        have y_x1 := Since.cell x1
                        have y_x2 := Since.cell x2
                        have y_x3 := Since.cell x3
                        have y_d0 := Since.cell d0
                        have y_d1 := Since.cell d1
                        have y_hcp := Since.cell hcp
                        have y_hcs := Since.cell hcs
                        clear c0 c1 c2 c3 c4 c5 x0 x1 x2 x3
                        repeat (go_big_quiet_step ((go_at_call 59; exact Since.calls (at_any ⟨p, aH, cH, some ⟨bs, offs, none⟩, cS, aJ, cJ⟩ e.j e.k st e.x _ (HSW5.on (Since.h _)) HLK.out.job HLK.out.step))))
                        refine wpQuiet_nil ?_
                        rintro W ⟨⟨_, hb⟩, rfl⟩
                        try dsimp only at hb ⊢
                        replace d0 : W.cell? _ = _ := y_d0 ⟨W, hb⟩
                        replace d1 : W.cell? _ = _ := y_d1 ⟨W, hb⟩
                        replace hcp : W.cell? _ = _ := y_hcp ⟨W, hb⟩
                        replace hcs : W.cell? _ = _ := y_hcs ⟨W, hb⟩
                        clear y_c0 y_c1 y_c2 y_c3 y_c4 y_c5 y_x0 y_x1 y_x2 y_x3 y_d0 y_d1 y_hcp y_hcs
                        replace hk := hk.below hb hk.lt
                        replace hOut := hOut.below hb
                        replace hL := (hL.below hb).more hb.size
                        replace hrow := hrow.below hb hrow.lt
                        replace hrow2 := hrow2.below hb hrow2.lt
                        replace gx := gx.below hb gx.lt
                        replace hB := hB.trans (hb.mono hB.size)
                        clear hb
                        have c0 := hk.cell_ 0 rfl
                        have c1 := hk.cell_ 1 rfl
                        have c2 := hk.cell_ 2 rfl
                        have c3 := hk.cell_ 3 rfl
                        have c4 := hk.cell_ 4 rfl
                        have c5 := hk.cell_ 5 rfl
                        have x0 := gx.cell_ 0 rfl
                        have x1 := gx.cell_ 1 rfl
                        have x2 := gx.cell_ 2 rfl
                        have x3 := gx.cell_ 3 rfl
                        have HPV : Hid (prevO p O M i e = (max r (tf + f.x.mi + S))) := (by show _ = _; rw [HPQ.out, HRM.out, HR.out])
                        have hfr0 : 0 ≤ (max r (tf + f.x.mi + S)) := by rw [← HPV.out]; exact HPB.out.1
                        have hfr1 : (max r (tf + f.x.mi + S)) ≤ 100000000 := by rw [← HPV.out]; exact HPB.out.2
                        have HFR : Hid (refT p O M i e = nextF p ((max r (tf + f.x.mi + S))) e.x.mi) := by show nextF p (prevO p O M i e) e.x.mi = _; rw [HPV.out]
                        obtain ⟨T, hT⟩ : ∃ T, nextF p ((max r (tf + f.x.mi + S))) e.x.mi = T := ⟨_, rfl⟩
                        have HTT := hide hT
                        have HTB0 := hide (refT_le hv HRQ.out HRP.out hok HLK.out.b_at)
                        have hT0 : 0 ≤ T := by have h1 := HTB0.out.2.2.1; rw [← refT_key HKY.out HLK.out.bj HLK.out.bk HLK.out.bx, HFR.out, hT] at h1; exact h1
                        have HT1 : Hid (T ≤ b1.t) := by have h1 := HTB0.out.2.2.2.1; rw [← refT_key HKY.out HLK.out.bj HLK.out.bk HLK.out.bx, HFR.out, hT] at h1; exact h1
                        clear hT
                        have HSW3 := hS.on hB
                        have fs1 := fstep1
                        go_wp2_with fail
                        refine wp_region_quiet (C := fun w' => ∃ u : Since W, w' = u.w) (by kernel_rfl) (by kernel_rfl) (Since.start W) ?_
                        dsimp only
                        have y_c0 := Since.cell c0
                        have y_c1 := Since.cell c1
                        have y_c2 := Since.cell c2
                        have y_c3 := Since.cell c3
                        have y_c4 := Since.cell c4
                        have y_c5 := Since.cell c5
                        have y_x0 := Since.cell x0
                        have y_x1 := Since.cell x1
                        have y_x2 := Since.cell x2
                        have y_x3 := Since.cell x3
                        have y_d0 := Since.cell d0
                        have y_d1 := Since.cell d1
                        have y_hcp := Since.cell hcp
                        clear c0 c1 c2 c3 c4 c5 x0 x1 x2 x3
                        repeat (go_big_quiet_step ((first | (go_at_call 59; exact Since.calls (at_any ⟨p, aH, cH, some ⟨bs, offs, none⟩, cS, aJ, cJ⟩ e.j e.k st e.x _ (HSW3.on (Since.h _)) HLK.out.job HLK.out.step)) | (go_at_call 22; exact Since.calls (next_is_ ⟨p, aH, cH, some ⟨bs, offs, none⟩, cS, aJ, cJ⟩ ((max r (tf + f.x.mi + S))) e.x.mi T _ (HSW3.on (Since.h _)) hv hfr0 (by omega) xm1 xm2 HTT.out)))))
                        refine wpQuiet_nil ?_
                        rintro W ⟨⟨_, hb⟩, rfl⟩
                        try dsimp only at hb ⊢
                        replace d0 : W.cell? _ = _ := y_d0 ⟨W, hb⟩
                        replace d1 : W.cell? _ = _ := y_d1 ⟨W, hb⟩
                        replace hcp : W.cell? _ = _ := y_hcp ⟨W, hb⟩
                        clear y_c0 y_c1 y_c2 y_c3 y_c4 y_c5 y_x0 y_x1 y_x2 y_x3 y_d0 y_d1 y_hcp
                        replace hk := hk.below hb hk.lt
                        replace hOut := hOut.below hb
                        replace hL := (hL.below hb).more hb.size
                        replace hrow := hrow.below hb hrow.lt
                        replace hrow2 := hrow2.below hb hrow2.lt
                        replace gx := gx.below hb gx.lt
                        replace hB := hB.trans (hb.mono hB.size)
                        clear hb
                        have c0 := hk.cell_ 0 rfl
                        have c1 := hk.cell_ 1 rfl
                        have c2 := hk.cell_ 2 rfl
                        have c3 := hk.cell_ 3 rfl
                        have c4 := hk.cell_ 4 rfl
                        have c5 := hk.cell_ 5 rfl
                        have x0 := gx.cell_ 0 rfl
                        have x1 := gx.cell_ 1 rfl
                        have x2 := gx.cell_ 2 rfl
                        have x3 := gx.cell_ 3 rfl
                        have hct := hrow.cell_ e.k (ints_get HLK.out.start)
                        by_cases hgt : te < T
                        · go_wp2_with fail
                          refine wp_region_quiet (C := fun w' => ∃ u : Since W, w' = u.w) (by kernel_rfl) (by kernel_rfl) (Since.start W) ?_
                          dsimp only
                          have y_c0 := Since.cell c0
                          have y_c1 := Since.cell c1
                          have y_c2 := Since.cell c2
                          have y_c3 := Since.cell c3
                          have y_c4 := Since.cell c4
                          have y_c5 := Since.cell c5
                          have y_x0 := Since.cell x0
                          have y_x1 := Since.cell x1
                          have y_x2 := Since.cell x2
                          have y_x3 := Since.cell x3
                          have y_d0 := Since.cell d0
                          have y_d1 := Since.cell d1
                          have y_hcp := Since.cell hcp
                          have y_hct := Since.cell hct
                          clear c0 c1 c2 c3 c4 c5 x0 x1 x2 x3
                          repeat (go_big_quiet_step ((fail)))
                          refine wpQuiet_nil ?_
                          rintro W ⟨⟨_, hb⟩, rfl⟩
                          try dsimp only at hb ⊢
                          replace d0 : W.cell? _ = _ := y_d0 ⟨W, hb⟩
                          replace d1 : W.cell? _ = _ := y_d1 ⟨W, hb⟩
                          replace hcp : W.cell? _ = _ := y_hcp ⟨W, hb⟩
                          replace hct : W.cell? _ = _ := y_hct ⟨W, hb⟩
                          clear y_c0 y_c1 y_c2 y_c3 y_c4 y_c5 y_x0 y_x1 y_x2 y_x3 y_d0 y_d1 y_hcp y_hct
                          replace hk := hk.below hb hk.lt
                          replace hOut := hOut.below hb
                          replace hL := (hL.below hb).more hb.size
                          replace hrow := hrow.below hb hrow.lt
                          replace hrow2 := hrow2.below hb hrow2.lt
                          replace gx := gx.below hb gx.lt
                          replace hB := hB.trans (hb.mono hB.size)
                          clear hb
                          have c0 := hk.cell_ 0 rfl
                          have c1 := hk.cell_ 1 rfl
                          have c2 := hk.cell_ 2 rfl
                          have c3 := hk.cell_ 3 rfl
                          have c4 := hk.cell_ 4 rfl
                          have c5 := hk.cell_ 5 rfl
                          have x0 := gx.cell_ 0 rfl
                          have x1 := gx.cell_ 1 rfl
                          have x2 := gx.cell_ 2 rfl
                          have x3 := gx.cell_ 3 rfl
                          have HSZ := hide (show e.k < (ints l).size by rw [ints_size, HLK.out.len]; exact (List.getElem?_eq_some_iff.1 HLK.out.step).1)
                          go_wp2_with fail
                          refine wp_region_quiet_tail (C := fun w' => ∃ u : Since W, w' = u.w) 15 (by kernel_rfl) (by kernel_rfl) (Since.start W) ?_
                          simp only [List.take_succ_cons, List.take_zero, List.drop_succ_cons, List.drop_zero]
                          have y_c0 := Since.cell c0
                          have y_c1 := Since.cell c1
                          have y_c2 := Since.cell c2
                          have y_c3 := Since.cell c3
                          have y_c4 := Since.cell c4
                          have y_c5 := Since.cell c5
                          have y_x0 := Since.cell x0
                          have y_x1 := Since.cell x1
                          have y_x2 := Since.cell x2
                          have y_x3 := Since.cell x3
                          have y_d0 := Since.cell d0
                          have y_d1 := Since.cell d1
                          have y_hcp := Since.cell hcp
                          clear c0 c1 c2 c3 c4 c5 x0 x1 x2 x3
                          repeat (go_big_quiet_step ((fail)))
                          refine wpQuiet_nil ?_
                          rintro W ⟨⟨_, hb⟩, rfl⟩
                          try dsimp only at hb ⊢
                          replace d0 : W.cell? _ = _ := y_d0 ⟨W, hb⟩
                          replace d1 : W.cell? _ = _ := y_d1 ⟨W, hb⟩
                          replace hcp : W.cell? _ = _ := y_hcp ⟨W, hb⟩
                          clear y_c0 y_c1 y_c2 y_c3 y_c4 y_c5 y_x0 y_x1 y_x2 y_x3 y_d0 y_d1 y_hcp
                          replace hk := hk.below hb hk.lt
                          replace hOut := hOut.below hb
                          replace hL := (hL.below hb).more hb.size
                          replace hrow := hrow.below hb hrow.lt
                          replace hrow2 := hrow2.below hb hrow2.lt
                          replace gx := gx.below hb gx.lt
                          replace hB := hB.trans (hb.mono hB.size)
                          clear hb
                          have c0 := hk.cell_ 0 rfl
                          have c1 := hk.cell_ 1 rfl
                          have c2 := hk.cell_ 2 rfl
                          have c3 := hk.cell_ 3 rfl
                          have c4 := hk.cell_ 4 rfl
                          have c5 := hk.cell_ 5 rfl
                          have x0 := gx.cell_ 0 rfl
                          have x1 := gx.cell_ 1 rfl
                          have x2 := gx.cell_ 2 rfl
                          have x3 := gx.cell_ 3 rfl
                          go_wp2_with (refine wpList_store_at rfl 3 _ _ rfl (.int .i64 T) hrow rfl rfl (by kernel_rfl) rfl HSZ.out rfl ?_; intro W2 hrow2 hc2)
                          obtain ⟨hok2, hms⟩ := hok.raise (b := b1) (t := T) HRQ.out HTB0.out.2.2.2.2 (l := l) (by rw [HLK.out.bj]; exact HLK.out.row) (by rw [HLK.out.bj, HLK.out.bk, HLK.out.val]; exact hgt) HT1.out
                          rw [HLK.out.bj, HLK.out.bk] at hok2 hms
                          have hRN2 := hide (hRN.out.up (m' := m) (n' := i + 1) hms)
                          have hOut2 := hOut.set_ HBR.out HLK.out.row hrow2 hc2
                          have hL2 := hL.chgA hc2 (fun b' off' he' heq => HNE.out b' off' he' (by rw [heq]; exact List.mem_of_getElem? HBR.out))
                          have hsz2 := hc2.size
                          go_wp2_with fail
                          go_roundw
                          case rel => exact ⟨i + 1, _, true, rfl, by go_num, by omega, hok2, hRN2, hk.chg1 hc2 (by omega), hOut2, hL2.more hsz2, hB.trans (hc2.below1 hB.size (by omega))⟩
                          case measure => simp [intOf]; omega
                        · go_wp2_with fail
                          refine wp_region_quiet (C := fun w' => ∃ u : Since W, w' = u.w) (by kernel_rfl) (by kernel_rfl) (Since.start W) ?_
                          dsimp only
                          have y_c0 := Since.cell c0
                          have y_c1 := Since.cell c1
                          have y_c2 := Since.cell c2
                          have y_c3 := Since.cell c3
                          have y_c4 := Since.cell c4
                          have y_c5 := Since.cell c5
                          have y_x0 := Since.cell x0
                          have y_x1 := Since.cell x1
                          have y_x2 := Since.cell x2
                          have y_x3 := Since.cell x3
                          have y_d0 := Since.cell d0
                          have y_d1 := Since.cell d1
                          have y_hcp := Since.cell hcp
                          have y_hct := Since.cell hct
                          clear c0 c1 c2 c3 c4 c5 x0 x1 x2 x3
                          repeat (go_big_quiet_step ((fail)))
                          refine wpQuiet_nil ?_
                          rintro W ⟨⟨_, hb⟩, rfl⟩
                          try dsimp only at hb ⊢
                          replace d0 : W.cell? _ = _ := y_d0 ⟨W, hb⟩
                          replace d1 : W.cell? _ = _ := y_d1 ⟨W, hb⟩
                          replace hcp : W.cell? _ = _ := y_hcp ⟨W, hb⟩
                          replace hct : W.cell? _ = _ := y_hct ⟨W, hb⟩
                          clear y_c0 y_c1 y_c2 y_c3 y_c4 y_c5 y_x0 y_x1 y_x2 y_x3 y_d0 y_d1 y_hcp y_hct
                          replace hk := hk.below hb hk.lt
                          replace hOut := hOut.below hb
                          replace hL := (hL.below hb).more hb.size
                          replace hrow := hrow.below hb hrow.lt
                          replace hrow2 := hrow2.below hb hrow2.lt
                          replace gx := gx.below hb gx.lt
                          replace hB := hB.trans (hb.mono hB.size)
                          clear hb
                          have c0 := hk.cell_ 0 rfl
                          have c1 := hk.cell_ 1 rfl
                          have c2 := hk.cell_ 2 rfl
                          have c3 := hk.cell_ 3 rfl
                          have c4 := hk.cell_ 4 rfl
                          have c5 := hk.cell_ 5 rfl
                          have x0 := gx.cell_ 0 rfl
                          have x1 := gx.cell_ 1 rfl
                          have x2 := gx.cell_ 2 rfl
                          have x3 := gx.cell_ 3 rfl
                          have hRN2 := hide (hRN.out.pass HLK.out.b_at (by rw [← refT_key HKY.out HLK.out.bj HLK.out.bk HLK.out.bx, HFR.out, HTT.out, HLK.out.bj, HLK.out.bk, HLK.out.val]; omega))
                          go_wp2_with fail
                          go_roundw
                          case rel => exact ⟨i + 1, O, ag, rfl, by go_num, by omega, hok, hRN2, hk, hOut, hL, hB⟩
                          case measure => simp [intOf]; omega
                · obtain rfl : i = M.length := by omega
                  have hml2 : M.length = (R.filter (onB m)).length := by have := congrArg List.length HKY.out; simpa using this
                  have hRN2 : Hid (Rnd p R O gk0 (m + 1) 0 ag) := by
                    have h := hRN.out
                    rw [hml2] at h
                    exact h.next
                  clear hml2
                  go_wp2_with fail
                  go_roundw
                  case rel => exact ⟨m + 1, O, ag, rfl, by go_num, by omega, hok, hRN2, hk, hOut, hB⟩
                  case measure => simp [intOf]; omega
            · have hme : (m : Int) = p.mach := by omega
              cases ag with
              | true =>
                have HGG : Hid (meas R O + 1 < gk) := by
                  rcases hRN.out with h1 | h1
                  · rw [← HGK.out]; exact h1.2
                  · cases h1.1
                clear hme
                go_wp2_with fail
                go_roundg (meas R O + 1)
                case measure => exact HGG.out
                case rel => exact ⟨O, true, rfl, hok, hide (.inl ⟨rfl, Nat.le_refl _⟩), hk, hOut, hB⟩
              | false =>
                have hst := hRN.out.resolve_left (fun h => by cases h.1)
                have HEQ : Hid (O = pullF p pl) := by
                  show _ = _
                  rw [hPF.out]
                  exact hok.eq hv HRQ.out (refT_done hv HRQ.out HRP.out hok fun m' hm' n b hb => hst.2.2.1 m' (by omega) n b hb)
                have HGG : Hid (0 < gk) := by
                  have h1 := hst.2.1
                  have h2 := HGK.out
                  show 0 < gk
                  omega
                clear hme hst
                go_wp2_with fail
                go_roundg 0
                case measure => exact HGG.out
                case rel => exact ⟨O, false, rfl, hok, hide (.inr ⟨rfl, HEQ.out⟩), hk, hOut, hB⟩
end Go.Proofs.Ytcpnfcnobnjhdaa
