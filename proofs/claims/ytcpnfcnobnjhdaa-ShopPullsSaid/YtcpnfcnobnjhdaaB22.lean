/- Parts of the proofs of this seat: Dispatch, RefDispP. Each part says what it proves; no condition beyond those stated there. -/
import Derived.Deep.LoopGhost
import Derived.Test.YtcpnfcnobnjhdaaB15
import Derived.Test.YtcpnfcnobnjhdaaB17

/- Dispatch of package shop: the walk. -/
namespace Go.Proofs.Ytcpnfcnobnjhdaa
open Go.RowKit
theorem DeskAt.notOf {B : Nat} {w : World} {g mb bo bp : Nat} {brs : List Nat} {s : Sh} {D : Desk} (h : DeskAt B w g mb bo bp brs s D) {q : Nat} (hq : q < B ∨ w.heap.size ≤ q) : ¬ OfDesk mb bo brs q := fun ho => by
  have hm : q ∈ g :: mb :: bo :: bp :: brs := by
    rcases ho with rfl | rfl | ho
    · simp
    · simp
    · simp [ho]
  have h1 := h.base q hm
  have h2 := h.lts q hm
  omega
/-- the desk and the counts of package shop, and the state -/
structure PD (p : Shop) (S : DS) (D : Desk) (dn : List Int) : Prop where
  last : D.last = S.last
  onl : D.on.length = p.jobs.length
  pll : D.plan.length = p.jobs.length
  dnl : dn.length = p.jobs.length
  on : ∀ (j : Nat) st l, p.jobs[j]? = some st → S.pl[j]? = some l → D.on[j]? = some (rdy st l)
  pl : ∀ (j : Nat) st l, p.jobs[j]? = some st → S.pl[j]? = some l → D.plan[j]? = some (l ++ List.replicate (st.length - l.length) 0)
  dn : ∀ (j : Nat) st l, p.jobs[j]? = some st → S.pl[j]? = some l → dn[j]? = some (l.length : Int)
theorem PD.start (p : Shop) : PD p (ds0 p) (desk0 p) (List.replicate p.jobs.length 0) := by
  have hl : ∀ {j : Nat} {l : List Int}, (ds0 p).pl[j]? = some l → l = [] := fun {j l} h => by
    simp [ds0, List.getElem?_replicate] at h
    exact h.2
  refine ⟨rfl, by simp [desk0], by simp [desk0], by simp, fun j st l h1 h2 => ?_, fun j st l h1 h2 => ?_, fun j st l h1 h2 => ?_⟩
  · obtain rfl := hl h2
    have := (List.getElem?_eq_some_iff.1 h1).1
    simp [desk0, this, rdy]
  · obtain rfl := hl h2
    simp [desk0, h1]
  · obtain rfl := hl h2
    have := (List.getElem?_eq_some_iff.1 h1).1
    simp [this]
theorem PD.earl {p : Shop} {S : DS} {D : Desk} {dn : List Int} (h : PD p S D dn) {j : Nat} {st : List Step} {l : List Int} {x : Step} (hj : p.jobs[j]? = some st) (hl : S.pl[j]? = some l) : earlF p D j x = nextF p (prevF p S.last x (rdy st l)) x.mi := by
  have e1 : D.on.getD j 0 = rdy st l := by rw [List.getD_eq_getElem?_getD, h.on j st l hj hl]; rfl
  unfold earlF prevF
  rw [e1, h.last]
  rfl
theorem modify_get {α : Type} {l : List α} {j i : Nat} {f : α → α} : (l.modify j f)[i]? = if j = i then l[i]?.map f else l[i]? := by
  rw [List.getElem?_modify]
  cases l[i]? <;> by_cases h : j = i <;> simp [h]
theorem PD.put_ {p : Shop} {S : DS} {D : Desk} {dn : List Int} (h : PD p S D dn) {j : Nat} {st : List Step} {l : List Int} {x : Step} (t : Int) (hj : p.jobs[j]? = some st) (hl : S.pl[j]? = some l) (hx : st[l.length]? = some x) :
    PD p (putS p S j t) (D.put ⟨j, l.length, t, x⟩) (dn.set j ((l.length : Int) + 1)) := by
  rw [putS_eq t hj hl hx]
  have hlt := (List.getElem?_eq_some_iff.1 hx).1
  have hjl := (List.getElem?_eq_some_iff.1 hj).1
  have key : ∀ (i : Nat) st' l', p.jobs[i]? = some st' → (S.pl.modify j fun l => l ++ [t])[i]? = some l' → (j = i ∧ st' = st ∧ l' = l ++ [t]) ∨ (j ≠ i ∧ S.pl[i]? = some l') := fun i st' l' h1 h2 => by
    rw [modify_get] at h2
    by_cases hji : j = i
    · subst hji
      rw [if_pos rfl, hl] at h2
      rw [hj] at h1
      injection h1 with h1
      injection h2 with h2
      exact .inl ⟨rfl, h1.symm, h2.symm⟩
    · rw [if_neg hji] at h2
      exact .inr ⟨hji, h2⟩
  refine ⟨by simp [Desk.put, h.last], by simp [Desk.put, h.onl], by simp [Desk.put, h.pll], by simp [h.dnl], fun i st' l' h1 h2 => ?_, fun i st' l' h1 h2 => ?_, fun i st' l' h1 h2 => ?_⟩
  · show (D.on.set j (At.dry ⟨j, l.length, t, x⟩))[i]? = _
    rw [List.getElem?_set]
    rcases key i st' l' h1 h2 with ⟨rfl, rfl, rfl⟩ | ⟨hji, h3⟩
    · rw [if_pos rfl, if_pos (by rw [h.onl]; exact hjl)]
      congr 1
      unfold rdy At.dry
      simp only [List.length_append, List.length_cons, List.length_nil]
      rw [List.getD_eq_getElem?_getD, List.getD_eq_getElem?_getD, hx]
      simp
    · rw [if_neg hji]; exact h.on i st' l' h1 h3
  · show (D.plan.modify j fun y => y.set l.length t)[i]? = _
    rw [modify_get]
    rcases key i st' l' h1 h2 with ⟨rfl, rfl, rfl⟩ | ⟨hji, h3⟩
    · rw [if_pos rfl, h.pl j st' l hj hl]
      simp only [Option.map_some]
      congr 1
      obtain ⟨m, hm⟩ : ∃ m, st'.length - l.length = m + 1 := ⟨st'.length - l.length - 1, by omega⟩
      rw [hm, show st'.length - (l ++ [t]).length = m by simp; omega, List.replicate_succ]
      rw [List.set_append_right _ _ (Nat.le_refl _)]
      simp
    · rw [if_neg hji]; exact h.pl i st' l' h1 h3
  · rw [List.getElem?_set]
    rcases key i st' l' h1 h2 with ⟨rfl, rfl, rfl⟩ | ⟨hji, h3⟩
    · rw [if_pos rfl, if_pos (by rw [h.dnl]; exact hjl)]
      simp
    · rw [if_neg hji]; exact h.dn i st' l' h1 h3
/-- where nothing is left the desk's plan is the starts -/
theorem PD.done {p : Shop} {S : DS} {D : Desk} {dn : List Int} (h : PD p S D dn) (hs : VS p S) (hn : bestF p S = none) : D.plan = S.pl := by
  have h1 := (bestFrom_none hn).2
  apply List.ext_getElem?
  intro i
  by_cases hi : i < p.jobs.length
  · have hj : p.jobs[i]? = some p.jobs[i] := List.getElem?_eq_getElem hi
    have hl : S.pl[i]? = some (S.pl[i]'(by rw [hs.len]; exact hi)) := List.getElem?_eq_getElem _
    have h2 := h1 i _ _ hj hl
    rw [h.pl i _ _ hj hl, hl]
    have h3 := (hs.row i _ _ hj hl).1
    unfold candT at h2
    have h4 : p.jobs[i].length ≤ (S.pl[i]'(by rw [hs.len]; exact hi)).length := by
      cases hx : p.jobs[i][(S.pl[i]'(by rw [hs.len]; exact hi)).length]? with
      | none => exact List.getElem?_eq_none_iff.1 hx
      | some x => rw [hx] at h2; cases h2
    rw [show p.jobs[i].length - (S.pl[i]'(by rw [hs.len]; exact hi)).length = 0 by omega]
    simp
  · rw [List.getElem?_eq_none (by rw [h.pll]; omega), List.getElem?_eq_none (by rw [hs.len]; omega)]
def accB (acc : Option (Nat × Int)) : Int := match acc with
  | none => -1
  | some (b, _) => b
def accT (acc : Option (Nat × Int)) : Int := match acc with
  | none => 0
  | some (_, t) => t
def DispPost (p : Shop) (w : World) (e : Ending) (w' : World) : Prop := ∃ A c, e = .returned (.tuple #[.slice A (dispF p).length c, .int .i64 0]) ∧ Below w.heap.size w w' ∧ Plan w' w'.heap.size A (dispF p)
theorem ints_zero' (n : Nat) : Array.replicate n (Value.int .i64 0) = ints (List.replicate n 0) := by simp [ints, intV]
/-- the search so far -/
def AccOk (p : Shop) (S : DS) (acc : Option (Nat × Int)) : Prop := ∀ b t, acc = some (b, t) → 0 ≤ t ∧ t ≤ 1000000000 ∧ b < p.jobs.length
set_option maxRecDepth 100000 in
set_option maxHeartbeats 4000000 in
theorem dispatch_any (s : Sh) (w : World) (hS : ShAt w w.heap.size s) (hvB : validShop s.p = true) : Calls Try.prog 33 #[.agg #[.int .i64 s.p.op, .int .i64 s.p.cl, .slice s.aH s.p.hol.length s.cH, .int .i64 s.p.mach, .slice s.aS s.p.setup.length s.cS, .slice s.aJ s.p.jobs.length s.cJ]] w (DispPost s.p w) := by
  have hv := valid_facts hvB
  have hfs := hv.fits
  have hjn := hv.jobn
  have hmk := run_make1 (P := Try.prog) (bytes := 8) (z := .int .i64 0) Try.underlying22 (by kernel_rfl) rfl (by omega) s.p.jobs.length (by omega)
  have HMK := hide hmk
  clear hmk
  obtain ⟨p, aH, cH, aS, cS, aJ, cJ⟩ := s
  dsimp only at *
  have hk := Blk.new w 25 #[.int .i64 p.op, .int .i64 p.cl, .slice aH p.hol.length cH, .int .i64 p.mach, .slice aS p.setup.length cS, .slice aJ p.jobs.length cJ]
  have hB := (Below.refl w.heap.size w).alloc (Nat.le_refl _) (.cells #[.int .i64 p.op, .int .i64 p.cl, .slice aH p.hol.length cH, .int .i64 p.mach, .slice aS p.setup.length cS, .slice aJ p.jobs.length cJ] 25)
  go_enter Try.func33, Try.ntmps33
  go_wp2_with fail
  generalize w.alloc (.cells #[.int .i64 p.op, .int .i64 p.cl, .slice aH p.hol.length cH, .int .i64 p.mach, .slice aS p.setup.length cS, .slice aJ p.jobs.length cJ] 25) = W at *
  have c0 := hk.cell_ 0 rfl
  have c1 := hk.cell_ 1 rfl
  have c2 := hk.cell_ 2 rfl
  have c3 := hk.cell_ 3 rfl
  have c4 := hk.cell_ 4 rfl
  have c5 := hk.cell_ 5 rfl
  go_wp2_with fail
  refine (valid_any ⟨p, aH, cH, aS, cS, aJ, cJ⟩ _ (hS.on hB) hfs.h1 hfs.h2 hfs.h3 hfs.h4).mono ?_
  rintro e W ⟨rfl, hb⟩
  clear c0 c1 c2 c3 c4 c5
  replace hk := hk.below hb hk.lt
  replace hB := hB.trans (hb.mono hB.size)
  clear hb
  have c0 := hk.cell_ 0 rfl
  have c1 := hk.cell_ 1 rfl
  have c2 := hk.cell_ 2 rfl
  have c3 := hk.cell_ 3 rfl
  have c4 := hk.cell_ 4 rfl
  have c5 := hk.cell_ 5 rfl
  dsimp only
  rw [hvB]
  have lk0 := hk.lt
  go_wp2_with fail
  refine (newDesk_any ⟨p, aH, cH, aS, cS, aJ, cJ⟩ _ (hS.on hB) hv).mono ?_
  rintro e W ⟨g, mb, bo, bp, brs, rfl, hb, hD⟩
  clear c0 c1 c2 c3 c4 c5
  replace hk := hk.below hb hk.lt
  replace hB := hB.trans (hb.mono hB.size)
  clear hb
  have c0 := hk.cell_ 0 rfl
  have c1 := hk.cell_ 1 rfl
  have c2 := hk.cell_ 2 rfl
  have c3 := hk.cell_ 3 rfl
  have c4 := hk.cell_ 4 rfl
  have c5 := hk.cell_ 5 rfl
  obtain ⟨B0, hB0⟩ : ∃ B0 : Nat, w.heap.size < B0 ∧ DeskAt B0 W g mb bo bp brs ⟨p, aH, cH, aS, cS, aJ, cJ⟩ (desk0 p) := ⟨_, lk0, hD⟩
  clear hD lk0
  obtain ⟨hB0, hD⟩ := hB0
  have hmk : ∀ w, (Instr.makeSlice 22 (.int .i64 p.jobs.length) (.int .i64 p.jobs.length)).run Try.prog w = .ok (.slice (some ⟨w.heap.size, 0, none⟩) p.jobs.length p.jobs.length) (w.alloc (.cells (Array.replicate p.jobs.length (Value.int .i64 0)) 3)) := fun w => by
    have := HMK.out w
    simpa using this
  have HDB := hide (hD.notOf (q := W.heap.size) (.inr (Nat.le_refl _)))
  have HDN := hide (fun q (hq : q ∈ g :: mb :: bo :: bp :: brs) => Nat.ne_of_lt (hD.lts q hq))
  have lk1 := hk.lt
  have q_c0 := (hk.alloc (.cells (Array.replicate p.jobs.length (Value.int .i64 0)) 3)).cell_ 0 rfl
  have q_c1 := (hk.alloc (.cells (Array.replicate p.jobs.length (Value.int .i64 0)) 3)).cell_ 1 rfl
  have q_c2 := (hk.alloc (.cells (Array.replicate p.jobs.length (Value.int .i64 0)) 3)).cell_ 2 rfl
  have q_c3 := (hk.alloc (.cells (Array.replicate p.jobs.length (Value.int .i64 0)) 3)).cell_ 3 rfl
  have q_c4 := (hk.alloc (.cells (Array.replicate p.jobs.length (Value.int .i64 0)) 3)).cell_ 4 rfl
  have q_c5 := (hk.alloc (.cells (Array.replicate p.jobs.length (Value.int .i64 0)) 3)).cell_ 5 rfl
  go_wp2_with fail
  clear q_c0 q_c1 q_c2 q_c3 q_c4 q_c5
  clear c0 c1 c2 c3 c4 c5
  have hdn := Blk.new W 3 (Array.replicate p.jobs.length (Value.int .i64 0))
  replace hk := hk.alloc (.cells (Array.replicate p.jobs.length (Value.int .i64 0)) 3)
  replace hD := hD.below ((Below.refl _ W).alloc (Nat.le_refl _) (.cells (Array.replicate p.jobs.length (Value.int .i64 0)) 3))
  have hsz_db : (W.alloc (.cells (Array.replicate p.jobs.length (Value.int .i64 0)) 3)).heap.size = W.heap.size + 1 := by simp
  have dbge := hB.size
  replace hB := hB.alloc hB.size (.cells (Array.replicate p.jobs.length (Value.int .i64 0)) 3)
  generalize hdb : W.heap.size = db at *
  generalize W.alloc (.cells (Array.replicate p.jobs.length (Value.int .i64 0)) 3) = W at *
  clear hdb
  have c0 := hk.cell_ 0 rfl
  have c1 := hk.cell_ 1 rfl
  have c2 := hk.cell_ 2 rfl
  have c3 := hk.cell_ 3 rfl
  have c4 := hk.cell_ 4 rfl
  have c5 := hk.cell_ 5 rfl
  rw [ints_zero'] at hdn
  clear hmk hsz_db
  clear c0 c1 c2 c3 c4 c5
  go_loopg [6] (total p) (fun gk x W => ∃ (S : DS) (D : Desk) (dn : List Int), Hid (iterS p gk S = iterS p (total p) (ds0 p)) ∧ Hid (gk + cnt S.pl = total p) ∧ VS p S ∧ PD p S D dn ∧ DeskAt B0 W g mb bo bp brs ⟨p, aH, cH, aS, cS, aJ, cJ⟩ D ∧ Blk W db 3 (ints dn) ∧ Blk W w.heap.size 25 #[.int .i64 p.op, .int .i64 p.cl, .slice aH p.hol.length cH, .int .i64 p.mach, .slice aS p.setup.length cS, .slice aJ p.jobs.length cJ] ∧ Below w.heap.size w W)
  case atStart => exact ⟨ds0 p, desk0 p, List.replicate p.jobs.length 0, hide rfl, hide (by rw [cnt_start]; omega), VS.start p, PD.start p, hD, hdn, hk, hB⟩
  case round =>
    clear hk hB hD hdn
    obtain ⟨W, rfl⟩ : ∃ W : World, W = wr := ⟨_, rfl⟩
    obtain ⟨S, D, dn, HIT, HCN, hVS, hPD, hD, hdn, hk, hB⟩ := hrel
    have c0 := hk.cell_ 0 rfl
    have c1 := hk.cell_ 1 rfl
    have c2 := hk.cell_ 2 rfl
    have c3 := hk.cell_ 3 rfl
    have c4 := hk.cell_ 4 rfl
    have c5 := hk.cell_ 5 rfl
    go_wp2_with fail
    clear c0 c1 c2 c3 c4 c5
    go_loopw [6, 7, 23] (fun a b c W => ∃ (j : Nat) (acc : Option (Nat × Int)), a = .int .i64 (accB acc) ∧ b = .int .i64 (accT acc) ∧ c = .int .i64 j ∧ j ≤ p.jobs.length ∧ Hid (bestF p S = bestFrom p S.last j (p.jobs.drop j) (S.pl.drop j) acc) ∧ AccOk p S acc ∧ Blk W w.heap.size 25 #[.int .i64 p.op, .int .i64 p.cl, .slice aH p.hol.length cH, .int .i64 p.mach, .slice aS p.setup.length cS, .slice aJ p.jobs.length cJ] ∧ DeskAt B0 W g mb bo bp brs ⟨p, aH, cH, aS, cS, aJ, cJ⟩ D ∧ Blk W db 3 (ints dn) ∧ Below w.heap.size w W) (fun a b c _ => p.jobs.length - (intOf c).toNat)
    case atStart => exact ⟨0, none, rfl, rfl, rfl, Nat.zero_le _, hide rfl, (fun b t h => by cases h), hk, hD, hdn, hB⟩
    case round =>
      clear hk hB hD hdn
      obtain ⟨W, rfl⟩ : ∃ W : World, W = wr := ⟨_, rfl⟩
      obtain ⟨j, acc, rfl, rfl, rfl, hj, HS, hAc, hk, hD, hdn, hB⟩ := hrel
      by_cases hlt : j < p.jobs.length
      · obtain ⟨st, hst⟩ : ∃ st, p.jobs[j]? = some st := ⟨_, List.getElem?_eq_getElem hlt⟩
        obtain ⟨l, hl⟩ : ∃ l, S.pl[j]? = some l := ⟨_, List.getElem?_eq_getElem (by rw [hVS.len]; exact hlt)⟩
        have hrw := (hVS.row j st l hst hl).1
        have hsl := (hv.steps j st hst).1
        obtain ⟨b, off, A', c', hA', hb0, hc, hSl⟩ := job_at (hS.on hB).jobs hst
        dsimp only at hA'
        subst hA'
        have HDR := hide (bestFrom_drop (p := p) (last := S.last) (acc := acc) hst hl)
        have HX := hide (And.intro hst hl)
        clear hst hl
        have hji : (j : Int) < (p.jobs.length : Int) := by omega
        have c0 := hk.cell_ 0 rfl
        have c1 := hk.cell_ 1 rfl
        have c2 := hk.cell_ 2 rfl
        have c3 := hk.cell_ 3 rfl
        have c4 := hk.cell_ 4 rfl
        have c5 := hk.cell_ 5 rfl
        have q_c0 := (hk.alloc (.cells #[.slice A' st.length c'] 67)).cell_ 0 rfl
        have q_c1 := (hk.alloc (.cells #[.slice A' st.length c'] 67)).cell_ 1 rfl
        have q_c2 := (hk.alloc (.cells #[.slice A' st.length c'] 67)).cell_ 2 rfl
        have q_c3 := (hk.alloc (.cells #[.slice A' st.length c'] 67)).cell_ 3 rfl
        have q_c4 := (hk.alloc (.cells #[.slice A' st.length c'] 67)).cell_ 4 rfl
        have q_c5 := (hk.alloc (.cells #[.slice A' st.length c'] 67)).cell_ 5 rfl
        go_wp2_with fail
        clear q_c0 q_c1 q_c2 q_c3 q_c4 q_c5
        clear c0 c1 c2 c3 c4 c5
        have hx := Blk.new W 67 #[.slice A' st.length c']
        replace hk := hk.alloc (.cells #[.slice A' st.length c'] 67)
        replace hD := hD.below ((Below.refl _ W).alloc (Nat.le_refl _) (.cells #[.slice A' st.length c'] 67))
        replace hdn := hdn.alloc (.cells #[.slice A' st.length c'] 67)
        replace hSl := (hSl.below ((Below.refl _ W).alloc (Nat.le_refl _) (.cells #[.slice A' st.length c'] 67))).more ((Below.refl _ W).alloc (Nat.le_refl _) (.cells #[.slice A' st.length c'] 67)).size
        replace hB := hB.alloc hB.size (.cells #[.slice A' st.length c'] 67)
        generalize W.alloc (.cells #[.slice A' st.length c'] 67) = W at *
        have c0 := hk.cell_ 0 rfl
        have c1 := hk.cell_ 1 rfl
        have c2 := hk.cell_ 2 rfl
        have c3 := hk.cell_ 3 rfl
        have c4 := hk.cell_ 4 rfl
        have c5 := hk.cell_ 5 rfl
        have x0 := hx.cell_ 0 rfl
        clear hc
        have dnj := hdn.cell_ j (ints_get (hPD.dn j st l HX.out.1 HX.out.2))
        by_cases hfull : l.length = st.length
        · have hbq : ((l.length : Int) == (st.length : Int)) = true := by simp; omega
          have HC : Hid (candT p S.last st l = none) := by show _ = _; unfold candT; rw [List.getElem?_eq_none (by omega)]
          have HFULL := hide hfull
          clear hfull
          go_wp2_with fail
          refine wp_region_quiet (C := fun w' => ∃ u : Since W, w' = u.w) (by kernel_rfl) (by kernel_rfl) (Since.start W) ?_
          dsimp only
          have y_c0 := Since.cell c0
          have y_c1 := Since.cell c1
          have y_c2 := Since.cell c2
          have y_c3 := Since.cell c3
          have y_c4 := Since.cell c4
          have y_c5 := Since.cell c5
          have y_x0 := Since.cell x0
          have y_dnj := Since.cell dnj
          clear c0 c1 c2 c3 c4 c5 x0
          repeat (go_big_quiet_step ((fail)))
          refine wpQuiet_nil ?_
          rintro W ⟨⟨_, hb⟩, rfl⟩
          try dsimp only at hb ⊢
          replace dnj : W.cell? _ = _ := y_dnj ⟨W, hb⟩
          clear y_c0 y_c1 y_c2 y_c3 y_c4 y_c5 y_x0 y_dnj
          replace hk := hk.below hb hk.lt
          replace hD := hD.below hb
          replace hdn := hdn.below hb hdn.lt
          replace hSl := (hSl.below hb).more hb.size
          replace hx := hx.below hb hx.lt
          replace hB := hB.trans (hb.mono hB.size)
          clear hb
          have c0 := hk.cell_ 0 rfl
          have c1 := hk.cell_ 1 rfl
          have c2 := hk.cell_ 2 rfl
          have c3 := hk.cell_ 3 rfl
          have c4 := hk.cell_ 4 rfl
          have c5 := hk.cell_ 5 rfl
          have x0 := hx.cell_ 0 rfl
          go_wp2_with fail
          go_roundw
          case rel => exact ⟨j + 1, acc, rfl, rfl, by go_num, by omega, (by show _ = _; rw [HS.out, HDR.out, HC.out]; rfl), hAc, hk, hD, hdn, hB⟩
          case measure => simp [intOf]; omega
        · have hbq : ((l.length : Int) == (st.length : Int)) = false := by simp; omega
          obtain ⟨x, hxx⟩ : ∃ x, st[l.length]? = some x := ⟨_, List.getElem?_eq_getElem (by omega)⟩
          obtain ⟨b2, off2, hA2, hb2, d0, d1, d2, d3⟩ := hSl.at4_ hxx
          obtain ⟨t0, hcd⟩ : ∃ t0, candT p S.last st l = some t0 := by unfold candT; rw [hxx]; exact ⟨_, rfl⟩
          obtain ⟨x', hx1, ht1, ht2, ht3⟩ := candT_some hv hVS HX.out.1 HX.out.2 hcd
          obtain rfl : x' = x := by rw [hxx] at hx1; injection hx1 with hx1; exact hx1.symm
          obtain ⟨r1, r2⟩ := rdy_bd hv hVS HX.out.1 HX.out.2
          obtain ⟨_, _, x1, x2, _, _, _, _⟩ := (hv.steps j st HX.out.1).2 _ _ hxx
          have htl := total_le hv
          have hcl := hVS.cnt_le
          have hbd1 : bd (cnt S.pl) + 11440 ≤ 1000000000 := by unfold bd; omega
          have hbd2 : bd (cnt S.pl + 1) ≤ 1000000000 := by unfold bd; push_cast; omega
          have HEF := hide (show earlF p D j x' = t0 by rw [hPD.earl HX.out.1 HX.out.2]; exact ht1.symm)
          have HCD := hide hcd
          have HON := hide (hPD.on j st l HX.out.1 HX.out.2)
          have HLF := hide (fun b (hb : look D.last x'.m = some b) => (hVS.last _ b (by rw [← hPD.last]; exact hb)).1)
          have hli : (l.length : Int) < (st.length : Int) := by omega
          clear hxx hcd hx1 ht1
          subst hA2
          go_wp2_with fail
          refine wp_region_quiet (C := fun w' => ∃ u : Since W, w' = u.w) (by kernel_rfl) (by kernel_rfl) (Since.start W) ?_
          dsimp only
          have y_c0 := Since.cell c0
          have y_c1 := Since.cell c1
          have y_c2 := Since.cell c2
          have y_c3 := Since.cell c3
          have y_c4 := Since.cell c4
          have y_c5 := Since.cell c5
          have y_x0 := Since.cell x0
          have y_dnj := Since.cell dnj
          have y_d0 := Since.cell d0
          have y_d1 := Since.cell d1
          have y_d2 := Since.cell d2
          have y_d3 := Since.cell d3
          clear c0 c1 c2 c3 c4 c5 x0
          repeat (go_big_quiet_step ((fail)))
          refine wpQuiet_nil ?_
          rintro W ⟨⟨_, hb⟩, rfl⟩
          try dsimp only at hb ⊢
          replace dnj : W.cell? _ = _ := y_dnj ⟨W, hb⟩
          replace d0 : W.cell? _ = _ := y_d0 ⟨W, hb⟩
          replace d1 : W.cell? _ = _ := y_d1 ⟨W, hb⟩
          replace d2 : W.cell? _ = _ := y_d2 ⟨W, hb⟩
          replace d3 : W.cell? _ = _ := y_d3 ⟨W, hb⟩
          clear y_c0 y_c1 y_c2 y_c3 y_c4 y_c5 y_x0 y_dnj y_d0 y_d1 y_d2 y_d3
          replace hk := hk.below hb hk.lt
          replace hD := hD.below hb
          replace hdn := hdn.below hb hdn.lt
          replace hSl := (hSl.below hb).more hb.size
          replace hx := hx.below hb hx.lt
          replace hB := hB.trans (hb.mono hB.size)
          clear hb
          have c0 := hk.cell_ 0 rfl
          have c1 := hk.cell_ 1 rfl
          have c2 := hk.cell_ 2 rfl
          have c3 := hk.cell_ 3 rfl
          have c4 := hk.cell_ 4 rfl
          have c5 := hk.cell_ 5 rfl
          have x0 := hx.cell_ 0 rfl
          have HSW := hS.on hB
          go_wp2_with fail
          refine wp_region_quiet (C := fun w' => ∃ u : Since W, w' = u.w) (by kernel_rfl) (by kernel_rfl) (Since.start W) ?_
          dsimp only
          have y_c0 := Since.cell c0
          have y_c1 := Since.cell c1
          have y_c2 := Since.cell c2
          have y_c3 := Since.cell c3
          have y_c4 := Since.cell c4
          have y_c5 := Since.cell c5
          have y_x0 := Since.cell x0
          have y_dnj := Since.cell dnj
          have y_d0 := Since.cell d0
          have y_d1 := Since.cell d1
          have y_d2 := Since.cell d2
          have y_d3 := Since.cell d3
          clear c0 c1 c2 c3 c4 c5 x0
          repeat (go_big_quiet_step ((go_at_call 61; exact Since.calls (earliest_is B0 g mb bo bp brs ⟨p, aH, cH, aS, cS, some ⟨b, off, none⟩, cJ⟩ D j x' _ t0 _ (HSW.on (Since.h _)) hv (hD.below (Since.h _)) HON.out r1 (by omega) HLF.out x1 x2 HEF.out))))
          refine wpQuiet_nil ?_
          rintro W ⟨⟨_, hb⟩, rfl⟩
          try dsimp only at hb ⊢
          replace dnj : W.cell? _ = _ := y_dnj ⟨W, hb⟩
          replace d0 : W.cell? _ = _ := y_d0 ⟨W, hb⟩
          replace d1 : W.cell? _ = _ := y_d1 ⟨W, hb⟩
          replace d2 : W.cell? _ = _ := y_d2 ⟨W, hb⟩
          replace d3 : W.cell? _ = _ := y_d3 ⟨W, hb⟩
          clear y_c0 y_c1 y_c2 y_c3 y_c4 y_c5 y_x0 y_dnj y_d0 y_d1 y_d2 y_d3
          replace hk := hk.below hb hk.lt
          replace hD := hD.below hb
          replace hdn := hdn.below hb hdn.lt
          replace hSl := (hSl.below hb).more hb.size
          replace hx := hx.below hb hx.lt
          replace hB := hB.trans (hb.mono hB.size)
          clear hb
          have c0 := hk.cell_ 0 rfl
          have c1 := hk.cell_ 1 rfl
          have c2 := hk.cell_ 2 rfl
          have c3 := hk.cell_ 3 rfl
          have c4 := hk.cell_ 4 rfl
          have c5 := hk.cell_ 5 rfl
          have x0 := hx.cell_ 0 rfl
          cases acc with
          | none =>
            have eb : accB (none : Option (Nat × Int)) = -1 := rfl
            have HUP : Hid (upd none j (candT p S.last st l) = some (j, t0)) := by show _ = _; rw [HCD.out]; rfl
            go_wp2_with fail
            go_roundw
            case rel => exact ⟨j + 1, some (j, t0), rfl, rfl, by go_num, by omega, (by show _ = _; rw [HS.out, HDR.out, HUP.out]), (fun b t h => by injection h with h; injection h with h1 h2; subst h1 h2; exact ⟨ht2, by omega, hlt⟩), hk, hD, hdn, hB⟩
            case measure => simp [intOf]; omega
          | some q =>
            obtain ⟨b0, w0⟩ := q
            obtain ⟨a1, a2, a3⟩ := hAc b0 w0 rfl
            have eb : accB (some (b0, w0)) = (b0 : Int) := rfl
            have et : accT (some (b0, w0)) = w0 := rfl
            have eb2 : ¬ (b0 : Int) < 0 := by omega
            have eb3 : decide ((b0 : Int) < 0) = false := decide_eq_false eb2
            by_cases htw : t0 < w0
            · have htw2 : decide (t0 < w0) = true := decide_eq_true htw
              have HUP : Hid (upd (some (b0, w0)) j (candT p S.last st l) = some (j, t0)) := by show _ = _; rw [HCD.out]; unfold upd; simp [htw]
              go_wp2_with fail
              go_roundw
              case rel => exact ⟨j + 1, some (j, t0), rfl, rfl, by go_num, by omega, (by show _ = _; rw [HS.out, HDR.out, HUP.out]), (fun b t h => by injection h with h; injection h with h1 h2; subst h1 h2; exact ⟨ht2, by omega, hlt⟩), hk, hD, hdn, hB⟩
              case measure => simp [intOf]; omega
            · have htw2 : decide (t0 < w0) = false := decide_eq_false htw
              have HUP : Hid (upd (some (b0, w0)) j (candT p S.last st l) = some (b0, w0)) := by show _ = _; rw [HCD.out]; unfold upd; simp [htw]
              go_wp2_with fail
              go_roundw
              case rel => exact ⟨j + 1, some (b0, w0), rfl, rfl, by go_num, by omega, (by show _ = _; rw [HS.out, HDR.out, HUP.out]), hAc, hk, hD, hdn, hB⟩
              case measure => simp [intOf]; omega
      · obtain rfl : j = p.jobs.length := by omega
        have HBF : Hid (bestF p S = acc) := by show _ = _; rw [HS.out, nomore]; simp [bestFrom]
        cases acc with
        | none =>
          have eb : accB (none : Option (Nat × Int)) = -1 := rfl
          have hfin : dispF p = D.plan := by unfold dispF; rw [← HIT.out, iterS_none HBF.out]; exact (hPD.done hVS HBF.out).symm
          have HFIN := hide hfin
          clear hfin
          have g8 := hD.blk.cell_ 8 rfl
          go_wp2_with fail
          go_ret2
          exact ⟨some ⟨bp, 0, none⟩, D.plan.length, by rw [HFIN.out]; rfl, hB, by rw [HFIN.out]; exact hD.plan_⟩
        | some q =>
          obtain ⟨b0, t0⟩ := q
          obtain ⟨st, l, x, h1, h2, h3, h4, h5, h6, h7⟩ := best_at hv hVS HBF.out
          clear h4
          obtain ⟨hVS2, hcn2⟩ := hVS.put_ hv HBF.out
          have htl := total_le hv
          have hcl := hVS.cnt_le
          have hbd2 : bd (cnt S.pl + 1) ≤ 1000000000 := by unfold bd; push_cast; omega
          have hjl := (List.getElem?_eq_some_iff.1 h1).1
          have hxl := (List.getElem?_eq_some_iff.1 h3).1
          have hs8 := (hv.steps b0 st h1).1
          have hrw := (hVS.row b0 st l h1 h2).1
          have hpp := hPD.pl b0 st l h1 h2
          have hfit : AtFit p ⟨b0, l.length, t0, x⟩ := by
            have hq := hVS2.last x.m ⟨b0, l.length, t0, x⟩ (by rw [putS_eq t0 h1 h2 h3]; show look (put _ _ _) _ = _; rw [look_put, if_pos rfl])
            exact hq.1
          have hPD2 := hPD.put_ t0 h1 h2 h3
          have dnb := hdn.cell_ b0 (ints_get (hPD.dn b0 st l h1 h2))
          have eb : accB (some (b0, t0)) = (b0 : Int) := rfl
          have et : accT (some (b0, t0)) = t0 := rfl
          have eb2 : ¬ (b0 : Int) < 0 := by omega
          have hbi : (b0 : Int) < (p.jobs.length : Int) := by omega
          have hdl := hPD.dnl
          have HPL := hide (show b0 < D.on.length by rw [hPD.onl]; exact hjl)
          have HH := hide (And.intro h1 (And.intro h2 (And.intro h3 hpp)))
          have HVC := hide hcn2
          have HDL := hide (show b0 < (ints dn).size by rw [ints_size, hdl]; exact hjl)
          have HIT2 : Hid (iterS p (gk - 1) (putS p S b0 t0) = iterS p (total p) (ds0 p)) := by
            show _ = _
            have := HCN.out
            rw [← HIT.out, show gk = (gk - 1) + 1 by omega, iterS_some HBF.out]; rfl
          have HCN2 : Hid (gk - 1 + cnt (putS p S b0 t0).pl = total p) := by show _ = _; have := HCN.out; rw [hcn2]; omega
          have hgk := hide (show gk - 1 < gk by have := HCN.out; omega)
          clear h1 h2 h3 hpp hcn2 hdl
          have c0 := hk.cell_ 0 rfl
          have c1 := hk.cell_ 1 rfl
          have c2 := hk.cell_ 2 rfl
          have c3 := hk.cell_ 3 rfl
          have c4 := hk.cell_ 4 rfl
          have c5 := hk.cell_ 5 rfl
          go_wp2_with fail
          refine (put_any B0 g mb bo bp brs ⟨p, aH, cH, aS, cS, aJ, cJ⟩ D b0 l.length t0 st x _ _ (hS.on hB) hD HH.out.1 HH.out.2.2.1 HH.out.2.2.2 (by simp; omega) HPL.out h5 (by omega) hfit (by show p.jobs.length ≤ _; omega) (by omega)).mono ?_
          rintro e W2 ⟨rfl, hD2, hC⟩
          have hdn2 := hdn.chg hC HDB.out
          have hk2 := hk.chg hC (hD.notOf (.inl hB0))
          have hB2 := hB.trans (hC.to_below hB.size fun q hq => hD.notOf (.inl (by omega)))
          clear hD hdn hk hB hC dnb c0 c1 c2 c3 c4 c5
          have dnb := hdn2.cell_ b0 (ints_get (hPD.dn b0 st l HH.out.1 HH.out.2.1))
          go_wp2_with (refine wpList_store_at rfl 3 _ _ rfl (.int .i64 ((l.length : Int) + 1)) hdn2 rfl rfl (by kernel_rfl) rfl HDL.out rfl ?_; intro W3 hdn3 hc3)
          rw [ints_set] at hdn3
          have hD3 := hD2.chg hc3 (fun q hq he => HDN.out q hq he)
          go_roundg (gk - 1)
          case measure => exact hgk.out
          case rel => exact ⟨putS p S b0 t0, _, _, HIT2, HCN2, hVS2, hPD2, hD3, hdn3, hk2.chg1 hc3 (by omega), hB2.trans (hc3.below1 hB2.size dbge)⟩
end Go.Proofs.Ytcpnfcnobnjhdaa

/- The reference's Dispatch: its memory; when a job is ready. -/
namespace Go.Proofs.Ytcpnfcnobnjhdaa
open Go.RowKit
theorem et_i : ElemT Try.prog 22 3 1 := elemT_mk Try.underlying22 (z := .int .i64 0) (bytes := 8) (by kernel_rfl) rfl (by omega) (by omega)
/-- append of one element that lies in a block known whole: only the list's own block turns -/
theorem wpList_app_lies {α : Type} {P : Program} {ops : Array Oper} {rest : List Oper} {o : Oper} {a : Act} {Q : Exit → Act → World → Prop} {w : World} {base : Nat} {e : TypeId} {sz : Nat} {f : α → List Value} {v : Value} {l : List α} {cs : Array Value} {y : α} {nb : Nat} (s x : Operand) {t : TypeId} (hgd : o.guard = none)
    (ho : o.op = .call { callee := .builtin .append, args := #[s, x], argTypes := #[t, t] }) (he : ElemT P t e sz) (hown : Own w base e sz f v l) (hs : a.eval s = v) (hx : a.eval x = .slice (some ⟨nb, 0, none⟩) 1 1)
    (hbl : Blk w nb e cs) (hcs : cs.toList = f y) (hsz : (f y).length = sz) (h1 : (f y).all Value.oneCell' = true) (hlen : l.length ≤ 1000000000) (hbase : base ≤ w.heap.size)
    (h : ∀ g cap w', Own w' base e sz f (.slice (some ⟨g, 0, none⟩) (l.length + 1) cap) (l ++ [y]) → w.grownBy w' v.ownBlock → (v.ownBlock = some g ∨ g = w.heap.size) → g < w'.heap.size → wpList P ops Q rest (a.put o.dst (.slice (some ⟨g, 0, none⟩) (l.length + 1) cap)) w') : wpList P ops Q (o :: rest) a w := by
  obtain ⟨i, z, bytes, ht, hi, hz, hsize, hby, hzs, h0, hb⟩ := he
  refine wpList_append_lies w hgd s x t ho base e i z sz bytes ht hi hz hsize hby hzs h0 v l.length (l.flatMap f) hs hown ⟨nb, 0, none⟩ 1 1 (f y) hx (by omega) ?_ ?_ (by omega) (by unfold maxLen; omega) ?_ hbase w.heap.size rfl ?_
  · intro j u hu
    rw [← hcs] at hu
    exact World.news_of_block hbl j u hu
  · exact fun u hu => List.all_eq_true.1 h1 u hu
  · calc (l.length + 1) * bytes ≤ 1000000001 * 4096 := Nat.mul_le_mul (by omega) hb
      _ ≤ _ := by omega
  · intro g cap w' h2 h3 h4 h5
    refine h g cap w' ?_ h3 h4 h5
    show w'.ownsRow _ _ _ _ _ _
    rw [List.length_append, List.flatMap_append, List.flatMap_cons, List.flatMap_nil, List.append_nil]
    exact h2
/-- rows that the call owns, each its own block, in a slice -/
structure Grid (B : Nat) (w : World) (bp : Nat) (vs : List Value) (pl : List (List Int)) : Prop where
  blk : Blk w bp 22 vs.toArray
  len : vs.length = pl.length
  own : ∀ (i : Nat) v l, vs[i]? = some v → pl[i]? = some l → Own w B 3 1 intEnc v l
  ap : ∀ (i j : Nat) v v', i ≠ j → vs[i]? = some v → vs[j]? = some v' → ∀ g, v.ownBlock = some g → v'.ownBlock ≠ some g
  lo : bp < B
section
variable {B : Nat} {w w' : World} {bp : Nat} {vs : List Value} {pl : List (List Int)}
theorem Grid.below (h : Grid B w bp vs pl) (hb : Below w.heap.size w w') : Grid B w' bp vs pl :=
  ⟨h.blk.below hb h.blk.lt, h.len, fun i v l h1 h2 => (h.own i v l h1 h2).below hb, h.ap, h.lo⟩
theorem own_chg {α : Type} {w w' : World} {base : Nat} {e : TypeId} {sz : Nat} {f : α → List Value} {v : Value} {l : List α} {g : Nat} (h : Own w base e sz f v l) (hc : Chg (fun k => k = g) w w') (hg : g < base) : Own w' base e sz f v l :=
  World.ownsRow.kept (row := some g) h ⟨hc.os, hc.tape, hc.output, hc.size, fun k hk hne => hc.block k hk fun he => hne (by rw [he])⟩ (by
    cases hv : v.ownBlock with
    | none => exact .inl rfl
    | some q =>
      right
      have := World.ownsRow.lt h q hv
      intro he; injection he with he; omega)
theorem Grid.chg (h : Grid B w bp vs pl) {g : Nat} (hc : Chg (fun k => k = g) w w') (hg : g < B) (hne : bp ≠ g) : Grid B w' bp vs pl :=
  ⟨h.blk.chg1 hc hne, h.len, fun i v l h1 h2 => own_chg (h.own i v l h1 h2) hc hg, h.ap, h.lo⟩
theorem Grid.plan_ (h : Grid B w bp vs pl) : Plan w w.heap.size (some ⟨bp, 0, none⟩) pl := fun i l hl => by
  have hi : i < vs.length := by rw [h.len]; exact (List.getElem?_eq_some_iff.1 hl).1
  have hv : vs[i]? = some vs[i] := List.getElem?_eq_getElem hi
  obtain ⟨A, c, h1, h2⟩ := (h.own i _ l hv hl).form fun _ => rfl
  refine ⟨bp, 0, A, c, rfl, h.blk.lt, ?_, h2⟩
  rw [Nat.zero_add]
  exact h.blk.cell_ i (by rw [← h1]; simp)
theorem Grid.row (h : Grid B w bp vs pl) {i : Nat} {l : List Int} (hl : pl[i]? = some l) : ∃ v, vs[i]? = some v ∧ Own w B 3 1 intEnc v l ∧ w.cell? ⟨bp, i, none⟩ = some v := by
  have hi : i < vs.length := by rw [h.len]; exact (List.getElem?_eq_some_iff.1 hl).1
  have hv : vs[i]? = some vs[i] := List.getElem?_eq_getElem hi
  exact ⟨vs[i], hv, h.own i _ l hv hl, h.blk.cell_ i (by simp)⟩
/-- append to a row, and back -/
theorem Grid.app (h : Grid B w bp vs pl) {i : Nat} {v v' : Value} {l : List Int} {t : Int} {g : Nat} {w'' : World} (hv : vs[i]? = some v) (hl : pl[i]? = some l) (hown : Own w' B 3 1 intEnc v' (l ++ [t])) (hg : w.grownBy w' v.ownBlock) (hvg : v'.ownBlock = some g)
    (hf : v.ownBlock = some g ∨ w.heap.size ≤ g) (hb : Blk w'' bp 22 (vs.set i v').toArray) (hc : Chg (fun k => k = bp) w' w'') : Grid B w'' bp (vs.set i v') (pl.modify i fun l => l ++ [t]) := by
  have hil := (List.getElem?_eq_some_iff.1 hv).1
  refine ⟨hb, by simpa using h.len, fun j u m h1 h2 => ?_, fun j k u u' hne h1 h2 q hq => ?_, h.lo⟩
  · rw [List.getElem?_set] at h1
    rw [modify_get] at h2
    by_cases hij : i = j
    · subst hij
      rw [if_pos rfl, if_pos hil] at h1
      rw [if_pos rfl, hl] at h2
      injection h1 with h1
      injection h2 with h2
      subst h1 h2
      exact own_chg hown hc h.lo
    · rw [if_neg hij] at h1 h2
      refine own_chg ?_ hc h.lo
      refine World.ownsRow.kept (h.own j u m h1 h2) hg ?_
      cases hu : u.ownBlock with
      | none => exact .inl rfl
      | some q =>
        right
        intro he
        exact h.ap i j v u hij hv h1 q he.symm hu
  · rw [List.getElem?_set] at h1 h2
    have old : ∀ (j : Nat) u, j ≠ i → vs[j]? = some u → u.ownBlock ≠ some g := fun j u hj hu he => by
      rcases hf with hf | hf
      · exact h.ap i j v u (Ne.symm hj) hv hu g hf he
      · have hm : j < pl.length := by rw [← h.len]; exact (List.getElem?_eq_some_iff.1 hu).1
        have := (World.ownsRow.lt (h.own j u _ hu (List.getElem?_eq_getElem hm)) g he).2
        omega
    by_cases hij : i = j
    · subst hij
      rw [if_pos rfl, if_pos hil] at h1
      injection h1 with h1
      subst h1
      rw [hvg] at hq
      injection hq with hq
      subst hq
      rw [if_neg hne] at h2
      exact old k u' (Ne.symm hne) h2
    · rw [if_neg hij] at h1
      by_cases hik : i = k
      · subst hik
        rw [if_pos rfl, if_pos hil] at h2
        injection h2 with h2
        subst h2
        rw [hvg]
        intro he
        injection he with he
        subst he
        exact old j u (Ne.symm hij) h1 hq
      · rw [if_neg hik] at h2
        exact h.ap j k u u' hne h1 h2 q hq
end
set_option maxRecDepth 100000 in
theorem readyL_any (s : Sh) (A : Option Addr) (c : Nat) (pl : List (List Int)) (j : Nat) (st : List Step) (l : List Int) (w : World) (hS : ShAt w w.heap.size s) (hv : VShop s.p) (hP : Plan w w.heap.size A pl)
    (hj : s.p.jobs[j]? = some st) (hl : pl[j]? = some l) (hle : l.length ≤ st.length) (hb : ∀ (i : Nat) t, l[i]? = some t → 0 ≤ t ∧ t ≤ 1000000000) :
    Calls Try.prog 63 #[.agg #[.int .i64 s.p.op, .int .i64 s.p.cl, .slice s.aH s.p.hol.length s.cH, .int .i64 s.p.mach, .slice s.aS s.p.setup.length s.cS, .slice s.aJ s.p.jobs.length s.cJ], .slice A pl.length c, .agg #[.int .i64 j, .int .i64 l.length]] w fun e w' => e = .returned (.int .i64 (rdy st l)) ∧ Below w.heap.size w w' := by
  have hs8 := (hv.steps j st hj).1
  rcases Nat.eq_zero_or_pos l.length with h0 | h0
  · have h1 : rdy st l = 0 := by unfold rdy; rw [h0]
    rw [h1, h0]
    exact ready0_any s A c pl.length j w
  · obtain ⟨k, hk⟩ : ∃ k, l.length = k + 1 := ⟨l.length - 1, by omega⟩
    obtain ⟨t, e1⟩ : ∃ t, l[k]? = some t := ⟨_, List.getElem?_eq_getElem (by omega)⟩
    obtain ⟨x, e2⟩ : ∃ x, st[k]? = some x := ⟨_, List.getElem?_eq_getElem (by omega)⟩
    obtain ⟨_, _, x1, x2, _, _, x3, x4⟩ := (hv.steps j st hj).2 k _ e2
    have v0 := hv.op0
    have v1 := hv.cl
    have hbt := hb k _ e1
    have h1 : rdy st l = t + x.mi + x.d := by
      unfold rdy; rw [hk]
      simp only [List.getD_eq_getElem?_getD, e1, e2, Option.getD_some]
    rw [h1]
    exact ready1k_any s A c pl j k st x l t (l.length : Int) (by omega) w hS hP hj e2 hl e1 (by omega) ⟨by omega, by omega⟩ ⟨by omega, by omega⟩ ⟨x3, by omega⟩
theorem readyL_n (s : Sh) (A : Option Addr) (n c : Nat) (pl : List (List Int)) (j : Nat) (st : List Step) (l : List Int) (w : World) (hn : pl.length = n) (hS : ShAt w w.heap.size s) (hv : VShop s.p) (hP : Plan w w.heap.size A pl)
    (hj : s.p.jobs[j]? = some st) (hl : pl[j]? = some l) (hle : l.length ≤ st.length) (hb : ∀ (i : Nat) t, l[i]? = some t → 0 ≤ t ∧ t ≤ 1000000000) :
    Calls Try.prog 63 #[.agg #[.int .i64 s.p.op, .int .i64 s.p.cl, .slice s.aH s.p.hol.length s.cH, .int .i64 s.p.mach, .slice s.aS s.p.setup.length s.cS, .slice s.aJ s.p.jobs.length s.cJ], .slice A n c, .agg #[.int .i64 j, .int .i64 l.length]] w fun e w' => e = .returned (.int .i64 (rdy st l)) ∧ Below w.heap.size w w' := by
  subst hn; exact readyL_any s A c pl j st l w hS hv hP hj hl hle hb
theorem rep_set {α : Type} (m q : Nat) (a b : α) : (List.replicate m a ++ List.replicate (q + 1) b).set m a = List.replicate (m + 1) a ++ List.replicate q b := by
  rw [List.set_append_right _ _ (by simp), List.replicate_succ' (n := m)]
  simp [List.replicate_succ (n := q)]
theorem Grid.start {w : World} {bp n : Nat} (h : Blk w bp 22 (Array.replicate n (Value.slice none 0 0))) : Grid w.heap.size w bp (List.replicate n (.slice none 0 0)) (List.replicate n []) := by
  refine ⟨by simpa using h, by simp, fun i v l h1 h2 => ?_, fun i j v v' _ h1 _ g hg => ?_, h.lt⟩
  · simp [List.getElem?_replicate] at h1 h2
    rw [← h1.2, h2.2]
    exact Own.nil_
  · simp [List.getElem?_replicate] at h1
    rw [← h1.2] at hg
    cases hg
theorem Blk.grownv {w w' : World} {b : Nat} {t : TypeId} {cs : Array Value} {v : Value} (h : Blk w b t cs) (hg : w.grownBy w' v.ownBlock) (hn : ∀ k, v.ownBlock = some k → b ≠ k) : Blk w' b t cs := h.grown hg fun he => hn b he.symm rfl
theorem grownv_below {B : Nat} {w w' : World} {v : Value} (hg : w.grownBy w' v.ownBlock) (hB : B ≤ w.heap.size) (hn : ∀ k, v.ownBlock = some k → B ≤ k) : Below B w w' :=
  ⟨hg.os, hg.tape, hg.output, hg.size, fun k hk => hg.block k (by omega) fun he => by have := hn k he.symm; omega⟩
end Go.Proofs.Ytcpnfcnobnjhdaa
